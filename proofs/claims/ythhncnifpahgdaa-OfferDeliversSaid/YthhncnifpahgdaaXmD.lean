/-
  From a symbolic run to conditions; contracts of calls and loops, and their use at a part of memory. For whatever program; the conditions stand in each statement.
-/
import Derived.Test.YthhncnifpahgdaaXmC
namespace Go.XM
open Go
noncomputable section

/-! ### The checks of a region that draws, put so that they are worked off fast -/

def slotsP (A : List Nat) (p : Nat) (d : Tmp) : Nat → List (Option Tmp × List Tmp) → Bool
  | _, [] => true
  | q, (d', ks) :: l => (Nat.beq p q || ((match d' with | some d' => !(Nat.beq d d') | none => true) && (!(hasN d ks) || (bif Nat.blt p q then anc A p q else anc A q p)))) && slotsP A p d (q + 1) l
def slotsF (A : List Nat) (L : List (Option Tmp × List Tmp)) : Nat → List (Option Tmp × List Tmp) → Bool
  | _, [] => true
  | p, (d, _) :: l => (match d with | some d => slotsP A p d 0 L | none => true) && slotsF A L (p + 1) l
def looksL (ops : List Oper) : List Oper → List (Option Tmp × List Tmp)
  | [] => []
  | o :: l => (o.dst, looks ops o) :: looksL ops l
def edgesF : Nat → List Oper → Bool
  | _, [] => true
  | p, o :: l => edgesOk p o.after.toList && edgesF (p + 1) l
def slotsQ (A : List Nat) (ops : List Oper) : Bool := edgesF 0 ops && slotsF A (looksL ops ops) 0 (looksL ops ops)

theorem looksL_get (ops : List Oper) : ∀ (l : List Oper) (q : Nat), (looksL ops l)[q]? = (l[q]?).map fun o => (o.dst, looks ops o)
  | [], q => by simp [looksL]
  | o :: l, 0 => by simp [looksL]
  | o :: l, q + 1 => by simpa [looksL] using looksL_get ops l q

theorem slotsP_spec {A : List Nat} {p : Nat} {d : Tmp} : ∀ {L : List (Option Tmp × List Tmp)} {q0 : Nat}, slotsP A p d q0 L = true → ∀ (q : Nat) d' ks, L[q]? = some (d', ks) →
    (Nat.beq p (q0 + q) || ((match d' with | some d' => !(Nat.beq d d') | none => true) && (!(hasN d ks) || (bif Nat.blt p (q0 + q) then anc A p (q0 + q) else anc A (q0 + q) p)))) = true
  | [], _, _, q, _, _, h => by simp at h
  | (e, s) :: L, q0, h, q, d', ks, hq => by
    simp only [slotsP, Bool.and_eq_true] at h
    cases q with
    | zero => simp at hq; obtain ⟨rfl, rfl⟩ := hq; exact h.1
    | succ q =>
      have := slotsP_spec h.2 q d' ks (by simpa using hq)
      rw [show q0 + 1 + q = q0 + (q + 1) by omega] at this
      exact this
theorem slotsF_spec {A : List Nat} {L : List (Option Tmp × List Tmp)} : ∀ {l : List (Option Tmp × List Tmp)} {p0 : Nat}, slotsF A L p0 l = true → ∀ (p : Nat) d ks, l[p]? = some (some d, ks) → slotsP A (p0 + p) d 0 L = true
  | [], _, _, p, _, _, h => by simp at h
  | (e, s) :: l, p0, h, p, d, ks, hp => by
    simp only [slotsF, Bool.and_eq_true] at h
    cases p with
    | zero => simp at hp; obtain ⟨rfl, rfl⟩ := hp; exact h.1
    | succ p =>
      have := slotsF_spec h.2 p d ks (by simpa using hp)
      rw [show p0 + 1 + p = p0 + (p + 1) by omega] at this
      exact this
theorem edgesF_spec : ∀ {l : List Oper} {p0 : Nat}, edgesF p0 l = true → ∀ (p : Nat) o, l[p]? = some o → edgesOk (p0 + p) o.after.toList = true
  | [], _, _, p, _, h => by simp at h
  | e :: l, p0, h, p, o, hp => by
    simp only [edgesF, Bool.and_eq_true] at h
    cases p with
    | zero => simp at hp; subst hp; exact h.1
    | succ p =>
      have := edgesF_spec h.2 p o (by simpa using hp)
      rw [show p0 + 1 + p = p0 + (p + 1) by omega] at this
      exact this

theorem allN_of {α : Type} {f : Nat → α → Bool} : ∀ {l : List α} {k : Nat}, (∀ j x, l[j]? = some x → f (k + j) x = true) → allN f k l = true
  | [], _, _ => rfl
  | a :: l, k, h => by
    simp only [allN, Bool.and_eq_true]
    refine ⟨by simpa using h 0 a rfl, allN_of fun j x hj => ?_⟩
    have := h (j + 1) x (by simpa using hj)
    rwa [show k + 1 + j = k + (j + 1) by omega]

theorem slotsQ_ok {A : List Nat} {ops : List Oper} (h : slotsQ A ops = true) : slotsOk A ops = true := by
  unfold slotsQ at h
  simp only [Bool.and_eq_true] at h
  unfold slotsOk
  refine allN_of fun p x hp => ?_
  simp only [Bool.and_eq_true]
  refine ⟨edgesF_spec h.1 p x hp, allN_of fun q y hq => ?_⟩
  simp only [Nat.zero_add]
  cases hd : x.dst with
  | none => simp
  | some d =>
    have h1 := slotsF_spec h.2 p d (looks ops x) (by rw [looksL_get, hp]; simp [hd])
    have h2 := slotsP_spec h1 q y.dst (looks ops y) (by rw [looksL_get, hq]; rfl)
    simp only [Nat.zero_add] at h2
    exact h2

/-- the operations that write or run, and those that look, with their places. -/
def wL : Nat → List Tr → List Nat
  | _, [] => []
  | p, x :: T => bif x.run && isW x.o.op then p :: wL (p + 1) T else wL (p + 1) T
def cL : Nat → List Tr → List (Nat × Tr)
  | _, [] => []
  | p, x :: T => bif isC x then (p, x) :: cL (p + 1) T else cL (p + 1) T
def rL : Nat → List Tr → List (Nat × Nat)
  | _, [] => []
  | p, x :: T => bif x.run && !(isW x.o.op) then (match rdId x.o.op x.r with
      | none => rL (p + 1) T
      | some id => (p, id) :: rL (p + 1) T) else rL (p + 1) T
def fL : Nat → List Tr → List (Nat × Nat)
  | _, [] => []
  | p, x :: T => bif x.run && isF x.o.op then (p, len' x.m) :: fL (p + 1) T else fL (p + 1) T

theorem wL_mem : ∀ {T : List Tr} {p0 : Nat} (p : Nat) x, T[p]? = some x → x.run = true → isW x.o.op = true → p0 + p ∈ wL p0 T
  | [], _, p, x, h, _, _ => by simp at h
  | y :: T, p0, p, x, h, h1, h2 => by
    simp only [wL]
    cases p with
    | zero => simp at h; subst h; simp [h1, h2]
    | succ p =>
      have := wL_mem (p0 := p0 + 1) p x (by simpa using h) h1 h2
      rw [show p0 + 1 + p = p0 + (p + 1) by omega] at this
      cases y.run && isW y.o.op <;> simp [this]
theorem cL_mem : ∀ {T : List Tr} {p0 : Nat} (p : Nat) x, T[p]? = some x → isC x = true → (p0 + p, x) ∈ cL p0 T
  | [], _, p, x, h, _ => by simp at h
  | y :: T, p0, p, x, h, h1 => by
    simp only [cL]
    cases p with
    | zero => simp at h; subst h; simp [h1]
    | succ p =>
      have := cL_mem (p0 := p0 + 1) p x (by simpa using h) h1
      rw [show p0 + 1 + p = p0 + (p + 1) by omega] at this
      cases isC y <;> simp [this]
theorem rL_mem : ∀ {T : List Tr} {p0 : Nat} (p : Nat) x id, T[p]? = some x → x.run = true → isW x.o.op = false → rdId x.o.op x.r = some id → (p0 + p, id) ∈ rL p0 T
  | [], _, p, x, _, h, _, _, _ => by simp at h
  | y :: T, p0, p, x, id, h, h1, h2, h3 => by
    simp only [rL]
    cases p with
    | zero => simp at h; subst h; simp [h1, h2, h3]
    | succ p =>
      have := rL_mem (p0 := p0 + 1) p x id (by simpa using h) h1 h2 h3
      rw [show p0 + 1 + p = p0 + (p + 1) by omega] at this
      cases y.run && !(isW y.o.op) with
      | false => exact this
      | true =>
        simp only [cond_true]
        split
        · exact this
        · exact List.mem_cons_of_mem _ this
theorem fL_mem : ∀ {T : List Tr} {p0 : Nat} (p : Nat) x, T[p]? = some x → x.run = true → isF x.o.op = true → (p0 + p, len' x.m) ∈ fL p0 T
  | [], _, p, x, h, _, _ => by simp at h
  | y :: T, p0, p, x, h, h1, h2 => by
    simp only [fL]
    cases p with
    | zero => simp at h; subst h; simp [h1, h2]
    | succ p =>
      have := fL_mem (p0 := p0 + 1) p x (by simpa using h) h1 h2
      rw [show p0 + 1 + p = p0 + (p + 1) by omega] at this
      cases y.run && isF y.o.op <;> simp [this]

def allL {α : Type} (f : α → Bool) : List α → Bool
  | [] => true
  | a :: l => f a && allL f l
theorem allL_spec {α : Type} {f : α → Bool} : ∀ {l : List α}, allL f l = true → ∀ x ∈ l, f x = true
  | [], _, x, h => by simp at h
  | a :: l, h, x, hx => by
    simp only [allL, Bool.and_eq_true] at h
    rcases List.mem_cons.1 hx with rfl | hx
    · exact h.1
    · exact allL_spec h.2 x hx

def chainQ (A : List Nat) (C : List (Nat × Tr)) (W : List Nat) : Bool := allL (fun c => allL (fun p => !(Nat.blt p c.1) || anc A p c.1) W) C
def freshQ (A : List Nat) (R F : List (Nat × Nat)) : Bool := allL (fun r => allL (fun f => !(Nat.beq f.2 r.2) || (Nat.blt f.1 r.1 && anc A f.1 r.1)) F) R
def obsC (A : List Nat) (p id : Nat) : List (Nat × Tr) → Obs
  | [] => []
  | (q, y) :: l => bif !(bif Nat.blt q p then anc A q p else anc A p q) && !(spares y.o.op y.r y.m id) then .same (nth y.m' id) (nth y.m id) :: obsC A p id l else obsC A p id l
def crossQ (A : List Nat) (C : List (Nat × Tr)) : List (Nat × Nat) → Obs
  | [] => []
  | (p, id) :: R => obsC A p id C ++ crossQ A C R

theorem chainQ_ok {A : List Nat} {T : List Tr} (h : chainQ A (cL 0 T) (wL 0 T) = true) : chainOk A T = true := by
  unfold chainOk
  refine allN_of fun q y hq => ?_
  simp only [Nat.zero_add]
  cases hc : isC y with
  | false => rfl
  | true =>
    simp only [Bool.not_true, Bool.false_or]
    have h1 := allL_spec h _ (cL_mem (p0 := 0) q y hq hc)
    simp only [Nat.zero_add] at h1
    refine allN_of fun p x hp => ?_
    simp only [Nat.zero_add]
    cases hr : x.run with
    | false => simp
    | true =>
      cases hw : isW x.o.op with
      | false => simp
      | true =>
        have h2 := allL_spec h1 _ (wL_mem (p0 := 0) p x hp hr hw)
        simp only [Nat.zero_add] at h2
        simpa using h2
theorem freshQ_ok {A : List Nat} {T : List Tr} (h : freshQ A (rL 0 T) (fL 0 T) = true) : freshOk A T = true := by
  unfold freshOk
  refine allN_of fun p x hp => ?_
  simp only [Nat.zero_add]
  cases hr : x.run with
  | false => simp
  | true =>
    cases hw : isW x.o.op with
    | true => simp
    | false =>
      cases hi : rdId x.o.op x.r with
      | none => simp
      | some id =>
        have h1 := allL_spec h _ (rL_mem (p0 := 0) p x id hp hr hw hi)
        simp only [Nat.zero_add] at h1
        simp only [Bool.not_false, Bool.and_self, Bool.not_true, Bool.false_or]
        refine allN_of fun q y hq => ?_
        simp only [Nat.zero_add]
        cases hyr : y.run with
        | false => simp
        | true =>
          cases hyf : isF y.o.op with
          | false => simp
          | true =>
            have h2 := allL_spec h1 _ (fL_mem (p0 := 0) q y hq hyr hyf)
            simp only [Nat.zero_add] at h2
            simpa using h2

theorem obsC_mem {A : List Nat} {p id : Nat} : ∀ {C : List (Nat × Tr)} {q : Nat} {y : Tr}, (q, y) ∈ C → (!(bif Nat.blt q p then anc A q p else anc A p q)) = true → (!(spares y.o.op y.r y.m id)) = true → Ob.same (nth y.m' id) (nth y.m id) ∈ obsC A p id C
  | [], _, _, h, _, _ => by simp at h
  | (q', y') :: C, q, y, h, h1, h2 => by
    simp only [obsC]
    rcases List.mem_cons.1 h with e | h
    · cases e
      rw [h1, h2]; simp
    · have := obsC_mem h h1 h2
      cases (!(bif Nat.blt q' p then anc A q' p else anc A p q')) && !(spares y'.o.op y'.r y'.m id) <;> simp [this]
theorem crossQ_mem {A : List Nat} {C : List (Nat × Tr)} : ∀ {R : List (Nat × Nat)} {p id : Nat}, (p, id) ∈ R → ∀ q ∈ obsC A p id C, q ∈ crossQ A C R
  | [], _, _, h, _, _ => by simp at h
  | (p', id') :: R, p, id, h, q, hq => by
    simp only [crossQ, List.mem_append]
    rcases List.mem_cons.1 h with e | h
    · cases e; exact .inl hq
    · exact .inr (crossQ_mem h q hq)

theorem flatN_mem {α : Type} {f : Nat → α → Obs} {q : Ob} : ∀ {l : List α} {k : Nat}, q ∈ flatN f k l → ∃ j x, l[j]? = some x ∧ q ∈ f (k + j) x
  | [], _, h => by simp [flatN] at h
  | a :: l, k, h => by
    simp only [flatN, List.mem_append] at h
    rcases h with h | h
    · exact ⟨0, a, rfl, h⟩
    · obtain ⟨j, x, h1, h2⟩ := flatN_mem h
      exact ⟨j + 1, x, by simpa using h1, by rwa [show k + (j + 1) = k + 1 + j by omega]⟩

theorem crossQ_ok {A : List Nat} {T : List Tr} (h : ∀ q ∈ crossQ A (cL 0 T) (rL 0 T), q) : ∀ q ∈ crossObs A T, q := by
  intro q hq
  unfold crossObs at hq
  obtain ⟨p, x, hp, hq⟩ := flatN_mem hq
  simp only [Nat.zero_add] at hq
  cases hr : x.run && !(isW x.o.op) with
  | false => rw [hr] at hq; simp at hq
  | true =>
    rw [hr] at hq
    simp only [cond_true] at hq
    simp only [Bool.and_eq_true, Bool.not_eq_true'] at hr
    cases hi : rdId x.o.op x.r with
    | none => rw [hi] at hq; simp at hq
    | some id =>
      rw [hi] at hq
      simp only at hq
      obtain ⟨c, y, hc, hq⟩ := flatN_mem hq
      simp only [Nat.zero_add] at hq
      cases hb : isC y && !(bif Nat.blt c p then anc A c p else anc A p c) && !(spares y.o.op y.r y.m id) with
      | false => rw [hb] at hq; simp at hq
      | true =>
        rw [hb] at hq
        simp only [cond_true, List.mem_singleton] at hq
        subst hq
        simp only [Bool.and_eq_true] at hb
        have h1 := rL_mem (p0 := 0) p x id hp hr.1 hr.2 hi
        have h2 := cL_mem (p0 := 0) c y hc hb.1.1
        simp only [Nat.zero_add] at h1 h2
        exact h _ (crossQ_mem h1 _ (obsC_mem h2 hb.1.2 hb.2))
end
end Go.XM

namespace Go.XM
open Go
noncomputable section
variable (P : Program)

/-- a run that stands still. -/
inductive Stuck (e : Err) : Prop

abbrev KV := AV → Mem → Prop
abbrev KR := Regs → Mem → Prop
abbrev KC := Ex → Regs → Mem → Prop
abbrev CallV := FuncId → List AV → Mem → KV → Prop
/-- calls by contract. -/
abbrev SpecFn := FuncId → List AV → Mem → KV → Option Prop
/-- loops by contract: the function, the frame, the body. -/
abbrev LoopFn := FuncId → Nat → Code → Regs → Mem → KC → Option Prop

/-- an entry is as it is. -/
def sameX (e : Option Ent) : Prop := e = e

/-- are two values alike, as far as one can look? -/
def sameV : AV → AV → Bool
  | .int s k n, .int s' k' n' => (match s || s' with
    | true => false
    | false => ikEq k k' && decide (n = n'))
  | .bool s b, .bool s' b' => (match s || s' with
    | true => false
    | false => decide (b = b'))
  | .str s b, .str s' b' => (match s || s' with
    | true => false
    | false => decide (b = b'))
  | .nilp, .nilp => true
  | .nils, .nils => true
  | .nilfn, .nilfn => true
  | .nilif, .nilif => true
  | .ptr i o, .ptr i' o' => Nat.beq i i' && Nat.beq o o'
  | .sl .c i lo n, .sl .c i' lo' n' => Nat.beq i i' && Nat.beq lo lo' && Nat.beq n n'
  | _, _ => false
def sameL : List AV → List AV → Bool
  | [], [] => true
  | a :: l, b :: r => sameV a b && sameL l r
  | _, _ => false
def sameLL : List (List AV) → List (List AV) → Bool
  | [], [] => true
  | a :: l, b :: r => sameL a b && sameLL l r
  | _, _ => false
def sameE : Option Ent → Option Ent → Bool
  | some .dead, some .dead => true
  | some (.cells T cs), some (.cells T' cs') => Nat.beq T T' && sameL cs cs'
  | some (.row T ro none sz xs), some (.row T' ro' none sz' xs') => (match ro, ro' with
    | true, true => Nat.beq T T' && (Nat.beq sz sz' && sameLL xs xs')
    | false, false => Nat.beq T T' && (Nat.beq sz sz' && sameLL xs xs')
    | _, _ => false)
  | _, _ => false

theorem sameV_eq {a b : AV} (h : sameV a b = true) : a = b := by
  unfold sameV at h
  split at h <;> (try (split at h)) <;> simp_all [ikEq]
  all_goals (try (rename_i hs; simp at hs; simp_all))
theorem sameL_eq : ∀ {a b : List AV}, sameL a b = true → a = b
  | [], [], _ => rfl
  | [], _ :: _, h => by simp [sameL] at h
  | _ :: _, [], h => by simp [sameL] at h
  | a :: l, b :: r, h => by
    simp only [sameL, Bool.and_eq_true] at h
    rw [sameV_eq h.1, sameL_eq h.2]
theorem sameLL_eq : ∀ {a b : List (List AV)}, sameLL a b = true → a = b
  | [], [], _ => rfl
  | [], _ :: _, h => by simp [sameLL] at h
  | _ :: _, [], h => by simp [sameLL] at h
  | a :: l, b :: r, h => by
    simp only [sameLL, Bool.and_eq_true] at h
    rw [sameL_eq h.1, sameLL_eq h.2]
theorem sameE_eq {a b : Option Ent} (h : sameE a b = true) : a = b := by
  unfold sameE at h
  split at h
  · rfl
  · simp only [Bool.and_eq_true] at h
    have h1 := Nat.eq_of_beq_eq_true h.1
    rw [h1, sameL_eq h.2]
  · split at h
    · simp only [Bool.and_eq_true] at h
      have h0 := Nat.eq_of_beq_eq_true h.1
      have h1 := Nat.eq_of_beq_eq_true h.2.1
      rw [h0, h1, sameLL_eq h.2.2]
    · simp only [Bool.and_eq_true] at h
      have h0 := Nat.eq_of_beq_eq_true h.1
      have h1 := Nat.eq_of_beq_eq_true h.2.1
      rw [h0, h1, sameLL_eq h.2.2]
    · simp at h
  · simp at h

def allF : Obs → Prop → Prop
  | [], k => k
  | .fact p :: l, k => p ∧ allF l k
  | .same a b :: l, k => (match sameE a b with
    | true => allF l k
    | false => a = b ∧ allF l k)

def vGuard (ops : List Oper) (r : Regs) (g : Option (Nat × Bool)) (k : Bool → Prop) : Prop :=
  match g with
  | none => k true
  | some (j, want) => (match nth ops j with
    | some o => (match o.dst with
      | some d => (match get r d with
        | some (.bool false b) => k (b == want)
        | some (.bool true b) => (b = true → k (true == want)) ∧ (b = false → k (false == want))
        | _ => Stuck (.op o r [] []))
      | none => Stuck (.op o r [] []))
    | none => Stuck (.func 0))

/-- what a comparison comes to, where it is not decided by looking. -/
def symB (o : Op) (r : Regs) : Option Bool :=
  match o with
  | .binOp op t x y _ => (match ev r x, ev r y with
    | some a, some b => (match xbin P op t a b [.keep] with
      | some (.bool true b, [], []) => some b
      | _ => none)
    | _, _ => none)
  | _ => none

def pickB (o : Op) (r : Regs) : Option (Bool × AV × AV) :=
  match o with
  | .pick c a b => (match ev r c, ev r a, ev r b with
    | some (.bool true x), some u, some v => some (x, u, v)
    | _, _, _ => none)
  | _ => none

/-- memory, entry by entry (so that no step looks through those before it). -/
def onM : Mem → (Mem → Prop) → Prop
  | [], k => k []
  | .dead :: m, k => onM m fun m => k (.dead :: m)
  | .cells T cs :: m, k => onM m fun m => k (.cells T cs :: m)
  | .row T ro sh sz xs :: m, k => onM m fun m => k (.row T ro sh sz xs :: m)

theorem onM_eq : ∀ (m : Mem) (k : Mem → Prop), onM m k = k m
  | [], _ => rfl
  | .dead :: m, k => by simp only [onM]; rw [onM_eq m]
  | .cells T cs :: m, k => by simp only [onM]; rw [onM_eq m]
  | .row T ro sh sz xs :: m, k => by simp only [onM]; rw [onM_eq m]

/-- does the operation leave memory alone? -/
def still : Op → Bool
  | .alloc _ => false
  | .box _ _ => false
  | .buildSlice _ _ _ => false
  | .store _ _ _ => false
  | .call _ => false
  | _ => true

def vStep (call : CallV) (o : Oper) (r : Regs) (m : Mem) (k : KV) : Prop :=
  match isCall o.op with
  | true => (match xcallee o.op r with
    | some (f, args) => call f args m k
    | none => Stuck (.op o r m []))
  | false => (match xop P o.type o.op r m [] with
    | some (v, m', _, ob) => allF ob (match still o.op with
      | true => k v m'
      | false => onM m' (k v))
    | none => (match symB P o.op r with
      | some b => (b = true → k (.bool false true) m) ∧ (b = false → k (.bool false false) m)
      | none => (match pickB o.op r with
        | some (b, x, y) => (b = true → k x m) ∧ (b = false → k y m)
        | none => Stuck (.op o r m []))))

def vOps (call : CallV) (N : Nat) (ops : List Oper) : List Oper → Regs → Mem → KR → Prop
  | [], r, m, k => k r m
  | o :: l, r, m, k => vGuard ops r o.guard fun b => match b with
    | true => vStep P call o r m fun v m' => match put N r o.dst v with
      | some r' => vOps call N ops l r' m' k
      | none => Stuck (.op o r m [])
    | false => match put N r o.dst (.tup []) with
      | some r' => vOps call N ops l r' m k
      | none => Stuck (.op o r m [])

def vTrace (call : CallV) (N : Nat) (ops : List Oper) : List Oper → Regs → Mem → (List Tr → Regs → Mem → Prop) → Prop
  | [], r, m, k => k [] r m
  | o :: l, r, m, k => vGuard ops r o.guard fun b => match b with
    | true => vStep P call o r m fun v m' => match put N r o.dst v with
      | some r' => vTrace call N ops l r' m' fun T r2 m2 => k (⟨o, true, m, m', r, [], v⟩ :: T) r2 m2
      | none => Stuck (.op o r m [])
    | false => match put N r o.dst (.tup []) with
      | some r' => vTrace call N ops l r' m fun T r2 m2 => k (⟨o, false, m, m, r, [], .tup []⟩ :: T) r2 m2
      | none => Stuck (.op o r m [])

def vDraw (call : CallV) (N : Nat) (ops : List Oper) (r : Regs) (m : Mem) (k : KR) : Prop :=
  match slotsQ (ancs [] ops) ops with
  | true => vTrace P call N ops ops r m fun T r' m' => (match chainQ (ancs [] ops) (cL 0 T) (wL 0 T) && freshQ (ancs [] ops) (rL 0 T) (fL 0 T) with
    | true => allF (crossQ (ancs [] ops) (cL 0 T) (rL 0 T)) (k r' m')
    | false => Stuck (.code (.region 0 ops.toArray true) r m []))
  | false => Stuck (.code (.region 0 ops.toArray true) r m [])

def vCode (call : CallV) (lp : Nat → Code → Regs → Mem → KC → Option Prop) (N : Nat) : Nat → Code → Regs → Mem → KC → Prop
  | 0, c, r, m, _ => Stuck (.code c r m [])
  | n + 1, c, r, m, k => match c with
    | .skip => k .normal r m
    | .ret => k .ret r m
    | .exit id => k (.exit id) r m
    | .region _ ops d => (match d with
      | false => vOps P call N ops.toList ops.toList r m (k .normal)
      | true => vDraw P call N ops.toList r m (k .normal))
    | .seq a b => vCode call lp N n a r m fun e r m => match e with
      | .normal => vCode call lp N n b r m k
      | .ret => k .ret r m
      | .exit id => k (.exit id) r m
    | .cond c a b => (match ev r c with
      | some (.bool false true) => vCode call lp N n a r m k
      | some (.bool false false) => vCode call lp N n b r m k
      | some (.bool true x) => (x = true → vCode call lp N n a r m k) ∧ (x = false → vCode call lp N n b r m k)
      | _ => Stuck (.code (.cond c a b) r m []))
    | .block id c => vCode call lp N n c r m fun e r m => match e with
      | .exit j => k (bif Nat.beq j id then .normal else .exit j) r m
      | .normal => k .normal r m
      | .ret => k .ret r m
    | .loop c => (match lp N c r m k with
      | some Q => Q
      | none => vCode call lp N n c r m fun e r m => match e with
        | .normal => vCode call lp N n (.loop c) r m k
        | .ret => k .ret r m
        | .exit id => k (.exit id) r m)
    | c => Stuck (.code c r m [])

/-- a function's body, run. -/
def vBody (call : CallV) (loops : LoopFn) (f : FuncId) (args : List AV) (m : Mem) (k : KV) : Prop :=
  match P.funcs[f]? with
  | some fn => (match fn.body with
    | some c => (match Nat.ble (len' args) fn.ntmps with
      | true => vCode P call (loops f) fn.ntmps 1000 c (number 0 args) m fun e r m' => match e with
        | .exit _ => Stuck (.func f)
        | .normal => (match xresults P r m' fn.results.toList with
          | some [v] => k v m'
          | some vs => k (.tup vs) m'
          | none => Stuck (.within f (.res r m')))
        | .ret => (match xresults P r m' fn.results.toList with
          | some [v] => k v m'
          | some vs => k (.tup vs) m'
          | none => Stuck (.within f (.res r m')))
      | false => Stuck (.func f))
    | none => Stuck (.func f))
  | none => Stuck (.func f)
end
end Go.XM

namespace Go.XM
open Go
noncomputable section
variable {P : Program}

/-- calls that are answered by a stream. -/
def callP (P : Program) : CallFn := fun f args m st => match st with
  | .call v m' :: st => .ok (v, m', st, [.fact (CallA P f args m v m')])
  | _ => .no (.func f)

theorem callP_ok : CallOk P (callP P) := by
  intro f args m st v m' st' o h ho
  unfold callP at h
  split at h
  · simp at h; obtain ⟨rfl, rfl, rfl, rfl⟩ := h
    exact ho (.fact _) (List.mem_singleton.2 rfl)
  · simp at h

def CallVOk (P : Program) (call : CallV) : Prop := ∀ f args m k, call f args m k → ∃ v m', CallA P f args m v m' ∧ k v m'

theorem allF_spec {k : Prop} : ∀ {o : Obs}, allF o k → (∀ q ∈ o, q) ∧ k
  | [], h => ⟨by simp, h⟩
  | .fact p :: l, ⟨hp, h⟩ => by
    obtain ⟨h1, h2⟩ := allF_spec h
    refine ⟨fun q hq => ?_, h2⟩
    rcases List.mem_cons.1 hq with rfl | hq
    · exact hp
    · exact h1 q hq
  | .same a b :: l, h => by
    obtain ⟨hp, h⟩ : a = b ∧ allF l k := by
      simp only [allF] at h
      split at h
      · rename_i hs; exact ⟨sameE_eq hs, h⟩
      · exact h
    obtain ⟨h1, h2⟩ := allF_spec h
    refine ⟨fun q hq => ?_, h2⟩
    rcases List.mem_cons.1 hq with rfl | hq
    · exact hp
    · exact h1 q hq

def StepTo (P : Program) (o : Oper) (r : Regs) (m : Mem) (st : List Ch) (v : AV) (m' : Mem) : Prop := ∃ st' ob, xstep P (callP P) o r m st = .ok (v, m', st', ob) ∧ ∀ q ∈ ob, q

theorem vGuard_ok {ops : List Oper} {r : Regs} {g : Option (Nat × Bool)} {k : Bool → Prop} (h : vGuard ops r g k) : ∃ b, (∀ st, ∃ st0 ob, xguard ops r g st0 = some (b, st, ob) ∧ ∀ q ∈ ob, q) ∧ k b := by
  unfold vGuard at h
  cases g with
  | none => exact ⟨true, fun st => ⟨st, [], rfl, by simp⟩, h⟩
  | some g =>
    obtain ⟨j, want⟩ := g
    simp only at h
    unfold xguard
    simp only
    cases hj : nth ops j with
    | none => rw [hj] at h; cases h
    | some o =>
      rw [hj] at h; simp only at h ⊢
      cases hd : o.dst with
      | none => rw [hd] at h; cases h
      | some d =>
        rw [hd] at h; simp only at h ⊢
        split at h
        · rename_i b hg
          exact ⟨b == want, fun st => ⟨st, [], by rw [hg], by simp⟩, h⟩
        · rename_i b hg
          rw [hg]
          cases b with
          | true => exact ⟨_, fun st => ⟨.t :: st, [.fact (true = true)], rfl, fun q hq => by rw [List.mem_singleton.1 hq]; rfl⟩, h.1 rfl⟩
          | false => exact ⟨_, fun st => ⟨.f :: st, [.fact (false = false)], rfl, fun q hq => by rw [List.mem_singleton.1 hq]; rfl⟩, h.2 rfl⟩
        · cases h

theorem xbin_keep {op : BinOp} {t : TypeId} {x y : AV} {b : Bool} (h : xbin P op t x y [.keep] = some (.bool true b, [], [])) :
    xbin P op t x y [.t] = some (.bool false true, [], [.fact (b = true)]) ∧ xbin P op t x y [.f] = some (.bool false false, [], [.fact (b = false)]) := by
  have key : ∀ (s b' : Bool), dec s b' [.keep] = some (.bool true b, [], []) → dec s b' [.t] = some (.bool false true, [], [.fact (b = true)]) ∧ dec s b' [.f] = some (.bool false false, [], [.fact (b = false)]) := by
    intro s b' h
    unfold dec at h ⊢
    cases s with
    | false => simp at h
    | true => simp at h; subst h; exact ⟨rfl, rfl⟩
  unfold xbin at h ⊢
  split at h
  · rename_i s k a s' k' b
    obtain ⟨hk, h1⟩ := bif_some h
    simp only [hk, cond_true]
    cases op <;> simp only at h1 ⊢ <;> first
      | exact key _ _ h1
      | (exfalso; revert h1; simp [arithR, arith]; done)
      | (exfalso; revert h1; unfold arithR arith; split <;> (try split) <;> simp; done)
      | (exfalso; revert h1; split <;> simp; done)
      | simp at h1
  · cases op <;> simp only at h ⊢ <;> first
      | exact key _ _ h
      | (exfalso; revert h; split <;> simp; done)
      | simp at h
  · cases op <;> simp only at h ⊢ <;> first
      | simp at h; done
      | (split at h
         · rename_i he; first | exact key _ _ h | (rw [he]; exact key _ _ h)
         · simp at h)

theorem vStep_ok {call : CallV} (hcall : CallVOk P call) {o : Oper} {r : Regs} {m : Mem} {k : KV} (h : vStep P call o r m k) : ∃ st v m', StepTo P o r m st v m' ∧ k v m' := by
  unfold vStep at h
  split at h
  · rename_i hc
    split at h
    · rename_i f args hx
      obtain ⟨v, m', h1, h2⟩ := hcall f args m k h
      exact ⟨[.call v m'], v, m', ⟨[], [.fact (CallA P f args m v m')], by simp [xstep, hc, hx, callP], fun q hq => by rw [List.mem_singleton.1 hq]; exact h1⟩, h2⟩
    · cases h
  · rename_i hc
    split at h
    · rename_i v m' st' ob hx
      obtain ⟨h1, h2⟩ := allF_spec h
      have h2 : k v m' := by
        split at h2
        · exact h2
        · rwa [onM_eq] at h2
      exact ⟨[], v, m', ⟨st', ob, by simp [xstep, hc, hx], h1⟩, h2⟩
    · split at h
      · rename_i b hb
        unfold symB at hb
        split at hb
        · rename_i op t x y ty hop
          split at hb
          · rename_i a c ha hcv
            split at hb
            · rename_i b' hk
              simp at hb; subst hb
              obtain ⟨k1, k2⟩ := xbin_keep hk
              cases b' with
              | true => exact ⟨[.t], _, m, ⟨[], [.fact (true = true)], xop_xstep hc (by rw [hop]; simp [xop, ha, hcv, k1, same']), fun q hq => by rw [List.mem_singleton.1 hq]; rfl⟩, h.1 rfl⟩
              | false => exact ⟨[.f], _, m, ⟨[], [.fact (false = false)], xop_xstep hc (by rw [hop]; simp [xop, ha, hcv, k2, same']), fun q hq => by rw [List.mem_singleton.1 hq]; rfl⟩, h.2 rfl⟩
            · simp at hb
          · simp at hb
        · simp at hb
      · split at h
        · rename_i b x y hb
          unfold pickB at hb
          split at hb
          · rename_i c a1 b1 hop
            split at hb
            · rename_i x' u v h1 h2 h3
              simp at hb; obtain ⟨rfl, rfl, rfl⟩ := hb
              cases x' with
              | true => exact ⟨[.t], _, m, ⟨[], [.fact (true = true)], xop_xstep hc (by rw [hop]; simp [xop, h1, h2]), fun q hq => by rw [List.mem_singleton.1 hq]; rfl⟩, h.1 rfl⟩
              | false => exact ⟨[.f], _, m, ⟨[], [.fact (false = false)], xop_xstep hc (by rw [hop]; simp [xop, h1, h3]), fun q hq => by rw [List.mem_singleton.1 hq]; rfl⟩, h.2 rfl⟩
            · simp at hb
          · simp at hb
        · cases h

/-- what a list of operations comes to. -/
def OpsTo (P : Program) (N : Nat) (ops l : List Oper) (r : Regs) (m : Mem) (r' : Regs) (m' : Mem) : Prop :=
  m.length ≤ m'.length ∧ ∀ (H : Nat) (γ : Gm) (a : Act) (w : World) (Q : Exit → Act → World → Prop), m'.length ≤ H → RO γ N r a → MemOk H γ m w →
    (∀ γ' a' w', RO γ' N r' a' → MemOk H γ' m' w' → SF γ m w γ' m' w' → Q .normal a' w') → wpList P ops.toArray Q l a w

theorem vOps_ok {call : CallV} (hcall : CallVOk P call) {N : Nat} {ops : List Oper} : ∀ {l : List Oper} {r : Regs} {m : Mem} {k : KR}, vOps P call N ops l r m k → ∃ r' m', OpsTo P N ops l r m r' m' ∧ k r' m'
  | [], r, m, k, h => ⟨r, m, ⟨Nat.le_refl _, fun H γ a w Q _ hr hm hk => wpList_nil (hk γ a w hr hm (SF.refl _ _ _))⟩, h⟩
  | o :: l, r, m, k, h => by
    simp only [vOps] at h
    obtain ⟨b, hg, h⟩ := vGuard_ok h
    cases b with
    | true =>
      simp only at h
      obtain ⟨st, v, m1, ⟨st', ob, hs, hob⟩, h⟩ := vStep_ok hcall h
      obtain ⟨st0, gb, hg, hgo⟩ := hg st
      cases hp : put N r o.dst v with
      | none => rw [hp] at h; cases h
      | some r1 =>
        rw [hp] at h; simp only at h
        obtain ⟨r', m', hrest, hk⟩ := vOps_ok hcall h
        refine ⟨r', m', ⟨Nat.le_trans (xstep_len callP_ok hs hob) hrest.1, fun H γ a w Q hH hr hm hq => ?_⟩, hk⟩
        unfold wpList
        rw [if_pos (xguard_spec hg hgo hr)]
        refine .inl (xstep_spec callP_ok hs hob hr hm (Nat.le_trans hrest.1 hH) ?_)
        intro γ' w' V hv hm' hf
        exact hrest.2 H γ' _ w' Q hH ((hr.mono hf.ext).put hp hv) hm' (fun γ2 a2 w2 hr2 hm2 hf2 => hq γ2 a2 w2 hr2 hm2 (hf.trans hf2))
    | false =>
      simp only at h
      obtain ⟨st0, gb, hg, hgo⟩ := hg []
      cases hp : put N r o.dst (.tup []) with
      | none => rw [hp] at h; cases h
      | some r1 =>
        rw [hp] at h; simp only at h
        obtain ⟨r', m', hrest, hk⟩ := vOps_ok hcall h
        refine ⟨r', m', ⟨hrest.1, fun H γ a w Q hH hr hm hq => ?_⟩, hk⟩
        unfold wpList
        rw [if_neg (by rw [xguard_spec hg hgo hr]; simp)]
        exact hrest.2 H γ _ w Q hH (hr.put hp ⟨[], rfl, rfl⟩) hm hq

/-- a note without its choices. -/
def clr (t : Tr) : Tr := ⟨t.o, t.run, t.m, t.m', t.r, [], t.v⟩

theorem allN_map {α β : Type} {f : Nat → β → Bool} {g : α → β} : ∀ {l : List α} {k : Nat}, allN f k (l.map g) = allN (fun i x => f i (g x)) k l
  | [], _ => rfl
  | a :: l, k => by simp only [List.map_cons, allN]; rw [allN_map]
theorem flatN_map {α β : Type} {f : Nat → β → Obs} {g : α → β} : ∀ {l : List α} {k : Nat}, flatN f k (l.map g) = flatN (fun i x => f i (g x)) k l
  | [], _ => rfl
  | a :: l, k => by simp only [List.map_cons, flatN]; rw [flatN_map]

theorem wL_clr : ∀ (T : List Tr) (p : Nat), wL p (T.map clr) = wL p T
  | [], _ => rfl
  | x :: T, p => by simp only [List.map_cons, wL]; rw [wL_clr T]; rfl
theorem rL_clr : ∀ (T : List Tr) (p : Nat), rL p (T.map clr) = rL p T
  | [], _ => rfl
  | x :: T, p => by simp only [List.map_cons, rL]; rw [rL_clr T]; rfl
theorem fL_clr : ∀ (T : List Tr) (p : Nat), fL p (T.map clr) = fL p T
  | [], _ => rfl
  | x :: T, p => by simp only [List.map_cons, fL]; rw [fL_clr T]; rfl
theorem cL_clr : ∀ (T : List Tr) (p : Nat), cL p (T.map clr) = (cL p T).map fun c => (c.1, clr c.2)
  | [], _ => rfl
  | x :: T, p => by
    have h : isC (clr x) = isC x := rfl
    simp only [List.map_cons, cL]
    rw [cL_clr T, h]
    cases isC x <;> rfl
theorem allL_map {α β : Type} {f : β → Bool} {g : α → β} : ∀ {l : List α}, allL f (l.map g) = allL (fun x => f (g x)) l
  | [] => rfl
  | a :: l => by simp only [List.map_cons, allL]; rw [allL_map]
theorem chain_clr (A : List Nat) (T : List Tr) : chainQ A (cL 0 (T.map clr)) (wL 0 (T.map clr)) = chainQ A (cL 0 T) (wL 0 T) := by
  rw [cL_clr, wL_clr]
  unfold chainQ
  rw [allL_map]
theorem obsC_clr (A : List Nat) (p id : Nat) : ∀ (C : List (Nat × Tr)), obsC A p id (C.map fun c => (c.1, clr c.2)) = obsC A p id C
  | [] => rfl
  | (q, y) :: C => by
    simp only [List.map_cons, obsC]
    rw [obsC_clr A p id C]
    rfl
theorem crossQ_clr (A : List Nat) (C : List (Nat × Tr)) : ∀ (R : List (Nat × Nat)), crossQ A (C.map fun c => (c.1, clr c.2)) R = crossQ A C R
  | [] => rfl
  | (p, id) :: R => by simp only [crossQ]; rw [obsC_clr, crossQ_clr A C R]
theorem cross_clr (A : List Nat) (T : List Tr) : crossQ A (cL 0 (T.map clr)) (rL 0 (T.map clr)) = crossQ A (cL 0 T) (rL 0 T) := by
  rw [cL_clr, rL_clr, crossQ_clr]

theorem vTrace_ok {call : CallV} (hcall : CallVOk P call) {N : Nat} {ops : List Oper} : ∀ {l : List Oper} {r : Regs} {m : Mem} {k : List Tr → Regs → Mem → Prop}, vTrace P call N ops l r m k →
    ∃ T r' m', T.map (·.o) = l ∧ Good P (callP P) N ops T r m r' m' ∧ k (T.map clr) r' m'
  | [], r, m, k, h => ⟨[], r, m, rfl, ⟨rfl, rfl⟩, h⟩
  | o :: l, r, m, k, h => by
    simp only [vTrace] at h
    obtain ⟨b, hg, h⟩ := vGuard_ok h
    cases b with
    | true =>
      simp only at h
      obtain ⟨st, v, m1, ⟨st', ob, hs, hob⟩, h⟩ := vStep_ok hcall h
      obtain ⟨st0, gb, hg, hgo⟩ := hg st
      cases hp : put N r o.dst v with
      | none => rw [hp] at h; cases h
      | some r1 =>
        rw [hp] at h; simp only at h
        obtain ⟨T, r', m', hT, hgood, hk⟩ := vTrace_ok hcall h
        exact ⟨⟨o, true, m, m1, r, st, v⟩ :: T, r', m', by simp [hT], ⟨rfl, rfl, ⟨st0, gb, hg, hgo⟩, fun _ => ⟨st', ob, hs, hob⟩, fun h => by simp at h, r1, hp, hgood⟩, hk⟩
    | false =>
      simp only at h
      obtain ⟨st0, gb, hg, hgo⟩ := hg []
      cases hp : put N r o.dst (.tup []) with
      | none => rw [hp] at h; cases h
      | some r1 =>
        rw [hp] at h; simp only at h
        obtain ⟨T, r', m', hT, hgood, hk⟩ := vTrace_ok hcall h
        exact ⟨⟨o, false, m, m, r, [], .tup []⟩ :: T, r', m', by simp [hT], ⟨rfl, rfl, ⟨st0, gb, hg, hgo⟩, fun h => by simp at h, fun _ => ⟨rfl, rfl⟩, r1, hp, hgood⟩, hk⟩

/-- what a stretch of operations comes to, in whatever order. -/
def RegTo (P : Program) (N : Nat) (c : Code) (r : Regs) (m : Mem) (r' : Regs) (m' : Mem) : Prop :=
  m.length ≤ m'.length ∧ ∀ (H : Nat) (γ : Gm) (a : Act) (w : World) (Q : Exit → Act → World → Prop), m'.length ≤ H → RO γ N r a → MemOk H γ m w →
    (∀ γ' a' w', RO γ' N r' a' → MemOk H γ' m' w' → SF γ m w γ' m' w' → Q .normal a' w') → c.wp P Q a w

theorem draw_ctx {N : Nat} {ops : List Oper} {T : List Tr} {r r' : Regs} {m m' : Mem} {H : Nat} (hops : T.map (·.o) = ops) (hgood : Good P (callP P) N ops T r m r' m') (hcr : ∀ q ∈ crossObs (ancs [] ops) T, q)
    (hs : slotsOk (ancs [] ops) ops = true) (hch : chainOk (ancs [] ops) T = true) (hfr : freshOk (ancs [] ops) T = true) (hH : m'.length ≤ H) : Ctx P (callP P) N ops T r m m' H ∧ r' = pushAll (fun _ => True) 0 T r := by
  obtain ⟨h0, hr', hat⟩ := good_at hgood
  exact ⟨⟨callP_ok, hops, hat, h0, hs, hch, hfr, hcr, hH⟩, hr'⟩

theorem vDraw_ok {call : CallV} (hcall : CallVOk P call) (hmix : P.follows .mixedOrders = true) {N id : Nat} {ops : List Oper} {r : Regs} {m : Mem} {k : KR} (h : vDraw P call N ops r m k) :
    ∃ r' m', RegTo P N (.region id ops.toArray true) r m r' m' ∧ k r' m' := by
  unfold vDraw at h
  split at h
  case h_2 => cases h
  rename_i hslots
  obtain ⟨T, r', m', hops, hgood, h⟩ := vTrace_ok hcall h
  rw [chain_clr, rL_clr, fL_clr, ← rL_clr, cross_clr, rL_clr] at h
  split at h
  · rename_i hb0
    simp only [Bool.and_eq_true] at hb0
    obtain ⟨hcr0, hk⟩ := allF_spec h
    have hcr := crossQ_ok hcr0
    have hb : (slotsOk (ancs [] ops) ops = true ∧ chainOk (ancs [] ops) T = true) ∧ freshOk (ancs [] ops) T = true := ⟨⟨slotsQ_ok hslots, chainQ_ok hb0.1⟩, freshQ_ok hb0.2⟩
    refine ⟨r', m', ⟨?_, fun H γ a w Q hH hr hm hk => ?_⟩, hk⟩
    · obtain ⟨C, _⟩ := draw_ctx (H := m'.length) hops hgood hcr hb.1.1 hb.1.2 hb.2 (Nat.le_refl _)
      have := memAt_le C.cok C.hat (j := 0) (k := T.length) (by omega) (Nat.le_refl _)
      rwa [C.start, memAt_end] at this
    · obtain ⟨C, rfl⟩ := draw_ctx (H := H) hops hgood hcr hb.1.1 hb.1.2 hb.2 hH
      have hlen : ops.length = T.length := by rw [← C.hops]; simp
      refine wp_region_any hmix ?_
      obtain ⟨hm1, hsf1⟩ := hm.same (w' := { w with drawn := w.drawn + 1 }) ⟨rfl, rfl, rfl, rfl⟩
      obtain ⟨hmf, hfr⟩ := MF.start hm1
      have hno : ∀ i, ¬ Ls (Array.replicate ops.toArray.size false) i := by
        intro i
        unfold Ls
        by_cases hi : i < ops.length <;> simp [hi]
      refine draw_any C (fun γ' a' w' h1 h2 h3 => hk γ' a' w' h1 h2 (hsf1.trans h3)) _ _ a _ 0 γ _ (by simp [hlen]) ?_ ⟨fun j o _ hl => absurd hl (hno j), fun j t _ h => by omega, fun j t _ _ _ => hno j, by omega, hmf, hfr, ?_, ?_, fun _ _ => rfl, ?_⟩
      · refine Nat.le_trans List.countP_le_length ?_
        simp [hlen]
      · rintro id e (h | ⟨f, t, _, _, _, _, hl, _⟩)
        · rw [C.start] at h; exact onto_some h
        · exact absurd hl (hno f)
      · intro id g hg
        rcases (hm.dom id g hg).1 with hlt | hge
        · exact .inl ⟨_, .inl (by rw [C.start]; exact List.getElem?_eq_getElem hlt)⟩
        · exact .inr hge
      · refine ⟨hr.defers, hr.size, fun x v hx => hr.get x v ?_⟩
        rw [← hx]
        exact (get_pushAll_none (fun i t _ _ => by rw [Nat.zero_add]; exact hno i)).symm
  · cases h
end
end Go.XM

namespace Go.XM
open Go
noncomputable section
variable {P : Program}

mutual
/-- no entry of memory is named. -/
def pureV : AV → Bool
  | .ptr _ _ => false
  | .eptr _ _ _ => false
  | .sl _ _ _ _ => false
  | .dptr _ _ => false
  | .emp => true
  | .agg cs => pureL cs
  | .tup vs => pureL vs
  | .fn _ a b => pureL a && pureL b
  | .iface _ v => pureV v
  | .int _ _ _ => true
  | .bool _ _ => true
  | .str _ _ => true
  | .nilp => true
  | .nils => true
  | .nilfn => true
  | .nilif => true
  | .raw _ => true
def pureL : List AV → Bool
  | [] => true
  | a :: l => pureV a && pureL l
end

mutual
theorem VR.pure {γ γ' : Gm} : ∀ {v : AV} {V : Value}, pureV v = true → VR γ v V → VR γ' v V
  | .int .., _, _, r => r
  | .bool .., _, _, r => r
  | .str .., _, _, r => r
  | .nilp, _, _, r => r
  | .nils, _, _, r => r
  | .nilfn, _, _, r => r
  | .nilif, _, _, r => r
  | .ptr .., _, h, _ => by simp [pureV] at h
  | .eptr .., _, h, _ => by simp [pureV] at h
  | .sl .., _, h, _ => by simp [pureV] at h
  | .dptr .., _, h, _ => by simp [pureV] at h
  | .emp, _, _, r => r
  | .agg _, _, h, ⟨l, e, r⟩ => ⟨l, e, LR.pure (by simpa [pureV] using h) r⟩
  | .tup _, _, h, ⟨l, e, r⟩ => ⟨l, e, LR.pure (by simpa [pureV] using h) r⟩
  | .fn _ _ _, _, h, ⟨a, b, e, r, r'⟩ => by
    simp only [pureV, Bool.and_eq_true] at h
    exact ⟨a, b, e, LR.pure h.1 r, LR.pure h.2 r'⟩
  | .iface _ _, _, h, ⟨x, e, r⟩ => ⟨x, e, VR.pure (by simpa [pureV] using h) r⟩
  | .raw _, _, _, r => r
theorem LR.pure {γ γ' : Gm} : ∀ {v : List AV} {V : List Value}, pureL v = true → LR γ v V → LR γ' v V
  | [], _, _, r => r
  | _ :: _, _, h, ⟨v, t, e, r, r'⟩ => by
    simp only [pureL, Bool.and_eq_true] at h
    exact ⟨v, t, e, VR.pure h.1 r, LR.pure h.2 r'⟩
end

theorem pureL_append : ∀ {a b : List AV}, pureL a = true → pureL b = true → pureL (a ++ b) = true
  | [], _, _, h => h
  | x :: a, _, h, h' => by
    simp only [pureL, Bool.and_eq_true, List.cons_append] at h ⊢
    exact ⟨h.1, pureL_append h.2 h'⟩
theorem pureL_kcells (c : List AV) : ∀ (ks : List CK) (j : Nat), pureL (kcells c j ks) = true
  | [], _ => rfl
  | k :: ks, j => by
    simp only [kcells, pureL, Bool.and_eq_true]
    exact ⟨by cases k <;> rfl, pureL_kcells c ks (j + 1)⟩
theorem pureL_rows {ks : List CK} : ∀ {xs : List (List AV)}, (∀ x ∈ xs, x = kcells x 0 ks) → pureL xs.flatten = true
  | [], _ => rfl
  | x :: xs, h => by
    rw [List.flatten_cons]
    exact pureL_append (by rw [h x (by simp)]; exact pureL_kcells _ _ _) (pureL_rows fun y hy => h y (by simp [hy]))

end
end Go.XM

namespace Go.XM
open Go
noncomputable section
variable {P : Program}

/-- does the entry keep its number? -/
def fx (fs : List Bool) (id : Nat) : Bool := match nth fs id with | some b => b | none => false

theorem fx_lt {fs : List Bool} {id : Nat} (h : fx fs id = true) : id < fs.length := by
  unfold fx at h
  rw [nth_eq] at h
  rcases Nat.lt_or_ge id fs.length with hl | hl
  · exact hl
  · rw [List.getElem?_eq_none hl] at h; simp at h

/-- two states of memory, of which some entries keep their numbers. -/
structure SR (H : Nat) (fs : List Bool) (γ : Gm) (m : Mem) (w : World) (γ' : Gm) (m' : Mem) (w' : World) : Prop where
  os : w'.os = w.os
  tape : w'.tape = w.tape
  output : w'.output = w.output
  size : w.heap.size ≤ w'.heap.size
  keep : ∀ k, k < w.heap.size → ¬ Foot γ m k → w'.heap[k]? = w.heap[k]?
  foot : ∀ b, Foot γ' m' b → Foot γ m b ∨ w.heap.size ≤ b
  live : ∀ b, Lv γ' m' b → Lv γ m b ∨ w.heap.size ≤ b
  back : ∀ id, (fx fs id = true ∨ H ≤ id) → γ' id = γ id

theorem SR.refl (H : Nat) (fs : List Bool) (γ : Gm) (m : Mem) (w : World) : SR H fs γ m w γ m w := ⟨rfl, rfl, rfl, Nat.le_refl _, fun _ _ _ => rfl, fun _ h => .inl h, fun _ h => .inl h, fun _ _ => rfl⟩
theorem SR.trans {H : Nat} {fs : List Bool} {γ γ1 γ2 : Gm} {m m1 m2 : Mem} {w w1 w2 : World} (h : SR H fs γ m w γ1 m1 w1) (k : SR H fs γ1 m1 w1 γ2 m2 w2) : SR H fs γ m w γ2 m2 w2 where
  os := k.os.trans h.os
  tape := k.tape.trans h.tape
  output := k.output.trans h.output
  size := Nat.le_trans h.size k.size
  keep := fun b hb hf => by
    rw [k.keep b (Nat.lt_of_lt_of_le hb h.size) (fun hf' => (h.foot b hf').elim hf (fun hle => by omega)), h.keep b hb hf]
  foot := fun b hb => (k.foot b hb).elim (fun hb' => h.foot b hb') (fun hle => .inr (Nat.le_trans h.size hle))
  live := fun b hb => (k.live b hb).elim (fun hb' => h.live b hb') (fun hle => .inr (Nat.le_trans h.size hle))
  back := fun id hid => by rw [k.back id hid, h.back id hid]
theorem SF.sr {H : Nat} {fs : List Bool} {γ γ' : Gm} {m m' : Mem} {w w' : World} (h : SF γ m w γ' m' w') (hf : fs.length ≤ m.length) (hH : m'.length ≤ H) : SR H fs γ m w γ' m' w' :=
  ⟨h.os, h.tape, h.output, h.size, h.keep, h.foot, h.live, fun id hid => h.back id (hid.imp (fun h => by have := fx_lt h; omega) (fun h => by omega))⟩

/-- what a stretch of code comes to. -/
def CodeA (P : Program) (N : Nat) (c : Code) (r : Regs) (m : Mem) (e : Ex) (r' : Regs) (m' : Mem) : Prop :=
  m.length ≤ m'.length ∧ ∀ (H : Nat) (γ : Gm) (a : Act) (w : World) (Q : Exit → Act → World → Prop), m'.length ≤ H → RO γ N r a → MemOk H γ m w →
    (∀ γ' a' w', RO γ' N r' a' → MemOk H γ' m' w' → SF γ m w γ' m' w' → Q e.toExit a' w') → wpN P c Q a w

theorem CodeA.same {N : Nat} {c : Code} {r : Regs} {m : Mem} {e : Ex} (h : ∀ (a : Act) (w : World) (Q : Exit → Act → World → Prop), Q e.toExit a w → wpN P c Q a w) : CodeA P N c r m e r m :=
  ⟨Nat.le_refl _, fun _ γ a w Q _ hr hm hk => h a w Q (hk γ a w hr hm (SF.refl _ _ _))⟩

theorem RegTo.code {N id : Nat} {ops : Array Oper} {d : Bool} {r r' : Regs} {m m' : Mem} (h : RegTo P N (.region id ops d) r m r' m') : CodeA P N (.region id ops d) r m .normal r' m' := h

/-- the bodies of a code's loops. -/
def loopsIn : Code → List Code
  | .seq a b => loopsIn a ++ loopsIn b
  | .cond _ a b => loopsIn a ++ loopsIn b
  | .block _ c => loopsIn c
  | .loop c => c :: loopsIn c
  | _ => []

theorem loopsIn_sub {c x : Code} (hx : x ∈ loopsIn c) : ∀ {b : Code}, c ∈ loopsIn b → x ∈ loopsIn b := by
  intro b
  induction b with
  | seq a b iha ihb => simp only [loopsIn, List.mem_append]; exact fun h => h.imp iha ihb
  | cond _ a b iha ihb => simp only [loopsIn, List.mem_append]; exact fun h => h.imp iha ihb
  | block _ b ih => simp only [loopsIn]; exact ih
  | loop b ih =>
    simp only [loopsIn, List.mem_cons]
    rintro (rfl | h)
    · exact .inr hx
    · exact .inr (ih h)
  | _ => intro h; simp [loopsIn] at h

/-- contracts of the loops in D. -/
def LpOk (P : Program) (N : Nat) (D : List Code) (lp : Nat → Code → Regs → Mem → KC → Option Prop) : Prop :=
  ∀ c ∈ D, ∀ r m k Q, lp N c r m k = some Q → Q → ∃ e r' m', CodeA P N (.loop c) r m e r' m' ∧ k e r' m'

theorem vCode_ok {call : CallV} (hcall : CallVOk P call) {N : Nat} {D : List Code} {lp : Nat → Code → Regs → Mem → KC → Option Prop} (hlp : LpOk P N D lp) (hmix : P.follows .mixedOrders = true) :
    ∀ (n : Nat) {c : Code} {r : Regs} {m : Mem} {k : KC}, (∀ x ∈ loopsIn c, x ∈ D) → vCode P call lp N n c r m k → ∃ e r' m', CodeA P N c r m e r' m' ∧ k e r' m'
  | 0, c, r, m, k, _, h => by cases h
  | n + 1, c, r, m, k, hD, h => by
    have ih := @vCode_ok call hcall N D lp hlp hmix n
    simp only [vCode] at h
    cases c with
    | skip => exact ⟨.normal, r, m, .same fun a w Q hq => wp_skip hq, h⟩
    | ret => exact ⟨.ret, r, m, .same fun a w Q hq => wp_ret hq, h⟩
    | exit id => exact ⟨.exit id, r, m, .same fun a w Q hq => wp_exit hq, h⟩
    | region id ops d =>
      cases d with
      | false =>
        obtain ⟨r', m', h1, hk⟩ := vOps_ok hcall h
        refine ⟨.normal, r', m', RegTo.code ⟨h1.1, fun H γ a w Q hH hr hm hq => ?_⟩, hk⟩
        have := h1.2 H γ a w Q hH hr hm hq
        exact wp_region_list (by simpa using this)
      | true =>
        obtain ⟨r', m', h1, hk⟩ := vDraw_ok hcall hmix (id := id) h
        exact ⟨.normal, r', m', RegTo.code (by simpa using h1), hk⟩
    | seq c1 c2 =>
      simp only [loopsIn, List.mem_append] at hD
      obtain ⟨e1, r1, m1, ⟨hf1, h1⟩, hk⟩ := ih (fun x hx => hD x (.inl hx)) h
      cases e1 with
      | normal =>
        obtain ⟨e2, r2, m2, ⟨hf2, h2⟩, hk⟩ := ih (fun x hx => hD x (.inr hx)) hk
        refine ⟨e2, r2, m2, ⟨Nat.le_trans hf1 hf2, fun H γ a w Q hH hr hm hq => ?_⟩, hk⟩
        refine wp_seq (wp_of_wpN (h1 H γ a w _ (by omega) hr hm fun γ1 a1 w1 hr1 hm1 hs1 => ?_))
        exact wp_of_wpN (h2 H γ1 a1 w1 Q (by omega) hr1 hm1 fun γ2 a2 w2 hr2 hm2 hs2 => hq γ2 a2 w2 hr2 hm2 (hs1.trans hs2))
      | ret => exact ⟨.ret, r1, m1, ⟨hf1, fun H γ a w Q hH hr hm hq => wp_seq (wp_of_wpN (h1 H γ a w _ hH hr hm fun γ1 a1 w1 hr1 hm1 hs1 => hq γ1 a1 w1 hr1 hm1 hs1))⟩, hk⟩
      | exit id => exact ⟨.exit id, r1, m1, ⟨hf1, fun H γ a w Q hH hr hm hq => wp_seq (wp_of_wpN (h1 H γ a w _ hH hr hm fun γ1 a1 w1 hr1 hm1 hs1 => hq γ1 a1 w1 hr1 hm1 hs1))⟩, hk⟩
    | cond x c1 c2 =>
      simp only [loopsIn, List.mem_append] at hD
      have yes : ∀ {b : AV}, ev r x = some b → (∀ γ a, VR γ b (a : Value) → a = .bool true) → vCode P call lp N n c1 r m k → ∃ e r' m', CodeA P N (.cond x c1 c2) r m e r' m' ∧ k e r' m' := by
        intro b hx hb h
        obtain ⟨e1, r1, m1, ⟨hf1, h1⟩, hk⟩ := ih (fun x hx => hD x (.inl hx)) h
        exact ⟨e1, r1, m1, ⟨hf1, fun H γ a w Q hH hr hm hq => wp_cond_true (hb _ _ (ev_spec hx hr)) (wp_of_wpN (h1 H γ a w Q hH hr hm hq))⟩, hk⟩
      have no : ∀ {b : AV}, ev r x = some b → (∀ γ a, VR γ b (a : Value) → a = .bool false) → vCode P call lp N n c2 r m k → ∃ e r' m', CodeA P N (.cond x c1 c2) r m e r' m' ∧ k e r' m' := by
        intro b hx hb h
        obtain ⟨e1, r1, m1, ⟨hf1, h1⟩, hk⟩ := ih (fun x hx => hD x (.inr hx)) h
        exact ⟨e1, r1, m1, ⟨hf1, fun H γ a w Q hH hr hm hq => wp_cond_false (hb _ _ (ev_spec hx hr)) (wp_of_wpN (h1 H γ a w Q hH hr hm hq))⟩, hk⟩
      simp only at h
      split at h
      · rename_i hx; exact yes hx (fun _ _ h => h) h
      · rename_i hx; exact no hx (fun _ _ h => h) h
      · rename_i b hx
        cases b with
        | true => exact yes hx (fun _ _ h => h) (h.1 rfl)
        | false => exact no hx (fun _ _ h => h) (h.2 rfl)
      · cases h
    | block id c =>
      simp only [loopsIn] at hD
      obtain ⟨e1, r1, m1, ⟨hf1, h1⟩, hk⟩ := ih hD h
      cases e1 with
      | normal => exact ⟨.normal, r1, m1, ⟨hf1, fun H γ a w Q hH hr hm hq => wp_block (wp_of_wpN (h1 H γ a w _ hH hr hm fun γ1 a1 w1 hr1 hm1 hs1 => hq γ1 a1 w1 hr1 hm1 hs1))⟩, hk⟩
      | ret => exact ⟨.ret, r1, m1, ⟨hf1, fun H γ a w Q hH hr hm hq => wp_block (wp_of_wpN (h1 H γ a w _ hH hr hm fun γ1 a1 w1 hr1 hm1 hs1 => hq γ1 a1 w1 hr1 hm1 hs1))⟩, hk⟩
      | exit j =>
        refine ⟨_, r1, m1, ⟨hf1, fun H γ a w Q hH hr hm hq => wp_block (wp_of_wpN (h1 H γ a w _ hH hr hm fun γ1 a1 w1 hr1 hm1 hs1 => ?_))⟩, hk⟩
        have := hq γ1 a1 w1 hr1 hm1 hs1
        by_cases hj : j = id
        · subst hj
          simp only [Nat.beq_refl, cond_true, Ex.toExit] at this
          simpa [Ex.toExit, Exit.inBlock] using this
        · have hb : Nat.beq j id = false := by
            cases hb : Nat.beq j id with
            | false => rfl
            | true => exact absurd (Nat.eq_of_beq_eq_true hb) hj
          simp only [hb, cond_false, Ex.toExit] at this
          simpa [Ex.toExit, Exit.inBlock, hj] using this
    | loop c =>
      simp only at h
      cases hl : lp N c r m k with
      | some Q =>
        rw [hl] at h
        obtain ⟨e, r', m', h1, hk⟩ := hlp c (hD c (by simp [loopsIn])) r m k Q hl h
        exact ⟨e, r', m', h1, hk⟩
      | none =>
        rw [hl] at h
        simp only at h
        obtain ⟨e1, r1, m1, ⟨hf1, h1⟩, hk⟩ := ih (fun x hx => hD x (by simp [loopsIn, hx])) h
        cases e1 with
        | normal =>
          obtain ⟨e2, r2, m2, ⟨hf2, h2⟩, hk⟩ := ih hD hk
          refine ⟨e2, r2, m2, ⟨Nat.le_trans hf1 hf2, fun H γ a w Q hH hr hm hq => ?_⟩, hk⟩
          refine LoopW.step (LoopW P c Q) (fun _ _ h => h) (wp_of_wpN (h1 H γ a w _ (by omega) hr hm fun γ1 a1 w1 hr1 hm1 hs1 => ?_))
          exact h2 H γ1 a1 w1 Q (by omega) hr1 hm1 fun γ2 a2 w2 hr2 hm2 hs2 => hq γ2 a2 w2 hr2 hm2 (hs1.trans hs2)
        | ret => exact ⟨.ret, r1, m1, ⟨hf1, fun H γ a w Q hH hr hm hq => LoopW.step (LoopW P c Q) (fun _ _ h => h) (wp_of_wpN (h1 H γ a w _ hH hr hm fun γ1 a1 w1 hr1 hm1 hs1 => hq γ1 a1 w1 hr1 hm1 hs1))⟩, hk⟩
        | exit id => exact ⟨.exit id, r1, m1, ⟨hf1, fun H γ a w Q hH hr hm hq => LoopW.step (LoopW P c Q) (fun _ _ h => h) (wp_of_wpN (h1 H γ a w _ hH hr hm fun γ1 a1 w1 hr1 hm1 hs1 => hq γ1 a1 w1 hr1 hm1 hs1))⟩, hk⟩
    | _ => cases h

def LoopsOk (P : Program) (loops : LoopFn) : Prop := ∀ f fn body, P.funcs[f]? = some fn → fn.body = some body → LpOk P fn.ntmps (loopsIn body) (loops f)

theorem vBody_ok {call : CallV} (hcall : CallVOk P call) {loops : LoopFn} (hlp : LoopsOk P loops) (hmix : P.follows .mixedOrders = true) {f : FuncId} {args : List AV} {m : Mem} {k : KV} (h : vBody P call loops f args m k) :
    ∃ v m', CallsA P f args m v m' ∧ k v m' := by
  unfold vBody at h
  cases hfn : P.funcs[f]? with
  | none => rw [hfn] at h; cases h
  | some fn =>
    rw [hfn] at h; simp only at h
    cases hb : fn.body with
    | none => rw [hb] at h; cases h
    | some c =>
      rw [hb] at h; simp only at h
      cases hle : Nat.ble (len' args) fn.ntmps with
      | false => rw [hle] at h; cases h
      | true =>
        rw [hle] at h; simp only at h
        obtain ⟨e, r, m1, ⟨hf1, hc⟩, h⟩ := vCode_ok hcall (hlp f fn c hfn hb) hmix 1000 (fun _ h => h) h
        have fin : (∀ id, e ≠ .exit id) → (match xresults P r m1 fn.results.toList with
            | some [v] => k v m1
            | some vs => k (.tup vs) m1
            | none => Stuck (.within f (.res r m1))) → ∃ v m', CallsA P f args m v m' ∧ k v m' := by
          intro hne h
          cases hxr : xresults P r m1 fn.results.toList with
          | none => rw [hxr] at h; cases h
          | some vs =>
            have go : ∀ v, (∀ (H : Nat) (γ' : Gm) (a' : Act) (w' : World), RO γ' fn.ntmps r a' → MemOk H γ' m1 w' → ∃ V, (results fn a'.tmps).run P w' = .ok V w' ∧ VR γ' v V) → CallsA P f args m v m1 := by
              intro v hres
              refine ⟨hf1, fun H γ w Vs hH hm hV => ?_⟩
              have hlen : Vs.length ≤ fn.ntmps := by rw [hV.length, ← len_eq]; exact Nat.le_of_ble_eq_true hle
              refine calls_of_wp hfn hb ?_
              refine wp_of_wpN (hc H γ _ w _ hH (args_ro hV hlen) hm ?_)
              intro γ' a' w' hr' hm' hs'
              obtain ⟨V, hV', hv⟩ := hres H γ' a' w' hr' hm'
              cases e with
              | normal => exact bodyPost_end hV' hr'.defers ⟨V, γ', rfl, hv, hm', hs'⟩
              | ret => exact bodyPost_ret hV' hr'.defers ⟨V, γ', rfl, hv, hm', hs'⟩
              | exit id => exact absurd rfl (hne id)
            have res : ∀ (H : Nat) (γ' : Gm) (a' : Act) (w' : World), RO γ' fn.ntmps r a' → MemOk H γ' m1 w' → ∃ Vs', (fn.results.mapM (resOf a'.tmps)).run P w' = .ok (List.toArray Vs') w' ∧ LR γ' vs Vs' := by
              intro H γ' a' w' hr' hm'
              obtain ⟨Vs', hVs, hl'⟩ := xresults_spec (P := P) hr' hm' hxr
              exact ⟨Vs', by rw [Array.mapM_eq_mapM_toList, Sem.run_map, hVs]; rfl, hl'⟩
            rw [hxr] at h
            cases vs with
            | nil =>
              refine ⟨_, m1, go _ fun H γ' a' w' hr' hm' => ?_, h⟩
              obtain ⟨Vs', hmap, hl'⟩ := res H γ' a' w' hr' hm'
              cases hl'
              exact ⟨.tuple #[], by rw [results_eq, Sem.run_bind, hmap]; rfl, ⟨[], rfl, rfl⟩⟩
            | cons u us =>
              cases us with
              | nil =>
                refine ⟨_, m1, go _ fun H γ' a' w' hr' hm' => ?_, h⟩
                obtain ⟨Vs', hmap, hl'⟩ := res H γ' a' w' hr' hm'
                obtain ⟨V, _, rfl, hv, hn⟩ := hl'
                cases hn
                exact ⟨V, by rw [results_eq, Sem.run_bind, hmap]; rfl, hv⟩
              | cons u2 us =>
                refine ⟨_, m1, go _ fun H γ' a' w' hr' hm' => ?_, h⟩
                obtain ⟨Vs', hmap, hl'⟩ := res H γ' a' w' hr' hm'
                obtain ⟨V, _, rfl, hv, V2, t2, rfl, hv2, hn⟩ := hl'
                exact ⟨.tuple (V :: V2 :: t2).toArray, by rw [results_eq, Sem.run_bind, hmap]; rfl, ⟨_, rfl, ⟨V, _, rfl, hv, V2, t2, rfl, hv2, hn⟩⟩⟩
        cases e with
        | exit id => cases h
        | normal => exact fin (by simp) h
        | ret => exact fin (by simp) h

/-! ### States of which some entries keep their numbers -/

/-- what a stretch of code comes to, of which some entries keep their numbers. -/
def CodeR (P : Program) (fs : List Bool) (N : Nat) (c : Code) (r : Regs) (m : Mem) (e : Ex) (r' : Regs) (m' : Mem) : Prop :=
  fs.length ≤ m'.length ∧ ∃ B, ∀ (H : Nat) (γ : Gm) (a : Act) (w : World) (Q : Exit → Act → World → Prop), B ≤ H → RO γ N r a → MemOk H γ m w →
    (∀ γ' a' w', RO γ' N r' a' → MemOk H γ' m' w' → SR H fs γ m w γ' m' w' → Q e.toExit a' w') → wpN P c Q a w
/-- what a loop comes to. -/
def LoopR (P : Program) (fs : List Bool) (N : Nat) (c : Code) (r : Regs) (m : Mem) (e : Ex) (r' : Regs) (m' : Mem) : Prop := CodeR P fs N (.loop c) r m e r' m'
/-- what a call comes to. -/
def CallR (P : Program) (fs : List Bool) (f : FuncId) (args : List AV) (m : Mem) (v : AV) (m' : Mem) : Prop :=
  fs.length ≤ m'.length ∧ ∃ B, ∀ (H : Nat) (γ : Gm) (w : World) (Vs : List Value), B ≤ H → MemOk H γ m w → LR γ args Vs → Calls P f Vs.toArray w fun e w' => ∃ V γ', e = .returned V ∧ VR γ' v V ∧ MemOk H γ' m' w' ∧ SR H fs γ m w γ' m' w'

theorem CodeA.toR {fs : List Bool} {N : Nat} {c : Code} {r r' : Regs} {m m' : Mem} {e : Ex} (h : CodeA P N c r m e r' m') (hf : fs.length ≤ m.length) : CodeR P fs N c r m e r' m' :=
  ⟨Nat.le_trans hf h.1, m'.length, fun H γ a w Q hH hr hm hk => h.2 H γ a w Q hH hr hm fun γ' a' w' h1 h2 h3 => hk γ' a' w' h1 h2 (h3.sr hf hH)⟩
theorem CallsA.toR {fs : List Bool} {f : FuncId} {args : List AV} {m m' : Mem} {v : AV} (h : CallsA P f args m v m') (hf : fs.length ≤ m.length) : CallR P fs f args m v m' :=
  ⟨Nat.le_trans hf h.1, m'.length, fun H γ w Vs hH hm hV => Calls.mono (h.2 H γ w Vs hH hm hV) fun e w' => fun ⟨V, γ', h1, h2, h3, h4⟩ => ⟨V, γ', h1, h2, h3, h4.sr hf hH⟩⟩

/-- calls: by contract where there is one, else the body is run. -/
def vCall (P : Program) (specs : SpecFn) (loops : LoopFn) : Nat → CallV
  | 0, f, _, _, _ => Stuck (.func f)
  | n + 1, f, args, m, k => match specs f args m k with
    | some Q => Q
    | none => (match enters P f with
      | true => vBody P (vCall P specs loops n) loops f args m k
      | false => Stuck (.func f))

def SpecsOk (P : Program) (specs : SpecFn) : Prop := ∀ f args m k Q, specs f args m k = some Q → Q → ∃ v m', CallA P f args m v m' ∧ k v m'

theorem vCall_ok {specs : SpecFn} (hspecs : SpecsOk P specs) {loops : LoopFn} (hlp : LoopsOk P loops) (hmix : P.follows .mixedOrders = true) : ∀ n, CallVOk P (vCall P specs loops n)
  | 0 => fun f args m k h => by cases h
  | n + 1 => fun f args m k h => by
    simp only [vCall] at h
    cases hs : specs f args m k with
    | some Q => rw [hs] at h; exact hspecs f args m k Q hs h
    | none =>
      rw [hs] at h; simp only at h
      split at h
      · rename_i hb
        obtain ⟨v, m', h1, h2⟩ := vBody_ok (vCall_ok hspecs hlp hmix n) hlp hmix h
        exact ⟨v, m', .inl ⟨hb, h1⟩, h2⟩
      · cases h
end
end Go.XM

namespace Go.XM
open Go
noncomputable section
variable {P : Program}

/-! ### A state read under other numbers -/

def also : Option Obs → Option Obs → Option Obs
  | some a, some b => some (a ++ b)
  | _, _ => none

theorem also_spec {a b : Option Obs} {o : Obs} (h : also a b = some o) : ∃ x y, a = some x ∧ b = some y ∧ o = x ++ y := by
  unfold also at h
  split at h
  · simp at h; exact ⟨_, _, rfl, rfl, h.symm⟩
  · simp at h

def isId (x : Option Nat) (i : Nat) : Bool := match x with | some j => Nat.beq j i | none => false
theorem isId_spec {x : Option Nat} {i : Nat} (h : isId x i = true) : x = some i := by
  unfold isId at h
  split at h
  · rw [Nat.eq_of_beq_eq_true h]
  · simp at h

def fnEq : Fn → Fn → Bool
  | .func a, .func b => Nat.beq a b
  | _, _ => false
theorem fnEq_spec {a b : Fn} (h : fnEq a b = true) : a = b := by
  unfold fnEq at h
  split at h
  · rw [Nat.eq_of_beq_eq_true h]
  · simp at h

mutual
/-- the first as it stands, read as the second; ρ leads from the second's numbers to the first's. -/
def mV (ρ : Nat → Option Nat) : AV → AV → Option Obs
  | .int s k n, b => (match b with
    | .int s' k' n' => bif ikEq k k' then need (s || s') (n = n') else none
    | _ => none)
  | .bool s x, b => (match b with
    | .bool s' x' => need (s || s') (x = x')
    | _ => none)
  | .str s x, b => (match b with
    | .str s' x' => need (s || s') (x = x')
    | _ => none)
  | .nilp, b => (match b with
    | .nilp => some []
    | _ => none)
  | .nils, b => (match b with
    | .nils => some []
    | .emp => some []
    | .sl .n _ lo n => need true (lo = 0 ∧ n = 0)
    | .sl .z _ lo n => need true (lo = 0 ∧ n = 0)
    | _ => none)
  | .emp, b => (match b with
    | .emp => some []
    | .sl .z _ lo n => need true (lo = 0 ∧ n = 0)
    | _ => none)
  | .dptr _ _, _ => none
  | .nilfn, b => (match b with
    | .nilfn => some []
    | _ => none)
  | .nilif, b => (match b with
    | .nilif => some []
    | _ => none)
  | .ptr i o, b => (match b with
    | .ptr j o' => bif isId (ρ j) i && Nat.beq o o' then some [] else none
    | _ => none)
  | .eptr i x y, b => (match b with
    | .eptr j x' y' => bif isId (ρ j) i && Nat.beq y y' then need true (x = x') else none
    | _ => none)
  | .sl s i lo n, b => (match b with
    | .sl s' j lo' n' => bif isId (ρ j) i then (match s, s' with
      | .c, .c => need false (lo = lo' ∧ n = n')
      | .c, .z => need true (lo = lo' ∧ n = n')
      | .n, .n => need true (lo = lo' ∧ n = n')
      | .n, .z => need true (lo = lo' ∧ n = n')
      | .z, .z => need true (lo = lo' ∧ n = n')
      | .c, .n => need true (lo = 0 ∧ lo' = 0 ∧ n = n')
      | _, _ => none) else none
    | _ => none)
  | .agg x, b => (match b with
    | .agg y => mL ρ x y
    | _ => none)
  | .tup x, b => (match b with
    | .tup y => mL ρ x y
    | _ => none)
  | .fn f x y, b => (match b with
    | .fn f' x' y' => bif fnEq f f' then also (mL ρ x x') (mL ρ y y') else none
    | _ => none)
  | .iface t x, b => (match b with
    | .iface t' y => bif Nat.beq t t' then mV ρ x y else none
    | _ => none)
  | .raw _, _ => none
termination_by structural a => a
def mL (ρ : Nat → Option Nat) : List AV → List AV → Option Obs
  | [], b => (match b with
    | [] => some []
    | _ :: _ => none)
  | x :: a, b => (match b with
    | [] => none
    | y :: b => also (mV ρ x y) (mL ρ a b))
termination_by structural a => a
end

mutual
theorem mV_spec {ρ : Nat → Option Nat} {γ γ' : Gm} (hρ : ∀ j i, ρ j = some i → γ' j = γ i) : ∀ {a b : AV} {o : Obs} {V : Value}, mV ρ a b = some o → (∀ q ∈ o, q) → VR γ a V → VR γ' b V
  | .int s k n, b, o, V, h, ho, r => by
    unfold mV at h
    split at h
    · obtain ⟨hk, hh⟩ := bif_some h
      simp [ikEq] at hk; subst hk
      have := need_spec hh ho; subst this; exact r
    · simp at h
  | .bool s x, b, o, V, h, ho, r => by
    unfold mV at h
    split at h
    · have := need_spec h ho; subst this; exact r
    · simp at h
  | .str s x, b, o, V, h, ho, r => by
    unfold mV at h
    split at h
    · have := need_spec h ho; subst this; exact r
    · simp at h
  | .nilp, b, o, V, h, ho, r => by
    unfold mV at h
    split at h
    · exact r
    · simp at h
  | .nils, b, o, V, h, ho, r => by
    unfold mV at h
    split at h
    · exact r
    · cases r; exact ⟨none, rfl⟩
    · obtain ⟨rfl, rfl⟩ := need_spec h ho
      cases r; exact .inr ⟨rfl, rfl, rfl, none, rfl, fun _ => rfl⟩
    · obtain ⟨rfl, rfl⟩ := need_spec h ho
      cases r; exact .inr ⟨rfl, rfl, rfl, none, rfl, fun _ => rfl⟩
    · simp at h
  | .emp, b, o, V, h, ho, r => by
    unfold mV at h
    split at h
    · exact r
    · obtain ⟨rfl, rfl⟩ := need_spec h ho
      obtain ⟨a, rfl⟩ := r; exact .inr ⟨rfl, rfl, rfl, a, rfl, fun h => by cases h⟩
    · simp at h
  | .dptr _ _, b, o, V, h, ho, r => by
    unfold mV at h
    simp at h
  | .nilfn, b, o, V, h, ho, r => by
    unfold mV at h
    split at h
    · exact r
    · simp at h
  | .nilif, b, o, V, h, ho, r => by
    unfold mV at h
    split at h
    · exact r
    · simp at h
  | .ptr i off, b, o, V, h, ho, r => by
    unfold mV at h
    split at h
    · obtain ⟨hb, hh⟩ := bif_some h
      simp only [Bool.and_eq_true] at hb
      have := Nat.eq_of_beq_eq_true hb.2; subst this
      obtain ⟨g, hg, e⟩ := r
      exact ⟨g, by rw [hρ _ _ (isId_spec hb.1)]; exact hg, e⟩
    · simp at h
  | .eptr i x y, b, o, V, h, ho, r => by
    unfold mV at h
    split at h
    · obtain ⟨hb, hh⟩ := bif_some h
      simp only [Bool.and_eq_true] at hb
      have := Nat.eq_of_beq_eq_true hb.2; subst this
      have := need_spec hh ho; subst this
      obtain ⟨g, hg, e⟩ := r
      exact ⟨g, by rw [hρ _ _ (isId_spec hb.1)]; exact hg, e⟩
    · simp at h
  | .sl s i lo n, b, o, V, h, ho, r => by
    unfold mV at h
    split at h
    · obtain ⟨hb, hh⟩ := bif_some h
      have hid := hρ _ _ (isId_spec hb)
      split at hh
      · obtain ⟨rfl, rfl⟩ := need_spec hh ho
        rcases r with ⟨g, ao, hg, e1, e2, e3, _⟩ | ⟨hs, _⟩
        · exact .inl ⟨g, ao, by rw [hid]; exact hg, e1, e2, e3, fun h => by cases h⟩
        · simp [SK.sym] at hs
      · obtain ⟨rfl, rfl⟩ := need_spec hh ho
        rcases r with ⟨g, ao, hg, e1, e2, e3, _⟩ | ⟨hs, _⟩
        · exact .inl ⟨g, ao, by rw [hid]; exact hg, e1, e2, e3, fun h => by cases h⟩
        · simp [SK.sym] at hs
      · obtain ⟨rfl, rfl⟩ := need_spec hh ho
        rcases r with ⟨g, ao, hg, e⟩ | r
        · exact .inl ⟨g, ao, by rw [hid]; exact hg, e⟩
        · exact .inr r
      · obtain ⟨rfl, rfl⟩ := need_spec hh ho
        rcases r with ⟨g, ao, hg, e1, e2, e3, _⟩ | ⟨_, e1, e2, a, e3, _⟩
        · exact .inl ⟨g, ao, by rw [hid]; exact hg, e1, e2, e3, fun h => by cases h⟩
        · exact .inr ⟨rfl, e1, e2, a, e3, fun h => by cases h⟩
      · obtain ⟨rfl, rfl⟩ := need_spec hh ho
        rcases r with ⟨g, ao, hg, e⟩ | r
        · exact .inl ⟨g, ao, by rw [hid]; exact hg, e⟩
        · exact .inr r
      · obtain ⟨h0, rfl, rfl⟩ := need_spec hh ho
        subst h0
        rcases r with ⟨g, ao, hg, e1, e2, e3, _⟩ | ⟨hs, _⟩
        · exact .inl ⟨g, ao, by rw [hid]; exact hg, e1, e2, e3, fun _ => rfl⟩
        · simp [SK.sym] at hs
      · simp at hh
    · simp at h
  | .agg x, b, o, V, h, ho, r => by
    unfold mV at h
    split at h
    · obtain ⟨l, e, r⟩ := r
      exact ⟨l, e, mL_spec hρ h ho r⟩
    · simp at h
  | .tup x, b, o, V, h, ho, r => by
    unfold mV at h
    split at h
    · obtain ⟨l, e, r⟩ := r
      exact ⟨l, e, mL_spec hρ h ho r⟩
    · simp at h
  | .fn f x y, b, o, V, h, ho, r => by
    unfold mV at h
    split at h
    · obtain ⟨hb, hh⟩ := bif_some h
      have := fnEq_spec hb; subst this
      obtain ⟨o1, o2, h1, h2, rfl⟩ := also_spec hh
      obtain ⟨a1, b1, e, r1, r2⟩ := r
      exact ⟨a1, b1, e, mL_spec hρ h1 (fun q hq => ho q (by simp [hq])) r1, mL_spec hρ h2 (fun q hq => ho q (by simp [hq])) r2⟩
    · simp at h
  | .iface t x, b, o, V, h, ho, r => by
    unfold mV at h
    split at h
    · obtain ⟨hb, hh⟩ := bif_some h
      have := Nat.eq_of_beq_eq_true hb; subst this
      obtain ⟨y, e, r⟩ := r
      exact ⟨y, e, mV_spec hρ hh ho r⟩
    · simp at h
  | .raw _, b, o, V, h, ho, r => by
    unfold mV at h
    simp at h
theorem mL_spec {ρ : Nat → Option Nat} {γ γ' : Gm} (hρ : ∀ j i, ρ j = some i → γ' j = γ i) : ∀ {a b : List AV} {o : Obs} {V : List Value}, mL ρ a b = some o → (∀ q ∈ o, q) → LR γ a V → LR γ' b V
  | [], b, o, V, h, ho, r => by
    unfold mL at h
    split at h
    · exact r
    · simp at h
  | x :: a, b, o, V, h, ho, r => by
    unfold mL at h
    split at h
    · simp at h
    · obtain ⟨o1, o2, h1, h2, rfl⟩ := also_spec h
      obtain ⟨v, t, e, r1, r2⟩ := r
      exact ⟨v, t, e, mV_spec hρ h1 (fun q hq => ho q (by simp [hq])) r1, mL_spec hρ h2 (fun q hq => ho q (by simp [hq])) r2⟩
end

def mLL (ρ : Nat → Option Nat) : List (List AV) → List (List AV) → Option Obs
  | [], [] => some []
  | x :: a, y :: b => also (mL ρ x y) (mLL ρ a b)
  | _, _ => none

theorem mL_len {ρ : Nat → Option Nat} : ∀ {a b : List AV} {o : Obs}, mL ρ a b = some o → b.length = a.length
  | [], b, o, h => by
    unfold mL at h
    split at h
    · rfl
    · simp at h
  | x :: a, b, o, h => by
    unfold mL at h
    split at h
    · simp at h
    · obtain ⟨o1, o2, h1, h2, rfl⟩ := also_spec h
      simp [mL_len h2]

theorem mLL_spec {ρ : Nat → Option Nat} {γ γ' : Gm} (hρ : ∀ j i, ρ j = some i → γ' j = γ i) {sz : Nat} : ∀ {a b : List (List AV)} {o : Obs} {V : List Value}, mLL ρ a b = some o → (∀ q ∈ o, q) → LR γ a.flatten V → (∀ x ∈ a, x.length = sz) → LR γ' b.flatten V ∧ ∀ x ∈ b, x.length = sz
  | [], [], o, V, h, ho, r, hs => ⟨r, by simp⟩
  | [], _ :: _, o, V, h, ho, r, hs => by simp [mLL] at h
  | _ :: _, [], o, V, h, ho, r, hs => by simp [mLL] at h
  | x :: a, y :: b, o, V, h, ho, r, hs => by
    simp only [mLL] at h
    obtain ⟨o1, o2, h1, h2, rfl⟩ := also_spec h
    rw [List.flatten_cons] at r
    obtain ⟨A, B, rfl, hA, hB⟩ := LR.split r
    obtain ⟨r1, r2⟩ := mLL_spec hρ h2 (fun q hq => ho q (by simp [hq])) hB (fun z hz => hs z (by simp [hz]))
    refine ⟨by rw [List.flatten_cons]; exact (mL_spec hρ h1 (fun q hq => ho q (by simp [hq])) hA).append r1, fun z hz => ?_⟩
    rcases List.mem_cons.1 hz with rfl | hz
    · rw [mL_len h1]; exact hs x (by simp)
    · exact r2 z hz

def bEq (a b : Bool) : Bool := match a with | true => b | false => !b
theorem bEq_spec {a b : Bool} (h : bEq a b = true) : a = b := by cases a <;> cases b <;> simp_all [bEq]

/-- the types of two rows; of a read-only one it may be any. -/
def sameT (ro : Bool) (T T' : Nat) : Option Obs := match ro with
  | true => some [.fact (T = T')]
  | false => bif Nat.beq T T' then some [] else none
theorem sameT_spec {ro : Bool} {T T' : Nat} {o : Obs} (h : sameT ro T T' = some o) (ho : ∀ q ∈ o, q) : T = T' := by
  unfold sameT at h
  split at h
  · simp at h; subst h
    exact ho (.fact _) (List.mem_singleton.2 rfl)
  · obtain ⟨hb, _⟩ := bif_some h
    exact Nat.eq_of_beq_eq_true hb

def mE (ρ : Nat → Option Nat) : Ent → Ent → Option Obs
  | .cells T cs, .cells T' cs' => bif Nat.beq T T' then mL ρ cs cs' else none
  | .row T ro sh sz xs, .row T' ro' sh' sz' xs' => also (sameT ro T T') (bif bEq ro ro' && Nat.beq sz sz' then (match sh, sh' with
    | none, none => mLL ρ xs xs'
    | some ks, some ks' => bif cksEq ks ks' then some [.fact (xs = xs')] else none
    | none, some ks => bif fitsAll ks xs && Nat.beq (len' ks) sz then some [.fact (normK (some ks) xs = xs')] else none
    | some _, none => none) else none)
  | _, _ => none

theorem mE_spec {ρ : Nat → Option Nat} {γ γ' : Gm} (hρ : ∀ j i, ρ j = some i → γ' j = γ i) {w : World} {i j : Nat} (hij : ρ j = some i) {a b : Ent} {o : Obs} (h : mE ρ a b = some o) (ho : ∀ q ∈ o, q) (r : EntOk γ w i a) :
    EntOk γ' w j b ∧ a.rw = b.rw ∧ a.live = true ∧ b.live = true := by
  unfold mE at h
  split at h
  · obtain ⟨hb, hh⟩ := bif_some h
    have := Nat.eq_of_beq_eq_true hb; subst this
    obtain ⟨g, vs, h1, h2, h3, h4⟩ := r
    exact ⟨⟨g, vs, by rw [hρ _ _ hij]; exact h1, h2, mL_spec hρ hh ho h3, h4⟩, rfl, rfl, rfl⟩
  · rename_i T ro sh sz xs T' ro' sh' sz' xs'
    obtain ⟨o1, o2, hT, h9, rfl⟩ := also_spec h
    have := sameT_spec hT (fun q hq => ho q (List.mem_append_left _ hq)); subst this
    replace ho : ∀ q ∈ o2, q := fun q hq => ho q (List.mem_append_right _ hq)
    obtain ⟨hb, hh⟩ := bif_some h9
    clear h h9
    simp only [Bool.and_eq_true] at hb
    have := bEq_spec hb.1; subst this
    have := Nat.eq_of_beq_eq_true hb.2; subst this
    obtain ⟨hp, hc, r⟩ := r
    refine ⟨?_, rfl, rfl, rfl⟩
    split at hh
    · refine ⟨hp, shaped_none, ?_⟩
      rcases r with ⟨h1, _⟩ | ⟨g, pre, vs, rest, fr, h1, h2, h3, h4, h5, h6, h7⟩
      · simp at h1
      · obtain ⟨r1, r2⟩ := mLL_spec hρ hh ho h5 h6
        exact .inr ⟨g, pre, vs, rest, fr, by rw [hρ _ _ hij]; exact h1, h2, h3, h4, r1, r2, h7⟩
    · obtain ⟨hk, h⟩ := bif_some hh
      clear hh
      have := cksEq_spec hk; subst this
      simp at h; subst h
      have : xs = xs' := ho (.fact _) (List.mem_singleton.2 rfl)
      subst this
      refine ⟨hp, hc, ?_⟩
      rcases r with ⟨h1, h2, h3⟩ | ⟨g, pre, vs, rest, fr, h1, h2, h3, h4, h5, h6⟩
      · exact .inl ⟨h1, h2, by rw [hρ _ _ hij]; exact h3⟩
      · exact .inr ⟨g, pre, vs, rest, fr, by rw [hρ _ _ hij]; exact h1, h2, h3, h4, h5.pure (pureL_rows (hc _ rfl).2), h6⟩
    · obtain ⟨hk, h⟩ := bif_some hh
      clear hh
      simp only [Bool.and_eq_true] at hk
      simp at h; subst h
      rename_i ks
      have : normK (some ks) xs = xs' := ho (.fact _) (List.mem_singleton.2 rfl)
      subst this
      have hks := Nat.eq_of_beq_eq_true hk.2
      rw [len_eq] at hks
      have hcan : ∀ x ∈ normK (some ks) xs, x.length = sz ∧ x = kcells x 0 ks := fun x hx => by
        obtain ⟨y, _, rfl⟩ := List.mem_map.1 hx
        exact ⟨by rw [kcells_len, hks], (kcells_idem y ks).symm⟩
      refine ⟨hp, fun ks' e => by cases e; exact ⟨hks, fun x hx => (hcan x hx).2⟩, ?_⟩
      rcases r with ⟨h1, _⟩ | ⟨g, pre, vs, rest, fr, h1, h2, h3, h4, h5, h6, h7, h8, h9, h10⟩
      · simp at h1
      · have h5' := normAll_spec hk.1 h5
        exact .inr ⟨g, pre, vs, rest, fr, by rw [hρ _ _ hij]; exact h1, h2, h3, h4, h5'.pure (pureL_rows fun x hx => (hcan x hx).2), fun x hx => (hcan x hx).1, h7, h8, h9, h10⟩
    · simp at hh
  · simp at h

def mM (ρ : Nat → Option Nat) (m : Mem) : Nat → Mem → Option Obs
  | _, [] => some []
  | j, e :: L => also (match e with
    | .dead => some []
    | .cells T cs => (match ρ j with
      | some i => (match nth m i with | some e' => mE ρ e' (.cells T cs) | none => none)
      | none => none)
    | .row T ro sh sz xs => (match ρ j with
      | some i => (match nth m i with | some e' => mE ρ e' (.row T ro sh sz xs) | none => none)
      | none => (match ro, sh with
        | false, some ks => bif Nat.beq (len' ks) sz && Nat.blt 0 sz then some [.fact (xs = [])] else none
        | _, _ => none))) (mM ρ m (j + 1) L)

theorem mM_get {ρ : Nat → Option Nat} {m : Mem} : ∀ {L : Mem} {j0 : Nat} {o : Obs}, mM ρ m j0 L = some o → (∀ q ∈ o, q) → ∀ j e, L[j]? = some e → e.live = true →
    (∃ i e' o', ρ (j0 + j) = some i ∧ m[i]? = some e' ∧ mE ρ e' e = some o' ∧ ∀ q ∈ o', q) ∨ (ρ (j0 + j) = none ∧ ∃ T ks sz, e = .row T false (some ks) sz [] ∧ ks.length = sz ∧ 0 < sz)
  | [], _, _, _, _, j, e, he, _ => by simp at he
  | x :: L, j0, o, h, ho, j, e, he, hl => by
    simp only [mM] at h
    obtain ⟨o1, o2, h1, h2, rfl⟩ := also_spec h
    cases j with
    | succ j =>
      have := mM_get h2 (fun q hq => ho q (by simp [hq])) j e (by simpa using he) hl
      rw [show j0 + 1 + j = j0 + (j + 1) by omega] at this
      exact this
    | zero =>
      simp at he; subst he
      rw [Nat.add_zero]
      split at h1
      · simp [Ent.live] at hl
      · split at h1
        · rename_i i hi
          split at h1
          · rename_i e' he'
            rw [nth_eq] at he'
            exact .inl ⟨i, e', o1, hi, he', h1, fun q hq => ho q (by simp [hq])⟩
          · simp at h1
        · simp at h1
      · rename_i T ro sh sz xs
        split at h1
        · rename_i i hi
          split at h1
          · rename_i e' he'
            rw [nth_eq] at he'
            exact .inl ⟨i, e', o1, hi, he', h1, fun q hq => ho q (by simp [hq])⟩
          · simp at h1
        · rename_i hi
          split at h1
          · rename_i ks
            obtain ⟨hb, h3⟩ := bif_some h1
            simp only [Bool.and_eq_true] at hb
            have hk := Nat.eq_of_beq_eq_true hb.1
            rw [len_eq] at hk
            simp only [Option.some.injEq] at h3
            subst h3
            have : xs = [] := ho (.fact _) (by simp)
            subst this
            exact .inr ⟨hi, T, ks, sz, rfl, hk, Nat.blt_eq.mp hb.2⟩
          · simp at h1

/-- no number twice. -/
def distO : List (Option Nat) → Bool
  | [] => true
  | none :: l => distO l
  | some i :: l => notIn i l && distO l
where notIn (i : Nat) : List (Option Nat) → Bool
  | [] => true
  | none :: l => notIn i l
  | some j :: l => !(Nat.beq i j) && notIn i l

def rho (l : List (Option Nat)) (j : Nat) : Option Nat := match nth l j with | some x => x | none => none
theorem rho_some {l : List (Option Nat)} {j i : Nat} : rho l j = some i ↔ l[j]? = some (some i) := by
  unfold rho
  rw [nth_eq]
  cases l[j]? with
  | none => simp
  | some x => simp

theorem notIn_spec {i : Nat} : ∀ {l : List (Option Nat)}, distO.notIn i l = true → ∀ k : Nat, l[k]? ≠ some (some i)
  | [], _, k => by simp
  | none :: l, h, 0 => by simp
  | none :: l, h, k + 1 => by simpa using notIn_spec (l := l) (by simpa [distO.notIn] using h) k
  | some j :: l, h, 0 => by
    simp only [distO.notIn, Bool.and_eq_true, Bool.not_eq_true'] at h
    intro e; simp at e; subst e; simp at h
  | some j :: l, h, k + 1 => by
    simp only [distO.notIn, Bool.and_eq_true] at h
    simpa using notIn_spec h.2 k

theorem distO_spec : ∀ {l : List (Option Nat)}, distO l = true → ∀ {j k i : Nat}, l[j]? = some (some i) → l[k]? = some (some i) → j = k
  | [], _, j, k, i, h, _ => by simp at h
  | none :: l, hd, j, k, i, hj, hk => by
    cases j with
    | zero => simp at hj
    | succ j =>
      cases k with
      | zero => simp at hk
      | succ k => exact congrArg (· + 1) (distO_spec (l := l) (j := j) (k := k) (i := i) (by simpa [distO] using hd) (by simpa using hj) (by simpa using hk))
  | some x :: l, hd, j, k, i, hj, hk => by
    simp only [distO, Bool.and_eq_true] at hd
    cases j with
    | zero =>
      simp at hj; subst hj
      cases k with
      | zero => rfl
      | succ k => exact absurd (by simpa using hk) (notIn_spec hd.1 k)
    | succ j =>
      cases k with
      | zero => simp at hk; subst hk; exact absurd (by simpa using hj) (notIn_spec hd.1 j)
      | succ k => exact congrArg (· + 1) (distO_spec (j := j) (k := k) (i := i) hd.2 (by simpa using hj) (by simpa using hk))

/-- memory, read under other numbers. -/
theorem match_mem {ρl : List (Option Nat)} {H H' : Nat} {γ γ' : Gm} {m L : Mem} {w : World} {o : Obs} (hm : MemOk H γ m w) (hd : distO ρl = true) (h : mM (rho ρl) m 0 L = some o) (ho : ∀ q ∈ o, q)
    (hρ : ∀ j i, rho ρl j = some i → γ' j = γ i) (hno : ∀ j, j < L.length → rho ρl j = none → γ' j = none) (hdom : ∀ j g, γ' j = some g → (j < L.length ∨ H' ≤ j) ∧ ∃ i, γ i = some g) :
    MemOk H' γ' L w ∧ (∀ b, Foot γ' L b → Foot γ m b) ∧ (∀ b, Lv γ' L b → Lv γ m b) := by
  have look := fun j e he hl => by have := mM_get h ho j e he hl; rwa [Nat.zero_add] at this
  have hrwl : ∀ {e : Ent}, e.rw = true → e.live = true := fun {e} h => by cases e <;> simp_all [Ent.rw, Ent.live]
  have real : ∀ j e g, L[j]? = some e → e.live = true → γ' j = some g → ∃ i e', rho ρl j = some i ∧ m[i]? = some e' ∧ e'.live = true ∧ e'.rw = e.rw ∧ γ i = some g := by
    intro j e g he hl hg
    rcases look j e he hl with ⟨i, e', o', h1, h2, h3, h4⟩ | ⟨h1, _⟩
    · obtain ⟨_, h5, h6, _⟩ := mE_spec hρ (w := w) h1 h3 h4 (hm.ent i e' h2)
      exact ⟨i, e', h1, h2, h6, h5, by rw [← hρ _ _ h1]; exact hg⟩
    · rw [hno j (List.getElem?_eq_some_iff.1 he).1 h1] at hg; cases hg
  refine ⟨⟨fun j e he => ?_, fun j g hg => ?_, fun j k ej ek gj gk hjk hj hk h1 h2 hgj hgk => ?_⟩, fun b hb => ?_, fun b hb => ?_⟩
  · cases hl : e.live with
    | false => cases e <;> simp [Ent.live] at hl; trivial
    | true =>
      rcases look j e he hl with ⟨i, e', o', h1, h2, h3, h4⟩ | ⟨h1, T, ks, sz, rfl, h2, h3⟩
      · exact (mE_spec hρ h1 h3 h4 (hm.ent i e' h2)).1
      · exact ⟨h3, fun ks' e => by cases e; exact ⟨h2, by simp⟩, .inl ⟨rfl, rfl, hno j (List.getElem?_eq_some_iff.1 he).1 h1⟩⟩
  · obtain ⟨h1, i, hi⟩ := hdom j g hg
    exact ⟨h1, (hm.dom i g hi).2⟩
  · obtain ⟨i1, e1, a1, a2, a3, a4, a5⟩ := real j ej gj hj (hrwl h1) hgj
    obtain ⟨i2, e2, b1, b2, b3, b4, b5⟩ := real k ek gk hk h2 hgk
    refine hm.sep i1 i2 e1 e2 gj gk (fun e => ?_) a2 b2 (by rw [a4]; exact h1) b3 a5 b5
    subst e
    exact hjk (distO_spec hd (rho_some.1 a1) (rho_some.1 b1))
  · obtain ⟨j, e, g, he, hrw, hg, rfl⟩ := hb
    obtain ⟨i, e', h1, h2, h3, h4, h5⟩ := real j e g he (hrwl hrw) hg
    exact ⟨i, e', g, h2, by rw [h4]; exact hrw, h5, rfl⟩
  · obtain ⟨j, e, g, he, hl, hg, rfl⟩ := hb
    obtain ⟨i, e', h1, h2, h3, h4, h5⟩ := real j e g he hl hg
    exact ⟨i, e', g, h2, h3, h5, rfl⟩

/-! ### Which number is which -/
def addB (acc : List (Nat × Nat)) (j i : Nat) : List (Nat × Nat) := bif hasK j acc then acc else acc ++ [(j, i)]
where hasK (j : Nat) : List (Nat × Nat) → Bool
  | [] => false
  | (k, _) :: l => Nat.beq k j || hasK j l

mutual
def bindV : AV → AV → List (Nat × Nat) → List (Nat × Nat)
  | .ptr i _, b, acc => (match b with
    | .ptr j _ => addB acc j i
    | _ => acc)
  | .eptr i _ _, b, acc => (match b with
    | .eptr j _ _ => addB acc j i
    | _ => acc)
  | .sl _ i _ _, b, acc => (match b with
    | .sl _ j _ _ => addB acc j i
    | _ => acc)
  | .agg x, b, acc => (match b with
    | .agg y => bindL x y acc
    | _ => acc)
  | .tup x, b, acc => (match b with
    | .tup y => bindL x y acc
    | _ => acc)
  | .fn _ x y, b, acc => (match b with
    | .fn _ x' y' => bindL y y' (bindL x x' acc)
    | _ => acc)
  | .iface _ x, b, acc => (match b with
    | .iface _ y => bindV x y acc
    | _ => acc)
  | .int _ _ _, _, acc => acc
  | .bool _ _, _, acc => acc
  | .str _ _, _, acc => acc
  | .nilp, _, acc => acc
  | .nils, _, acc => acc
  | .emp, _, acc => acc
  | .dptr _ _, _, acc => acc
  | .nilfn, _, acc => acc
  | .nilif, _, acc => acc
  | .raw _, _, acc => acc
termination_by structural a => a
def bindL : List AV → List AV → List (Nat × Nat) → List (Nat × Nat)
  | [], _, acc => acc
  | x :: a, b, acc => (match b with
    | [] => acc
    | y :: b => bindL a b (bindV x y acc))
termination_by structural a => a
end

def bindLL : List (List AV) → List (List AV) → List (Nat × Nat) → List (Nat × Nat)
  | x :: a, y :: b, acc => bindLL a b (bindL x y acc)
  | _, _, acc => acc

def bindE : Ent → Ent → List (Nat × Nat) → List (Nat × Nat)
  | .cells _ a, .cells _ b, acc => bindL a b acc
  | .row _ _ none _ a, .row _ _ none _ b, acc => bindLL a b acc
  | _, _, acc => acc

def bindAll (m L : Mem) : Nat → Nat → List (Nat × Nat) → List (Nat × Nat)
  | 0, _, acc => acc
  | k + 1, n, acc => match nth acc n with
    | none => acc
    | some (j, i) => (match nth m i, nth L j with
      | some e, some e' => bindAll m L k (n + 1) (bindE e e' acc)
      | _, _ => bindAll m L k (n + 1) acc)

def rhoL (acc : List (Nat × Nat)) : Nat → Nat → List (Option Nat)
  | _, 0 => []
  | j, n + 1 => look j acc :: rhoL acc (j + 1) n
where look (j : Nat) : List (Nat × Nat) → Option Nat
  | [] => none
  | (k, i) :: l => bif Nat.beq k j then some i else look j l

theorem rhoL_len (acc : List (Nat × Nat)) : ∀ (n j : Nat), (rhoL acc j n).length = n
  | 0, _ => rfl
  | n + 1, j => by simp [rhoL, rhoL_len acc n (j + 1)]

def fixPairs : List Bool → Nat → List (Nat × Nat)
  | [], _ => []
  | true :: l, j => (j, j) :: fixPairs l (j + 1)
  | false :: l, j => fixPairs l (j + 1)

/-- what keeps its number does so. -/
def okFix : List Bool → Nat → List (Option Nat) → Bool
  | [], _, _ => true
  | true :: fs, j, l => (match l with
    | some i :: l => Nat.beq i j && okFix fs (j + 1) l
    | _ => false)
  | false :: fs, j, l => (match l with
    | _ :: l => okFix fs (j + 1) l
    | [] => false)

theorem okFix_spec : ∀ {fs : List Bool} {j0 : Nat} {l : List (Option Nat)}, okFix fs j0 l = true → ∀ j, fx fs j = true → l[j]? = some (some (j0 + j))
  | [], _, _, _, j, h => by simp [fx, nth_nil, nth_zero, nth_succ] at h
  | true :: fs, j0, l, h, j, hj => by
    simp only [okFix] at h
    split at h
    · simp only [Bool.and_eq_true] at h
      cases j with
      | zero => have := Nat.eq_of_beq_eq_true h.1; subst this; simp
      | succ j =>
        have := okFix_spec h.2 j (by simpa [fx, nth_nil, nth_zero, nth_succ] using hj)
        simp only [List.getElem?_cons_succ]
        rw [this]; congr 2; omega
    · simp at h
  | false :: fs, j0, l, h, j, hj => by
    simp only [okFix] at h
    split at h
    · cases j with
      | zero => simp [fx, nth_nil, nth_zero, nth_succ] at hj
      | succ j =>
        have := okFix_spec h j (by simpa [fx, nth_nil, nth_zero, nth_succ] using hj)
        simp only [List.getElem?_cons_succ]
        rw [this]; congr 2; omega
    · simp at h
end
end Go.XM

namespace Go.XM
open Go
noncomputable section
variable {P : Program}

def Res.isOk {α : Type} : Res α → Bool
  | .ok _ => true
  | .no _ => false

/-- slots, read as others. -/
def mR (ρ : Nat → Option Nat) (r : Regs) : Regs → Option Obs
  | [] => some []
  | (t, b) :: R => (match get r t with
    | some v => also (mV ρ v b) (mR ρ r R)
    | none => none)

theorem mR_get {ρ : Nat → Option Nat} {r : Regs} : ∀ {R : Regs} {o : Obs}, mR ρ r R = some o → (∀ q ∈ o, q) → ∀ t b, get R t = some b → ∃ v o', get r t = some v ∧ mV ρ v b = some o' ∧ ∀ q ∈ o', q
  | [], o, h, ho, t, b, hb => by simp [get_nil] at hb
  | (k, u) :: R, o, h, ho, t, b, hb => by
    simp only [mR] at h
    split at h
    · rename_i v hv
      obtain ⟨o1, o2, h1, h2, rfl⟩ := also_spec h
      simp only [get_cons] at hb
      cases hk : Nat.beq k t with
      | true =>
        rw [hk] at hb; simp at hb; subst hb
        have := Nat.eq_of_beq_eq_true hk; subst this
        exact ⟨v, o1, hv, h1, fun q hq => ho q (by simp [hq])⟩
      | false =>
        rw [hk] at hb
        exact mR_get h2 (fun q hq => ho q (by simp [hq])) t b hb
    · simp at h

theorem mR_spec {ρ : Nat → Option Nat} {γ γ' : Gm} (hρ : ∀ j i, ρ j = some i → γ' j = γ i) {N : Nat} {r R : Regs} {o : Obs} {a : Act} (h : mR ρ r R = some o) (ho : ∀ q ∈ o, q) (hr : RO γ N r a) : RO γ' N R a :=
  ⟨hr.defers, hr.size, fun t b hb => by
    obtain ⟨v, o', h1, h2, h3⟩ := mR_get h ho t b hb
    obtain ⟨V, h4, h5⟩ := hr.get t v h1
    exact ⟨V, h4, mV_spec hρ h2 h3 h5⟩⟩

def valsR : Regs → List AV
  | [] => []
  | (_, v) :: R => v :: valsR R
def picked (r : Regs) : Regs → List AV
  | [] => []
  | (t, _) :: R => (match get r t with | some v => v :: picked r R | none => .nilp :: picked r R)

/-- a state, read as another, some of whose entries keep their numbers. -/
def reshape (fs : List Bool) (v V : List AV) (m L : Mem) : Option (List (Option Nat)) :=
  let ρl := rhoL (bindAll m L 500 0 (bindL v V (fixPairs fs 0))) 0 (len' L)
  bif distO ρl && okFix fs 0 ρl && Nat.ble (len' fs) (len' L) then some ρl else none

def shapeR (fs : List Bool) (r : Regs) (m : Mem) (R : Regs) (L : Mem) : Option Obs :=
  match reshape fs (picked r R) (valsR R) m L with
  | some ρl => also (mR (rho ρl) r R) (mM (rho ρl) m 0 L)
  | none => none

def shapeV (fs : List Bool) (v : AV) (m : Mem) (V : AV) (L : Mem) : Option Obs :=
  match reshape fs [v] [V] m L with
  | some ρl => also (mV (rho ρl) v V) (mM (rho ρl) m 0 L)
  | none => none

/-- the state at a loop's head, read as the layout. -/
def ReshR (fs : List Bool) (r : Regs) (m : Mem) (R : Regs) (L : Mem) : Prop :=
  match shapeR fs r m R L with
  | some o => allF o True
  | none => False
/-- a result, read as the layout. -/
def ReshV (fs : List Bool) (v : AV) (m : Mem) (V : AV) (L : Mem) : Prop :=
  match shapeV fs v m V L with
  | some o => allF o True
  | none => False

theorem reshape_some {fs : List Bool} {v V : List AV} {m L : Mem} {ρl : List (Option Nat)} (h : reshape fs v V m L = some ρl) : distO ρl = true ∧ (∀ j, fx fs j = true → rho ρl j = some j) ∧ fs.length ≤ L.length ∧ ρl.length = L.length := by
  unfold reshape at h
  simp only at h
  obtain ⟨hb, h⟩ := bif_some h
  simp only [Option.some.injEq] at h
  rw [h] at hb
  simp only [Bool.and_eq_true] at hb
  have hl := Nat.le_of_ble_eq_true hb.2
  rw [len_eq, len_eq] at hl
  refine ⟨hb.1.1, fun j hj => ?_, hl, ?_⟩
  · have := okFix_spec hb.1.2 j hj
    rw [Nat.zero_add] at this
    exact rho_some.2 this
  · rw [← h, rhoL_len, len_eq]

/-- the relation under the other numbers; what a run does not see stays. -/
def recast (H : Nat) (γ : Gm) (ρl : List (Option Nat)) (n : Nat) : Gm := fun j => if j < n then (match rho ρl j with | some i => γ i | none => none) else if H ≤ j then γ j else none

theorem recast_ok {fs : List Bool} {v V : List AV} {m L : Mem} {ρl : List (Option Nat)} (h : reshape fs v V m L = some ρl) {H : Nat} {γ : Gm} {w : World} {o : Obs} (hH : L.length ≤ H) (hm : MemOk H γ m w) (hM : mM (rho ρl) m 0 L = some o) (ho : ∀ q ∈ o, q) :
    (∀ j i, rho ρl j = some i → recast H γ ρl L.length j = γ i) ∧ MemOk H (recast H γ ρl L.length) L w ∧ SR H fs γ m w (recast H γ ρl L.length) L w := by
  obtain ⟨hd, hfix, hfl, hρl⟩ := reshape_some h
  have lt : ∀ j i, rho ρl j = some i → j < L.length := fun j i hj => by rw [← hρl]; exact (List.getElem?_eq_some_iff.1 (rho_some.1 hj)).1
  have hρ : ∀ j i, rho ρl j = some i → recast H γ ρl L.length j = γ i := fun j i hj => by
    unfold recast; rw [if_pos (lt j i hj), hj]
  obtain ⟨h1, h2, h3⟩ := match_mem (γ' := recast H γ ρl L.length) hm hd hM ho hρ (fun j hj hn => by unfold recast; rw [if_pos hj, hn]) (H' := H) (fun j g hg => by
    unfold recast at hg
    split at hg
    · rename_i hj
      refine ⟨.inl hj, ?_⟩
      split at hg
      · exact ⟨_, hg⟩
      · cases hg
    · split at hg
      · rename_i hj; exact ⟨.inr hj, _, hg⟩
      · cases hg)
  refine ⟨hρ, h1, ⟨rfl, rfl, rfl, Nat.le_refl _, fun _ _ _ => rfl, fun b hb => .inl (h2 b hb), fun b hb => .inl (h3 b hb), fun id hid => ?_⟩⟩
  rcases hid with hid | hid
  · exact hρ id id (hfix id hid)
  · unfold recast; rw [if_neg (by omega), if_pos hid]

theorem ReshR.code {fs : List Bool} {N : Nat} {c : Code} {r r1 R : Regs} {m m1 L : Mem} {e : Ex} (h : CodeR P fs N c r m e r1 m1) (hs : ReshR fs r1 m1 R L) : CodeR P fs N c r m e R L := by
  unfold ReshR at hs
  cases hx : shapeR fs r1 m1 R L with
  | none => rw [hx] at hs; cases hs
  | some o =>
    rw [hx] at hs
    obtain ⟨ho, _⟩ := allF_spec hs
    unfold shapeR at hx
    split at hx
    · rename_i ρl hρl
      obtain ⟨o1, o2, h1, h2, rfl⟩ := also_spec hx
      obtain ⟨_, B, h⟩ := h
      refine ⟨(reshape_some hρl).2.2.1, max B L.length, fun H γ a w Q hH hr hm hq => ?_⟩
      refine h H γ a w Q (by omega) hr hm fun γ' a' w' hr' hm' hs' => ?_
      obtain ⟨k1, k2, k3⟩ := recast_ok hρl (w := w') (by omega) hm' h2 (fun q hq => ho q (by simp [hq]))
      exact hq _ a' w' (mR_spec k1 h1 (fun q hq => ho q (by simp [hq])) hr') k2 (hs'.trans k3)
    · simp at hx

/-- the state ahead of a loop, read as the layout. -/
theorem ReshR.first {fs : List Bool} {N : Nat} {c : Code} {r r1 R : Regs} {m m1 L : Mem} {e : Ex} (h : CodeR P fs N c R L e r1 m1) (hs : ReshR fs r m R L) : CodeR P fs N c r m e r1 m1 := by
  unfold ReshR at hs
  cases hx : shapeR fs r m R L with
  | none => rw [hx] at hs; cases hs
  | some o =>
    rw [hx] at hs
    obtain ⟨ho, _⟩ := allF_spec hs
    unfold shapeR at hx
    split at hx
    · rename_i ρl hρl
      obtain ⟨o1, o2, h1, h2, rfl⟩ := also_spec hx
      obtain ⟨hf, B, h⟩ := h
      refine ⟨hf, max B L.length, fun H γ a w Q hH hr hm hq => ?_⟩
      obtain ⟨k1, k2, k3⟩ := recast_ok hρl (w := w) (by omega) hm h2 (fun q hq => ho q (by simp [hq]))
      exact h H _ a w Q (by omega) (mR_spec k1 h1 (fun q hq => ho q (by simp [hq])) hr) k2 fun γ' a' w' hr' hm' hs' => hq γ' a' w' hr' hm' (k3.trans hs')
    · simp at hx

theorem ReshV.call {fs : List Bool} {f : FuncId} {args : List AV} {m m1 L : Mem} {v V : AV} (h : CallR P fs f args m v m1) (hs : ReshV fs v m1 V L) : CallR P fs f args m V L := by
  unfold ReshV at hs
  cases hx : shapeV fs v m1 V L with
  | none => rw [hx] at hs; cases hs
  | some o =>
    rw [hx] at hs
    obtain ⟨ho, _⟩ := allF_spec hs
    unfold shapeV at hx
    split at hx
    · rename_i ρl hρl
      obtain ⟨o1, o2, h1, h2, rfl⟩ := also_spec hx
      obtain ⟨_, B, h⟩ := h
      refine ⟨(reshape_some hρl).2.2.1, max B L.length, fun H γ w Vs hH hm hV => ?_⟩
      refine Calls.mono (h H γ w Vs (by omega) hm hV) ?_
      rintro e w' ⟨U, γ', rfl, hU, hm', hs'⟩
      obtain ⟨k1, k2, k3⟩ := recast_ok hρl (w := w') (by omega) hm' h2 (fun q hq => ho q (by simp [hq]))
      exact ⟨U, _, rfl, mV_spec k1 h1 (fun q hq => ho q (by simp [hq])) hU, k2, hs'.trans k3⟩
    · simp at hx

/-- A loop by its layouts: each round ends at a smaller one, or as the whole is to end. -/
theorem loop_rule {α : Type} {fs : List Bool} {N : Nat} {c : Code} (R : α → Regs) (L : α → Mem) (Inv : α → Prop) (μ : α → Nat) (post : α → KC)
    (step : ∀ p, Inv p → ∃ e r m, CodeR P fs N c (R p) (L p) e r m ∧ ((e = .normal ∧ ∃ p', Inv p' ∧ μ p' < μ p ∧ ReshR fs r m (R p') (L p') ∧ ∀ e r m, post p' e r m → post p e r m) ∨ (e ≠ .normal ∧ post p e r m))) :
    ∀ p, Inv p → ∃ e r m, LoopR P fs N c (R p) (L p) e r m ∧ post p e r m := by
  have key : ∀ n p, μ p ≤ n → Inv p → ∃ e r m, LoopR P fs N c (R p) (L p) e r m ∧ post p e r m := by
    intro n
    induction n with
    | zero =>
      intro p hn hp
      obtain ⟨e, r, m, ⟨hf, B, h⟩, ⟨_, p', _, hlt, _⟩ | ⟨hne, hpost⟩⟩ := step p hp
      · omega
      · refine ⟨e, r, m, ⟨hf, B, fun H γ a w Q hH hr hm hq => LoopW.step (fun _ _ => False) (fun _ _ h => h.elim) (wp_of_wpN (h H γ a w _ hH hr hm fun γ' a' w' hr' hm' hs' => ?_))⟩, hpost⟩
        have := hq γ' a' w' hr' hm' hs'
        cases e with
        | normal => exact absurd rfl hne
        | ret => exact this
        | exit id => exact this
    | succ n ih =>
      intro p hn hp
      obtain ⟨e, r, m, hc, ⟨rfl, p', hp', hlt, hs, hmono⟩ | ⟨hne, hpost⟩⟩ := step p hp
      · obtain ⟨_, B, h⟩ := hs.code hc
        obtain ⟨e2, r2, m2, ⟨hf2, B2, h2⟩, hpost⟩ := ih p' (by omega) hp'
        refine ⟨e2, r2, m2, ⟨hf2, max B B2, fun H γ a w Q hH hr hm hq => LoopW.step (LoopW P c Q) (fun _ _ h => h) (wp_of_wpN (h H γ a w _ (by omega) hr hm fun γ' a' w' hr' hm' hs' => ?_))⟩, hmono _ _ _ hpost⟩
        exact h2 H γ' a' w' Q (by omega) hr' hm' fun γ2 a2 w2 hr2 hm2 hs2 => hq γ2 a2 w2 hr2 hm2 (hs'.trans hs2)
      · obtain ⟨hf, B, h⟩ := hc
        refine ⟨e, r, m, ⟨hf, B, fun H γ a w Q hH hr hm hq => LoopW.step (fun _ _ => False) (fun _ _ h => h.elim) (wp_of_wpN (h H γ a w _ hH hr hm fun γ' a' w' hr' hm' hs' => ?_))⟩, hpost⟩
        have := hq γ' a' w' hr' hm' hs'
        cases e with
        | normal => exact absurd rfl hne
        | ret => exact this
        | exit id => exact this
  exact fun p hp => key (μ p) p (Nat.le_refl _) hp
end
end Go.XM

namespace Go.XM
open Go
noncomputable section
variable {P : Program}

/-! ### A part of memory, run by itself -/
mutual
def renV (ρ : Nat → Nat) : AV → AV
  | .ptr i o => .ptr (ρ i) o
  | .eptr i x y => .eptr (ρ i) x y
  | .sl s i lo n => .sl s (ρ i) lo n
  | .agg x => .agg (renL ρ x)
  | .tup x => .tup (renL ρ x)
  | .fn f x y => .fn f (renL ρ x) (renL ρ y)
  | .iface t x => .iface t (renV ρ x)
  | .int s k n => .int s k n
  | .bool s b => .bool s b
  | .str s b => .str s b
  | .nilp => .nilp
  | .nils => .nils
  | .emp => .emp
  | .dptr i n => .dptr (ρ i) n
  | .nilfn => .nilfn
  | .nilif => .nilif
  | .raw v => .raw v
def renL (ρ : Nat → Nat) : List AV → List AV
  | [] => []
  | x :: l => renV ρ x :: renL ρ l
end
def renLL (ρ : Nat → Nat) : List (List AV) → List (List AV)
  | [] => []
  | x :: l => renL ρ x :: renLL ρ l
def renE (ρ : Nat → Nat) : Ent → Ent
  | .dead => .dead
  | .cells T cs => .cells T (renL ρ cs)
  | .row T ro (some ks) sz xs => .row T ro (some ks) sz xs
  | .row T ro none sz xs => .row T ro none sz (renLL ρ xs)

mutual
theorem renV_spec {ρ : Nat → Nat} {γ γ' : Gm} (h : ∀ j g, γ j = some g → γ' (ρ j) = some g) : ∀ {v : AV} {V : Value}, VR γ v V → VR γ' (renV ρ v) V
  | .int .., _, r => r
  | .bool .., _, r => r
  | .str .., _, r => r
  | .nilp, _, r => r
  | .nils, _, r => r
  | .emp, _, r => r
  | .dptr .., _, ⟨p, e, r⟩ => ⟨p, e, r.imp (fun h => h) fun ⟨g, hg, r⟩ => ⟨g, h _ _ hg, r⟩⟩
  | .nilfn, _, r => r
  | .nilif, _, r => r
  | .ptr .., _, ⟨g, hg, r⟩ => ⟨g, h _ _ hg, r⟩
  | .eptr .., _, ⟨g, hg, r⟩ => ⟨g, h _ _ hg, r⟩
  | .sl .., _, .inl ⟨g, ao, hg, r⟩ => .inl ⟨g, ao, h _ _ hg, r⟩
  | .sl .., _, .inr r => .inr r
  | .agg _, _, ⟨l, e, r⟩ => ⟨l, e, renL_spec h r⟩
  | .tup _, _, ⟨l, e, r⟩ => ⟨l, e, renL_spec h r⟩
  | .fn _ _ _, _, ⟨a, b, e, r, r'⟩ => ⟨a, b, e, renL_spec h r, renL_spec h r'⟩
  | .iface _ _, _, ⟨x, e, r⟩ => ⟨x, e, renV_spec h r⟩
  | .raw _, _, r => r
theorem renL_spec {ρ : Nat → Nat} {γ γ' : Gm} (h : ∀ j g, γ j = some g → γ' (ρ j) = some g) : ∀ {v : List AV} {V : List Value}, LR γ v V → LR γ' (renL ρ v) V
  | [], _, r => r
  | _ :: _, _, ⟨v, t, e, r, r'⟩ => ⟨v, t, e, renV_spec h r, renL_spec h r'⟩
end

theorem renL_append (ρ : Nat → Nat) : ∀ (a b : List AV), renL ρ (a ++ b) = renL ρ a ++ renL ρ b
  | [], _ => rfl
  | x :: a, b => by simp [renL, renL_append ρ a b]
theorem renL_len (ρ : Nat → Nat) : ∀ (a : List AV), (renL ρ a).length = a.length
  | [] => rfl
  | x :: a => by simp [renL, renL_len ρ a]
theorem renLL_flat (ρ : Nat → Nat) : ∀ (a : List (List AV)), (renLL ρ a).flatten = renL ρ a.flatten
  | [] => rfl
  | x :: a => by simp [renLL, renL_append, renLL_flat ρ a]
theorem renLL_sz {ρ : Nat → Nat} {sz : Nat} : ∀ {a : List (List AV)}, (∀ x ∈ a, x.length = sz) → ∀ x ∈ renLL ρ a, x.length = sz
  | [], _ => by simp [renLL]
  | y :: a, h => by
    intro x hx
    simp only [renLL, List.mem_cons] at hx
    rcases hx with rfl | hx
    · rw [renL_len]; exact h y (by simp)
    · exact renLL_sz (fun z hz => h z (by simp [hz])) x hx

theorem renE_rw (ρ : Nat → Nat) (e : Ent) : (renE ρ e).rw = e.rw := by
  cases e with
  | row T ro sh sz xs => cases sh <;> rfl
  | _ => rfl
theorem renE_live (ρ : Nat → Nat) (e : Ent) : (renE ρ e).live = e.live := by
  cases e with
  | row T ro sh sz xs => cases sh <;> rfl
  | _ => rfl
theorem renE_spec {ρ : Nat → Nat} {γ γ' : Gm} (h : ∀ j g, γ j = some g → γ' (ρ j) = some g) {w : World} {j : Nat} (hj : γ' (ρ j) = γ j) {e : Ent} (r : EntOk γ w j e) : EntOk γ' w (ρ j) (renE ρ e) := by
  cases e with
  | dead => trivial
  | cells T cs => obtain ⟨g, vs, h1, h2, h3, h4⟩ := r; exact ⟨g, vs, h _ _ h1, h2, renL_spec h h3, h4⟩
  | row T ro sh sz xs =>
    obtain ⟨hp, hc, r⟩ := r
    cases sh with
    | some ks =>
      refine ⟨hp, hc, ?_⟩
      rcases r with ⟨h1, h2, h3⟩ | ⟨g, pre, vs, rest, fr, h1, h2, h3, h4, h5, h6⟩
      · exact .inl ⟨h1, h2, hj.trans h3⟩
      · exact .inr ⟨g, pre, vs, rest, fr, h _ _ h1, h2, h3, h4, h5.pure (pureL_rows (hc _ rfl).2), h6⟩
    | none =>
      refine ⟨hp, shaped_none, ?_⟩
      rcases r with ⟨h1, _⟩ | ⟨g, pre, vs, rest, fr, h1, h2, h3, h4, h5, h6, h7⟩
      · simp at h1
      · exact .inr ⟨g, pre, vs, rest, fr, h _ _ h1, h2, h3, h4, by rw [renLL_flat]; exact renL_spec h h5, renLL_sz h6, h7⟩

/-- the number of an entry of the part, in the whole. -/
def newId (fs : List Bool) (ρl : List (Option Nat)) (n j : Nat) : Nat :=
  match fx fs j with
  | true => (match rho ρl j with | some i => i | none => n + j)
  | false => n + j

def backE (fs : List Bool) (ρ : Nat → Nat) (L : Mem) (j : Nat) : Ent := bif fx fs j then (match nth L j with | some e => renE ρ e | none => .dead) else .dead
/-- what keeps its number is put back; of the rest the whole keeps nothing under the old numbers. -/
def putBack (fs : List Bool) (ρ : Nat → Nat) (L : Mem) : Nat → List (Option Nat) → Mem → Mem
  | _, [], M => M
  | j, none :: l, M => putBack fs ρ L (j + 1) l M
  | j, some i :: l, M => putBack fs ρ L (j + 1) l (upd M i (backE fs ρ L j))
def appd (fs : List Bool) (ρ : Nat → Nat) : Nat → Mem → Mem
  | _, [] => []
  | j, e :: L => (bif fx fs j then .dead else renE ρ e) :: appd fs ρ (j + 1) L
def merged (fs : List Bool) (ρl : List (Option Nat)) (M L : Mem) : Mem := putBack fs (newId fs ρl (len' M)) L 0 ρl M ++ appd fs (newId fs ρl (len' M)) 0 L

theorem putBack_len {fs : List Bool} {ρ : Nat → Nat} {L : Mem} : ∀ {l : List (Option Nat)} {j : Nat} {M : Mem}, (putBack fs ρ L j l M).length = M.length
  | [], _, _ => rfl
  | none :: l, j, M => putBack_len (l := l)
  | some i :: l, j, M => by simp only [putBack]; rw [putBack_len, upd_eq]; simp
theorem appd_len {fs : List Bool} {ρ : Nat → Nat} : ∀ {L : Mem} {j : Nat}, (appd fs ρ j L).length = L.length
  | [], _ => rfl
  | e :: L, j => by simp [appd, appd_len (L := L)]
theorem merged_len {fs : List Bool} {ρl : List (Option Nat)} {M L : Mem} : (merged fs ρl M L).length = M.length + L.length := by simp [merged, putBack_len, appd_len]

theorem putBack_other {fs : List Bool} {ρ : Nat → Nat} {L : Mem} {id : Nat} : ∀ {l : List (Option Nat)} {j : Nat} {M : Mem}, (∀ k : Nat, l[k]? ≠ some (some id)) → (putBack fs ρ L j l M)[id]? = M[id]?
  | [], _, _, _ => rfl
  | none :: l, j, M, h => putBack_other (l := l) fun k => by have := h (k + 1); simpa using this
  | some i :: l, j, M, h => by
    simp only [putBack]
    rw [putBack_other fun k => by have := h (k + 1); simpa using this, upd_eq]
    exact List.getElem?_set_ne (fun e => h 0 (by simp [e]))
theorem putBack_hit {fs : List Bool} {ρ : Nat → Nat} {L : Mem} {id : Nat} : ∀ {l : List (Option Nat)} {j k : Nat} {M : Mem}, distO l = true → l[k]? = some (some id) → id < M.length → (putBack fs ρ L j l M)[id]? = some (backE fs ρ L (j + k))
  | [], _, k, _, _, h, _ => by simp at h
  | none :: l, j, k, M, hd, h, hl => by
    cases k with
    | zero => simp at h
    | succ k =>
      simp only [putBack]
      rw [putBack_hit (k := k) (by simpa [distO] using hd) (by simpa using h) hl]
      congr 2; omega
  | some i :: l, j, k, M, hd, h, hl => by
    simp only [putBack]
    cases k with
    | zero =>
      simp at h; subst h
      simp only [distO, Bool.and_eq_true] at hd
      rw [putBack_other (notIn_spec hd.1), upd_eq, List.getElem?_set, if_pos rfl, if_pos hl]; rfl
    | succ k =>
      simp only [distO, Bool.and_eq_true] at hd
      rw [putBack_hit (k := k) hd.2 (by simpa using h) (by rw [upd_eq]; simpa using hl)]
      congr 2; omega
theorem appd_get {fs : List Bool} {ρ : Nat → Nat} : ∀ {L : Mem} {j k : Nat}, (appd fs ρ j L)[k]? = (L[k]?).map fun e => bif fx fs (j + k) then Ent.dead else renE ρ e
  | [], _, _ => by simp [appd]
  | e :: L, j, 0 => by simp [appd]
  | e :: L, j, k + 1 => by
    simp only [appd, List.getElem?_cons_succ]
    rw [appd_get, show j + 1 + k = j + (k + 1) by omega]

/-- the entries of the whole: those of the part, and the others. -/
theorem merged_get {fs : List Bool} {ρl : List (Option Nat)} {M L : Mem} (hd : distO ρl = true) {id : Nat} {e : Ent} (h : (merged fs ρl M L)[id]? = some e) (hl : e.live = true) :
    (∃ j e0, L[j]? = some e0 ∧ e = renE (newId fs ρl M.length) e0 ∧ id = newId fs ρl M.length j) ∨ (id < M.length ∧ M[id]? = some e ∧ ∀ j, rho ρl j ≠ some id) := by
  unfold merged at h
  rw [len_eq] at h
  rcases Nat.lt_or_ge id M.length with hlt | hge
  · rw [List.getElem?_append_left (by rw [putBack_len]; exact hlt)] at h
    by_cases hex : ∃ k : Nat, ρl[k]? = some (some id)
    · obtain ⟨k, hk⟩ := hex
      rw [putBack_hit hd hk hlt, Nat.zero_add] at h
      simp only [Option.some.injEq] at h
      subst h
      unfold backE at hl ⊢
      cases hf : fx fs k with
      | false => rw [hf] at hl; simp [Ent.live] at hl
      | true =>
        rw [hf] at hl
        simp only [cond_true] at hl ⊢
        rw [nth_eq] at hl ⊢
        cases hL : L[k]? with
        | none => rw [hL] at hl; simp [Ent.live] at hl
        | some e0 => exact .inl ⟨k, e0, hL, rfl, by unfold newId; rw [hf, rho_some.2 hk]⟩
    · rw [putBack_other fun k hk => hex ⟨k, hk⟩] at h
      exact .inr ⟨hlt, h, fun j hj => hex ⟨j, rho_some.1 hj⟩⟩
  · rw [List.getElem?_append_right (by rw [putBack_len]; exact hge), putBack_len, appd_get, Nat.zero_add] at h
    cases hL : L[id - M.length]? with
    | none => rw [hL] at h; simp at h
    | some e0 =>
      rw [hL] at h
      simp only [Option.map_some, Option.some.injEq] at h
      cases hf : fx fs (id - M.length) with
      | true => rw [hf] at h; subst h; simp [Ent.live] at hl
      | false =>
        rw [hf] at h
        exact .inl ⟨id - M.length, e0, hL, h.symm, by unfold newId; rw [hf]; simp; omega⟩

def okBack (fs : List Bool) (ρl : List (Option Nat)) (n : Nat) : Bool := go 0 fs ρl && lts ρl
where
  go : Nat → List Bool → List (Option Nat) → Bool
    | _, [], _ => true
    | j, true :: fs, l => (match l with
      | some _ :: l => go (j + 1) fs l
      | _ => false)
    | j, false :: fs, l => (match l with
      | _ :: l => go (j + 1) fs l
      | [] => false)
  lts : List (Option Nat) → Bool
    | [] => true
    | none :: l => lts l
    | some i :: l => Nat.blt i n && lts l

theorem okBack_go {n : Nat} : ∀ {fs : List Bool} {j0 : Nat} {l : List (Option Nat)}, okBack.go j0 fs l = true → ∀ j, fx fs j = true → ∃ i, l[j]? = some (some i)
  | [], _, _, _, j, h => by simp [fx, nth_nil, nth_zero, nth_succ] at h
  | true :: fs, j0, l, h, j, hj => by
    simp only [okBack.go] at h
    split at h
    · cases j with
      | zero => exact ⟨_, rfl⟩
      | succ j => simpa using okBack_go (n := n) h j (by simpa [fx, nth_nil, nth_zero, nth_succ] using hj)
    · simp at h
  | false :: fs, j0, l, h, j, hj => by
    simp only [okBack.go] at h
    split at h
    · cases j with
      | zero => simp [fx, nth_nil, nth_zero, nth_succ] at hj
      | succ j => simpa using okBack_go (n := n) h j (by simpa [fx, nth_nil, nth_zero, nth_succ] using hj)
    · simp at h
theorem okBack_lts {n : Nat} : ∀ {l : List (Option Nat)}, okBack.lts n l = true → ∀ (j i : Nat), l[j]? = some (some i) → i < n
  | [], _, j, i, h => by simp at h
  | none :: l, h, j, i, hj => by
    cases j with
    | zero => simp at hj
    | succ j => exact okBack_lts (l := l) (by simpa [okBack.lts] using h) j i (by simpa using hj)
  | some x :: l, h, j, i, hj => by
    simp only [okBack.lts, Bool.and_eq_true] at h
    cases j with
    | zero => simp at hj; subst hj; exact Nat.blt_eq.mp h.1
    | succ j => exact okBack_lts h.2 j i (by simpa using hj)

/-- the relation of the part. -/
def partG (γ : Gm) (ρl : List (Option Nat)) : Gm := fun j => match rho ρl j with | some i => γ i | none => none

theorem frame_core {fs : List Bool} {ρl : List (Option Nat)} {H B : Nat} {γ γ2 : Gm} {M Lm Lm' : Mem} {w w' : World} {o : Obs} (hm : MemOk H γ M w) (hρl : ρl.length = Lm.length) (hd : distO ρl = true) (hM : mM (rho ρl) M 0 Lm = some o) (ho : ∀ q ∈ o, q)
    (hb : okBack fs ρl M.length = true) (hfl : fs.length ≤ Lm'.length) (hB : Lm.length ≤ B) (hm2 : MemOk B γ2 Lm' w') (hs : SR B fs (partG γ ρl) Lm w γ2 Lm' w') (hH : (merged fs ρl M Lm').length ≤ H) :
    ∃ γ', (∀ j g, γ2 j = some g → γ' (newId fs ρl M.length j) = some g) ∧ MemOk H γ' (merged fs ρl M Lm') w' ∧ SF γ M w γ' (merged fs ρl M Lm') w' := by
  unfold okBack at hb
  simp only [Bool.and_eq_true] at hb
  have hfix : ∀ j, fx fs j = true → ∃ i, rho ρl j = some i := fun j hj => by
    obtain ⟨i, hi⟩ := okBack_go (n := M.length) hb.1 j hj
    exact ⟨i, rho_some.2 hi⟩
  have hlt : ∀ j i, rho ρl j = some i → i < M.length := fun j i hj => okBack_lts hb.2 j i (rho_some.1 hj)
  rw [merged_len] at hH
  have hmlen : (merged fs ρl M Lm').length = M.length + Lm'.length := merged_len
  have dom2 : ∀ j g, γ2 j = some g → j < Lm'.length := fun j g hg => by
    rcases (hm2.dom j g hg).1 with h | h
    · exact h
    · rw [hs.back j (.inr h)] at hg
      unfold partG at hg
      cases hr : rho ρl j with
      | none => rw [hr] at hg; cases hg
      | some i =>
        have := (List.getElem?_eq_some_iff.1 (rho_some.1 hr)).1
        omega
  let γ' : Gm := fun id => if id < M.length then γ id else if id < M.length + Lm'.length ∧ fx fs (id - M.length) = false then γ2 (id - M.length) else γ id
  have A2 : ∀ id, id < M.length → γ' id = γ id := fun id h => if_pos h
  have A3 : ∀ id, M.length + Lm'.length ≤ id → γ' id = γ id := fun id h => by
    show (if id < M.length then γ id else if id < M.length + Lm'.length ∧ fx fs (id - M.length) = false then γ2 (id - M.length) else γ id) = γ id
    rw [if_neg (by omega), if_neg (by omega)]
  have A1 : ∀ j, j < Lm'.length → γ' (newId fs ρl M.length j) = γ2 j := fun j hj => by
    cases hf : fx fs j with
    | true =>
      obtain ⟨i, hi⟩ := hfix j hf
      unfold newId; rw [hf, hi]
      simp only
      rw [A2 i (hlt j i hi), hs.back j (.inl hf)]
      unfold partG; rw [hi]
    | false =>
      unfold newId; rw [hf]
      show (if M.length + j < M.length then _ else if M.length + j < M.length + Lm'.length ∧ fx fs (M.length + j - M.length) = false then γ2 (M.length + j - M.length) else _) = γ2 j
      rw [if_neg (by omega), Nat.add_sub_cancel_left, if_pos ⟨by omega, hf⟩]
  have A0 : ∀ j g, γ2 j = some g → γ' (newId fs ρl M.length j) = some g := fun j g hg => by rw [A1 j (dom2 j g hg)]; exact hg
  have A4 : γ.le γ' := fun id g hg => by
    rcases (hm.dom id g hg).1 with h | h
    · rw [A2 id h]; exact hg
    · rw [A3 id (by omega)]; exact hg
  have hrwl : ∀ {e : Ent}, e.rw = true → e.live = true := fun {e} h => by cases e <;> simp_all [Ent.rw, Ent.live]
  -- a live entry of the part, ahead of the run
  have real : ∀ j e g, Lm[j]? = some e → e.live = true → partG γ ρl j = some g → ∃ i e', rho ρl j = some i ∧ M[i]? = some e' ∧ e'.live = true ∧ e'.rw = e.rw ∧ γ i = some g := by
    intro j e g he hl hg
    have := mM_get hM ho j e he hl
    rw [Nat.zero_add] at this
    rcases this with ⟨i, e', o', h1, h2, h3, h4⟩ | ⟨h1, _⟩
    · obtain ⟨_, h5, h6, _⟩ := mE_spec (γ' := partG γ ρl) (fun j i hj => by unfold partG; rw [hj]) (w := w) h1 h3 h4 (hm.ent i e' h2)
      exact ⟨i, e', h1, h2, h6, h5, by unfold partG at hg; rw [h1] at hg; exact hg⟩
    · unfold partG at hg; rw [h1] at hg; cases hg
  have footM : ∀ b, Foot (partG γ ρl) Lm b → Foot γ M b := by
    rintro b ⟨j, e, g, h1, h2, h3, h4⟩
    obtain ⟨i, e', _, k2, _, k4, k5⟩ := real j e g h1 (hrwl h2) h3
    exact ⟨i, e', g, k2, by rw [k4]; exact h2, k5, h4⟩
  have liveM : ∀ b, Lv (partG γ ρl) Lm b → Lv γ M b := by
    rintro b ⟨j, e, g, h1, h2, h3, h4⟩
    obtain ⟨i, e', _, k2, k3, _, k5⟩ := real j e g h1 h2 h3
    exact ⟨i, e', g, k2, k3, k5, h4⟩
  -- an entry that the part does not hold
  have out1 : ∀ id e g, M[id]? = some e → (∀ j, rho ρl j ≠ some id) → e.live = true → γ id = some g → ¬ Foot (partG γ ρl) Lm g.b := by
    rintro id e g h1 hn hl hg ⟨j, e1, g1, k1, k2, k3, k4⟩
    obtain ⟨i, e', l1, l2, _, l4, l5⟩ := real j e1 g1 k1 (hrwl k2) k3
    exact hm.sep i id e' e g1 g (fun he => hn j (by rw [l1, he])) l2 h1 (by rw [l4]; exact k2) hl l5 hg k4
  have out2 : ∀ id e g, M[id]? = some e → (∀ j, rho ρl j ≠ some id) → e.rw = true → γ id = some g → ¬ Lv (partG γ ρl) Lm g.b := by
    rintro id e g h1 hn hl hg ⟨j, e1, g1, k1, k2, k3, k4⟩
    obtain ⟨i, e', l1, l2, l3, _, l5⟩ := real j e1 g1 k1 k2 k3
    exact hm.sep id i e e' g g1 (fun he => hn j (by rw [l1, he])) h1 l2 hl l3 hg l5 k4.symm
  refine ⟨γ', A0, ⟨fun id e he => ?_, fun id g hg => ?_, fun i j ei ej gi gj hij hi hj h1 h2 hgi hgj => ?_⟩, ⟨A4, hs.os, hs.tape, hs.output, hs.size, fun k hk hf => hs.keep k hk fun h => hf (footM k h), fun b hb => ?_, fun b hb => ?_, by omega, fun id hid => ?_⟩⟩
  · cases hl : e.live with
    | false => cases e <;> simp [Ent.live] at hl; trivial
    | true =>
      rcases merged_get hd he hl with ⟨j, e0, h1, rfl, rfl⟩ | ⟨h1, h2, h3⟩
      · have hj := (List.getElem?_eq_some_iff.1 h1).1
        exact renE_spec A0 (A1 j hj) (hm2.ent j e0 h1)
      · refine ((hm.ent id e h2).mono A4 (A2 id h1)).of_heap fun g hg => ?_
        rw [A2 id h1] at hg
        exact hs.keep g.b (hm.dom id g hg).2 (out1 id e g h2 h3 hl hg)
  · rcases Nat.lt_or_ge id M.length with h | h
    · rw [A2 id h] at hg
      exact ⟨.inl (by omega), Nat.lt_of_lt_of_le (hm.dom id g hg).2 hs.size⟩
    · rcases Nat.lt_or_ge id (M.length + Lm'.length) with h' | h'
      · refine ⟨.inl (by omega), ?_⟩
        have hg : (if id < M.length then γ id else if id < M.length + Lm'.length ∧ fx fs (id - M.length) = false then γ2 (id - M.length) else γ id) = some g := hg
        rw [if_neg (by omega)] at hg
        split at hg
        · exact (hm2.dom _ g hg).2
        · exact Nat.lt_of_lt_of_le (hm.dom id g hg).2 hs.size
      · rw [A3 id h'] at hg
        have := hm.dom id g hg
        exact ⟨.inr (by omega), Nat.lt_of_lt_of_le this.2 hs.size⟩
  · rcases merged_get hd hi (hrwl h1) with ⟨a, e1, k1, rfl, rfl⟩ | ⟨k1, k2, k3⟩
    · have ha := (List.getElem?_eq_some_iff.1 k1).1
      rw [A1 a ha] at hgi
      rw [renE_rw] at h1
      rcases merged_get hd hj h2 with ⟨b, e2, l1, rfl, rfl⟩ | ⟨l1, l2, l3⟩
      · have hb := (List.getElem?_eq_some_iff.1 l1).1
        rw [A1 b hb] at hgj
        rw [renE_live] at h2
        exact hm2.sep a b e1 e2 gi gj (fun e => hij (by rw [e])) k1 l1 h1 h2 hgi hgj
      · rw [A2 j l1] at hgj
        rcases hs.foot gi.b ⟨a, e1, gi, k1, h1, hgi, rfl⟩ with hft | hge
        · intro e; rw [e] at hft; exact out1 j ej gj l2 l3 h2 hgj hft
        · have := (hm.dom j gj hgj).2; omega
    · rw [A2 i k1] at hgi
      rcases merged_get hd hj h2 with ⟨b, e2, l1, rfl, rfl⟩ | ⟨l1, l2, l3⟩
      · have hb := (List.getElem?_eq_some_iff.1 l1).1
        rw [A1 b hb] at hgj
        rw [renE_live] at h2
        rcases hs.live gj.b ⟨b, e2, gj, l1, h2, hgj, rfl⟩ with hft | hge
        · intro e; rw [← e] at hft; exact out2 i ei gi k2 k3 h1 hgi hft
        · have := (hm.dom i gi hgi).2; omega
      · rw [A2 j l1] at hgj
        exact hm.sep i j ei ej gi gj hij k2 l2 h1 h2 hgi hgj
  · obtain ⟨id, e, g, k1, k2, k3, rfl⟩ := hb
    rcases merged_get hd k1 (hrwl k2) with ⟨a, e1, l1, rfl, rfl⟩ | ⟨l1, l2, l3⟩
    · rw [A1 a (List.getElem?_eq_some_iff.1 l1).1] at k3
      rw [renE_rw] at k2
      exact (hs.foot g.b ⟨a, e1, g, l1, k2, k3, rfl⟩).imp (footM _) (fun h => h)
    · rw [A2 id l1] at k3
      exact .inl ⟨id, e, g, l2, k2, k3, rfl⟩
  · obtain ⟨id, e, g, k1, k2, k3, rfl⟩ := hb
    rcases merged_get hd k1 k2 with ⟨a, e1, l1, rfl, rfl⟩ | ⟨l1, l2, l3⟩
    · rw [A1 a (List.getElem?_eq_some_iff.1 l1).1] at k3
      rw [renE_live] at k2
      exact (hs.live g.b ⟨a, e1, g, l1, k2, k3, rfl⟩).imp (liveM _) (fun h => h)
    · rw [A2 id l1] at k3
      exact .inl ⟨id, e, g, l2, k2, k3, rfl⟩
  · rcases hid with h | h
    · exact A2 id h
    · exact A3 id (by omega)

theorem partG_mem {ρl : List (Option Nat)} {H B : Nat} {γ : Gm} {M Lm : Mem} {w : World} {o : Obs} (hm : MemOk H γ M w) (hρl : ρl.length = Lm.length) (hd : distO ρl = true) (hM : mM (rho ρl) M 0 Lm = some o) (ho : ∀ q ∈ o, q) : MemOk B (partG γ ρl) Lm w := by
  refine (match_mem (γ' := partG γ ρl) (H' := B) hm hd hM ho (fun j i hj => by unfold partG; rw [hj]) (fun j _ hn => by unfold partG; rw [hn]) (fun j g hg => ?_)).1
  unfold partG at hg
  cases hr : rho ρl j with
  | none => rw [hr] at hg; cases hg
  | some i =>
    rw [hr] at hg
    have := (List.getElem?_eq_some_iff.1 (rho_some.1 hr)).1
    exact ⟨.inl (by omega), i, hg⟩

/-- the part of memory that a contract speaks of. -/
def partOf (fs : List Bool) (v V : List AV) (M L : Mem) : Option (List (Option Nat)) :=
  let ρl := rhoL (bindAll M L 500 0 (bindL v V [])) 0 (len' L)
  bif distO ρl && okBack fs ρl (len' M) then some ρl else none

theorem partOf_some {fs : List Bool} {v V : List AV} {M L : Mem} {ρl : List (Option Nat)} (h : partOf fs v V M L = some ρl) : distO ρl = true ∧ okBack fs ρl M.length = true ∧ ρl.length = L.length := by
  unfold partOf at h
  simp only at h
  obtain ⟨hb, h⟩ := bif_some h
  simp only [Option.some.injEq] at h
  rw [h] at hb
  simp only [Bool.and_eq_true] at hb
  exact ⟨hb.1, by rw [← len_eq]; exact hb.2, by rw [← h, rhoL_len, len_eq]⟩

theorem frame_call {fs : List Bool} {f : FuncId} {args A : List AV} {M Lm Lm' : Mem} {V : AV} {ρl : List (Option Nat)} {o1 o2 : Obs} (hp : partOf fs args A M Lm = some ρl) (h1 : mL (rho ρl) args A = some o1) (ho1 : ∀ q ∈ o1, q) (h2 : mM (rho ρl) M 0 Lm = some o2) (ho2 : ∀ q ∈ o2, q)
    (h : CallR P fs f A Lm V Lm') : CallsA P f args M (renV (newId fs ρl M.length) V) (merged fs ρl M Lm') := by
  obtain ⟨hd, hb, hρl⟩ := partOf_some hp
  obtain ⟨hfl, B, h⟩ := h
  refine ⟨by rw [merged_len]; omega, fun H γ w Vs hH hm hV => ?_⟩
  have hmc := partG_mem (B := max B Lm.length) hm hρl hd h2 ho2
  refine Calls.mono (h (max B Lm.length) (partG γ ρl) w Vs (by omega) hmc (mL_spec (fun j i hj => by unfold partG; rw [hj]) h1 ho1 hV)) ?_
  rintro e w' ⟨U, γ2, rfl, hU, hm2, hs⟩
  obtain ⟨γ', k1, k2, k3⟩ := frame_core hm hρl hd h2 ho2 hb hfl (by omega) hm2 hs hH
  exact ⟨U, γ', rfl, renV_spec k1 hU, k2, k3⟩

def renR (ρ : Nat → Nat) : Regs → Regs
  | [] => []
  | (t, v) :: R => (t, renV ρ v) :: renR ρ R
theorem renR_get {ρ : Nat → Nat} : ∀ {R : Regs} {t : Nat} {v : AV}, get (renR ρ R) t = some v → ∃ u, get R t = some u ∧ v = renV ρ u
  | [], t, v, h => by simp [renR, get_nil] at h
  | (k, u) :: R, t, v, h => by
    simp only [renR, get_cons] at h ⊢
    cases hk : Nat.beq k t with
    | true => rw [hk] at h; simp at h; exact ⟨u, rfl, h.symm⟩
    | false => rw [hk] at h; simpa using renR_get h

theorem frame_loop {fs : List Bool} {N : Nat} {c : Code} {r R R' : Regs} {M Lm Lm' : Mem} {e : Ex} {ρl : List (Option Nat)} {o1 o2 : Obs} (hp : partOf fs (picked r R) (valsR R) M Lm = some ρl) (h1 : mR (rho ρl) r R = some o1) (ho1 : ∀ q ∈ o1, q) (h2 : mM (rho ρl) M 0 Lm = some o2) (ho2 : ∀ q ∈ o2, q)
    (h : LoopR P fs N c R Lm e R' Lm') : CodeA P N (.loop c) r M e (renR (newId fs ρl M.length) R') (merged fs ρl M Lm') := by
  obtain ⟨hd, hb, hρl⟩ := partOf_some hp
  obtain ⟨hfl, B, h⟩ := h
  refine ⟨by rw [merged_len]; omega, fun H γ a w Q hH hr hm hq => ?_⟩
  have hmc := partG_mem (B := max B Lm.length) hm hρl hd h2 ho2
  refine h (max B Lm.length) (partG γ ρl) a w Q (by omega) (mR_spec (fun j i hj => by unfold partG; rw [hj]) h1 ho1 hr) hmc fun γ2 a' w' hr2 hm2 hs => ?_
  obtain ⟨γ', k1, k2, k3⟩ := frame_core hm hρl hd h2 ho2 hb hfl (by omega) hm2 hs hH
  refine hq γ' a' w' ⟨hr2.defers, hr2.size, fun t v hv => ?_⟩ k2 k3
  obtain ⟨u, h3, rfl⟩ := renR_get hv
  obtain ⟨V, h4, h5⟩ := hr2.get t u h3
  exact ⟨V, h4, renV_spec k1 h5⟩

/-! ### Contracts as they are used -/
/-- the ways in which a call may end: a condition, the result, memory. -/
abbrev Alts := List (Prop × AV × Mem)
abbrev LAlts := List (Prop × Ex × Regs × Mem)

def altsK (k : AV → Mem → Prop) : Alts → Prop
  | [] => True
  | (c, v, m) :: l => (c → k v m) ∧ altsK k l
def laltsK (k : Ex → Regs → Mem → Prop) : LAlts → Prop
  | [] => True
  | (c, e, r, m) :: l => (c → k e r m) ∧ laltsK k l

theorem altsK_get {k : AV → Mem → Prop} : ∀ {l : Alts}, altsK k l → ∀ {c v m}, (c, v, m) ∈ l → c → k v m
  | [], _, _, _, _, h => by simp at h
  | (c', v', m') :: l, hk, c, v, m, h => by
    intro hc
    rcases List.mem_cons.1 h with e | h
    · cases e; exact hk.1 hc
    · exact altsK_get hk.2 h hc
theorem laltsK_get {k : Ex → Regs → Mem → Prop} : ∀ {l : LAlts}, laltsK k l → ∀ {c e r m}, (c, e, r, m) ∈ l → c → k e r m
  | [], _, _, _, _, _, h => by simp at h
  | (c', e', r', m') :: l, hk, c, e, r, m, h => by
    intro hc
    rcases List.mem_cons.1 h with e | h
    · cases e; exact hk.1 hc
    · exact laltsK_get hk.2 h hc

/-- the contract of a function: one of these ends. -/
def CallX (P : Program) (fs : List Bool) (f : FuncId) (args : List AV) (m : Mem) (l : Alts) : Prop := ∃ c v m', (c, v, m') ∈ l ∧ c ∧ CallR P fs f args m v m'
def LoopX (P : Program) (fs : List Bool) (N : Nat) (c : Code) (r : Regs) (m : Mem) (l : LAlts) : Prop := ∃ q e r' m', (q, e, r', m') ∈ l ∧ q ∧ LoopR P fs N c r m e r' m'

/-- a call by contract. -/
def useCall (fs : List Bool) (A : List AV) (L : Mem) (pre : Prop) (alts : Alts) (args : List AV) (M : Mem) (k : KV) : Option Prop :=
  match partOf fs args A M L with
  | some ρl => (match also (mL (rho ρl) args A) (mM (rho ρl) M 0 L) with
    | some o => some (allF o (pre ∧ altsK (fun v m => k (renV (newId fs ρl (len' M)) v) (merged fs ρl M m)) alts))
    | none => none)
  | none => none

theorem useCall_ok {fs : List Bool} {f : FuncId} {A args : List AV} {L M : Mem} {pre : Prop} {alts : Alts} {k : KV} {Q : Prop} (he : enters P f = true) (hc : pre → CallX P fs f A L alts) (h : useCall fs A L pre alts args M k = some Q) (hQ : Q) :
    ∃ v m', CallA P f args M v m' ∧ k v m' := by
  unfold useCall at h
  split at h
  · rename_i ρl hp
    split at h
    · rename_i o ho
      simp only [Option.some.injEq] at h
      subst h
      obtain ⟨hf, hpre, hk⟩ := allF_spec hQ
      obtain ⟨o1, o2, h1, h2, rfl⟩ := also_spec ho
      obtain ⟨c, v, m', hmem, hcc, hr⟩ := hc hpre
      have := altsK_get hk hmem hcc
      rw [len_eq] at this
      exact ⟨_, _, .inl ⟨he, frame_call hp h1 (fun q hq => hf q (by simp [hq])) h2 (fun q hq => hf q (by simp [hq])) hr⟩, this⟩
    · simp at h
  · simp at h

/-- a loop by contract. -/
def useLoop (fs : List Bool) (R : Regs) (L : Mem) (pre : Prop) (alts : LAlts) (r : Regs) (M : Mem) (k : KC) : Option Prop :=
  match partOf fs (picked r R) (valsR R) M L with
  | some ρl => (match also (mR (rho ρl) r R) (mM (rho ρl) M 0 L) with
    | some o => some (allF o (pre ∧ laltsK (fun e r' m => k e (renR (newId fs ρl (len' M)) r') (merged fs ρl M m)) alts))
    | none => none)
  | none => none

theorem useLoop_ok {fs : List Bool} {N : Nat} {c : Code} {R r : Regs} {L M : Mem} {pre : Prop} {alts : LAlts} {k : KC} {Q : Prop} (hc : pre → LoopX P fs N c R L alts) (h : useLoop fs R L pre alts r M k = some Q) (hQ : Q) :
    ∃ e r' m', CodeA P N (.loop c) r M e r' m' ∧ k e r' m' := by
  unfold useLoop at h
  split at h
  · rename_i ρl hp
    split at h
    · rename_i o ho
      simp only [Option.some.injEq] at h
      subst h
      obtain ⟨hf, hpre, hk⟩ := allF_spec hQ
      obtain ⟨o1, o2, h1, h2, rfl⟩ := also_spec ho
      obtain ⟨q, e, r', m', hmem, hcc, hr⟩ := hc hpre
      have := laltsK_get hk hmem hcc
      rw [len_eq] at this
      exact ⟨_, _, _, frame_loop hp h1 (fun q hq => hf q (by simp [hq])) h2 (fun q hq => hf q (by simp [hq])) hr, this⟩
    · simp at h
  · simp at h
end
end Go.XM

