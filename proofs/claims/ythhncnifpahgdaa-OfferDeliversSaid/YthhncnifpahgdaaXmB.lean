/-
  Each operation of a symbolic run does what the model does. For whatever program; the conditions stand in each statement.
-/
import Derived.Test.YthhncnifpahgdaaXmA
import Derived.LaidEql
import Derived.Lib.UnsafeStr
import Derived.Lib.Builder
namespace Go.XM
open Go
section
variable {P : Program} {H : Nat} {γ : Gm} {m : Mem} {w : World}

theorem need_spec {sym : Bool} {p : Prop} [Decidable p] {o : Obs} (h : need sym p = some o) (ho : ∀ q ∈ o, q) : p := by
  unfold need at h
  split at h
  · simp at h; subst h; exact ho (.fact p) (by simp)
  · split at h
    · rename_i hd; exact of_decide_eq_true hd
    · simp at h

theorem dec_spec {sym b : Bool} {st st' : List Ch} {v : AV} {o : Obs} (h : dec sym b st = some (v, st', o)) (ho : ∀ q ∈ o, q) : VR γ v (.bool b) := by
  unfold dec at h
  split at h
  · simp at h; obtain ⟨rfl, _, _⟩ := h; rfl
  · split at h <;> simp at h
    · obtain ⟨rfl, _, rfl⟩ := h; have : b = true := ho (.fact (b = true)) (by simp); subst this; rfl
    · obtain ⟨rfl, _, rfl⟩ := h; have : b = false := ho (.fact (b = false)) (by simp); subst this; rfl
    · obtain ⟨rfl, _, _⟩ := h; rfl

theorem isAgg_run {t : TypeId} {b : Bool} (h : isAggT P t = some b) (w : World) : (isAgg t).run P w = .ok b w := by
  unfold isAggT at h
  cases hu : P.underlying t with
  | none => rw [hu] at h; simp at h
  | some d =>
    rw [hu] at h
    unfold isAgg
    rw [Sem.run_bind, run_underlying hu w]
    cases d <;> simp at h <;> subst h <;> rfl

theorem sizeT_spec {t : TypeId} {n : Nat} (h : sizeT P t = some n) : ∃ i, P.info? t = some i ∧ i.size = n := by
  unfold sizeT at h
  cases hi : P.info? t with
  | none => rw [hi] at h; simp at h
  | some i => rw [hi] at h; simp at h; exact ⟨i, rfl, h⟩

theorem sizeOf_run {t : TypeId} {n : Nat} (h : sizeT P t = some n) (w : World) : (sizeOf t).run P w = .ok n w := by
  obtain ⟨i, hi, rfl⟩ := sizeT_spec h
  simp [sizeOf, typeInfo, hi]

theorem zero_run {t : TypeId} {z : AV} (h : zeroT P t = some z) (w : World) : ∃ V, (zeroValue t).run P w = .ok V w ∧ ∀ γ : Gm, VR γ z V := by
  unfold zeroT at h
  cases hi : P.info? t with
  | none => rw [hi] at h; simp at h
  | some i =>
    rw [hi] at h
    cases hz : i.zero with
    | none => simp [hz] at h
    | some V =>
      simp [hz] at h
      exact ⟨V, by simp [zeroValue, typeInfo, hi, hz], fun γ => ofV_spec γ h⟩

theorem addr_add (b o j : Nat) : (⟨b, o, none⟩ : Addr).add j = ⟨b, o + j, none⟩ := by unfold Addr.add; split <;> simp_all

/-- A part of a block, read as a value of type t. -/
theorem load_part {t : TypeId} {cs : List AV} {off : Nat} {v : AV} {b o : Nat} {A C V : List Value} {T : TypeId} {fr : Nat × Nat} (h : partT P t cs off = some v) (hl : LR γ cs V)
    (hw : w.heap[b]? = some (.cells (A ++ V ++ C).toArray T fr)) (ho : o = A.length + off) :
    ∃ x, (loadVar t ⟨b, o, none⟩).run P w = .ok x w ∧ VR γ v x := by
  unfold partT at h
  cases ha : isAggT P t with
  | none => simp [ha] at h
  | some ag =>
    cases hs : sizeT P t with
    | none => rw [ha, hs] at h; cases ag <;> simp at h
    | some n =>
      rw [ha, hs] at h
      cases ag with
      | true =>
        simp only at h
        cases hc : cut cs off n with
        | none => rw [hc] at h; simp at h
        | some l =>
          rw [hc] at h; simp at h; subst h
          obtain ⟨X, Y, e, e1, e2⟩ := cut_spec _ _ _ _ hc
          rw [e] at hl
          obtain ⟨X', M', Y', e', hX, hM, hY⟩ := LR.mid hl
          have hload : (loadCells ⟨b, o, none⟩ M'.length).run P w = .ok M'.toArray w := run_loadCells_list w _ M' (fun j u hu => by
            rw [addr_add, cell_of_row w b _ _ T fr hw]
            have hj : j < M'.length := (List.getElem?_eq_some_iff.1 hu).1
            have hXl := hX.length
            simp only [List.getElem?_toArray]
            rw [e', ho, List.append_assoc, List.getElem?_append_right (by omega), List.append_assoc, List.append_assoc, List.getElem?_append_right (by omega), List.getElem?_append_left (by omega)]
            rw [show A.length + off + j - A.length - X'.length = j by omega]
            exact hu)
          have hMl := hM.length
          refine ⟨.agg M'.toArray, ?_, ⟨M', rfl, hM⟩⟩
          simp only [loadVar, Sem.run_bind, isAgg_run ha w, Result.andThen_ok, if_true, sizeOf_run hs w]
          rw [show n = M'.length by omega]
          simp [hload]
      | false =>
        simp only at h
        rw [nth_eq] at h
        obtain ⟨x, hx, hr⟩ := LR.get hl h
        refine ⟨x, ?_, hr⟩
        have hlt : off < V.length := (List.getElem?_eq_some_iff.1 hx).1
        have hcell : w.cell? ⟨b, o, none⟩ = some x := by
          rw [cell_of_row w b _ _ T fr hw]
          simp only [List.getElem?_toArray]
          rw [ho, List.append_assoc, List.getElem?_append_right (by omega), List.getElem?_append_left (by omega)]
          rw [show A.length + off - A.length = off by omega]; exact hx
        simp [loadVar, isAgg_run ha w, load, Sem.run, hcell]

/-- An element of a row, in the middle of its cells. -/
theorem elem_mid {α : Type} {sz : Nat} : ∀ {xs : List (List α)} {i : Nat} {e : List α}, xs[i]? = some e → (∀ x ∈ xs, x.length = sz) →
    ∃ A B, xs.flatten = A ++ e ++ B ∧ A.length = i * sz ∧ ∀ e', (xs.set i e').flatten = A ++ e' ++ B
  | [], _, _, h, _ => by simp at h
  | x :: xs, 0, e, h, _ => by
    simp at h; subst h
    exact ⟨[], xs.flatten, by simp, by simp, fun e' => by simp⟩
  | x :: xs, i + 1, e, h, hs => by
    have h' : xs[i]? = some e := by simpa using h
    obtain ⟨A, B, h1, h2, h3⟩ := elem_mid h' (fun y hy => hs y (List.mem_cons_of_mem _ hy))
    refine ⟨x ++ A, B, by simp [h1], ?_, fun e' => by simp [h3]⟩
    rw [List.length_append, h2, hs x (by simp), Nat.add_mul]; omega

theorem nthA_eq : ∀ (l : List AV) (n : Nat), nthA l n = l.getD n .nilp
  | [], _ => by simp [nthA]
  | _ :: _, 0 => by simp [nthA]
  | _ :: l, n + 1 => by simp [nthA, nthA_eq l n]
theorem nthE_eq : ∀ (l : List (List AV)) (n : Nat), nthE l n = l.getD n []
  | [], _ => by simp [nthE]
  | _ :: _, 0 => by simp [nthE]
  | _ :: l, n + 1 => by simp [nthE, nthE_eq l n]

theorem kcells_len (c : List AV) : ∀ (ks : List CK) (j : Nat), (kcells c j ks).length = ks.length
  | [], _ => rfl
  | _ :: ks, j => by simp [kcells, kcells_len c ks (j + 1)]

theorem kcells_get (c : List AV) : ∀ (ks : List CK) (j i : Nat) (k : CK), ks[i]? = some k → (kcells c j ks)[i]? = some (ckAv (nthA c (j + i)) k)
  | [], _, _, _, h => by simp at h
  | _ :: ks, j, 0, k, h => by simp at h; subst h; rfl
  | _ :: ks, j, i + 1, k, h => by
    have := kcells_get c ks (j + 1) i k (by simpa using h)
    simp only [kcells, List.getElem?_cons_succ]
    rw [this, show j + 1 + i = j + (i + 1) by omega]

theorem ckAv_idem (a : AV) (k : CK) : ckAv (ckAv a k) k = ckAv a k := by cases k <;> rfl

/-- cells that are marked stay so. -/
theorem kcells_idem (c : List AV) (ks : List CK) : kcells (kcells c 0 ks) 0 ks = kcells c 0 ks := by
  apply List.ext_getElem?
  intro i
  cases hk : ks[i]? with
  | none =>
    have := List.getElem?_eq_none_iff.1 hk
    rw [List.getElem?_eq_none (by rw [kcells_len]; exact this), List.getElem?_eq_none (by rw [kcells_len]; exact this)]
  | some k =>
    rw [kcells_get _ _ _ _ _ hk, kcells_get _ _ _ _ _ hk]
    have := kcells_get c ks 0 i k hk
    simp only [Nat.zero_add] at this ⊢
    rw [nthA_eq (kcells c 0 ks), List.getD_eq_getElem?_getD, this, Option.getD_some, ckAv_idem]

theorem fitsK_cells {γ : Gm} : ∀ {ks : List CK} {l : List AV} {c : List AV} {j : Nat} {V : List Value}, fitsK ks l = true → (∀ i a, l[i]? = some a → c[j + i]? = some a) → LR γ l V → LR γ (kcells c j ks) V
  | [], [], _, _, _, _, _, h => h
  | [], _ :: _, _, _, _, hf, _, _ => by simp [fitsK] at hf
  | k :: ks, [], _, _, _, hf, _, _ => by simp [fitsK] at hf
  | k :: ks, a :: l, c, j, V, hf, hc, ⟨v, t, e, h1, h2⟩ => by
    have h0 := hc 0 a rfl
    simp only [Nat.add_zero] at h0
    have hr : ∀ i a, l[i]? = some a → c[j + 1 + i]? = some a := fun i a h => by
      have := hc (i + 1) a (by simpa using h)
      rwa [show j + 1 + i = j + (i + 1) by omega]
    have hd : nthA c j = a := by rw [nthA_eq, List.getD_eq_getElem?_getD, h0]; rfl
    cases k with
    | i k =>
      cases a <;> simp [fitsK] at hf
      obtain ⟨hk, hf⟩ := hf
      simp [ikEq] at hk; subst hk
      exact ⟨v, t, e, by rw [hd]; exact h1, fitsK_cells hf hr h2⟩
    | b =>
      cases a <;> simp [fitsK] at hf
      exact ⟨v, t, e, by rw [hd]; exact h1, fitsK_cells hf hr h2⟩
    | s =>
      cases a <;> simp [fitsK] at hf
      exact ⟨v, t, e, by rw [hd]; exact h1, fitsK_cells hf hr h2⟩

/-- cells of these kinds, marked. -/
theorem fitsK_spec {ks : List CK} {l : List AV} {V : List Value} (hf : fitsK ks l = true) (h : LR γ l V) : LR γ (kcells l 0 ks) V :=
  fitsK_cells hf (fun i a h => by rw [Nat.zero_add]; exact h) h

theorem fitsK_len : ∀ {ks : List CK} {l : List AV}, fitsK ks l = true → l.length = ks.length
  | [], [], _ => rfl
  | [], _ :: _, h => by simp [fitsK] at h
  | .i _ :: ks, a :: l, h => by
    cases a <;> simp [fitsK] at h
    simp [fitsK_len h.2]
  | .b :: ks, a :: l, h => by
    cases a <;> simp [fitsK] at h
    simp [fitsK_len h]
  | .s :: ks, a :: l, h => by
    cases a <;> simp [fitsK] at h
    simp [fitsK_len h]
  | .i _ :: ks, [], h => by simp [fitsK] at h
  | .b :: ks, [], h => by simp [fitsK] at h
  | .s :: ks, [], h => by simp [fitsK] at h

/-- a shape's elements. -/
def Shaped (sh : Option (List CK)) (sz : Nat) (xs : List (List AV)) : Prop := ∀ ks, sh = some ks → ks.length = sz ∧ ∀ x ∈ xs, x = kcells x 0 ks

theorem elemAt_spec {sh : Option (List CK)} {sz : Nat} {xs : List (List AV)} {i : Nat} {e : List AV} {o : Obs} (h : elemAt sh xs i = some (e, o)) (hs : Shaped sh sz xs) (ho : ∀ q ∈ o, q) : xs[i]? = some e := by
  unfold elemAt at h
  split at h
  · rw [nth_eq] at h
    cases hx : xs[i]? with
    | none => rw [hx] at h; simp at h
    | some y => rw [hx] at h; simp at h; rw [h.1]
  · rename_i ks
    simp at h
    obtain ⟨rfl, rfl⟩ := h
    have hi : i < xs.length := ho (.fact _) (List.mem_singleton.2 rfl)
    rw [nthE_eq, List.getD_eq_getElem?_getD, List.getElem?_eq_getElem hi, Option.getD_some]
    have := (hs ks rfl).2 xs[i] (List.getElem_mem hi)
    rw [← this]

theorem putAt_spec {sh : Option (List CK)} {sz : Nat} {xs ys : List (List AV)} {i : Nat} {l : List AV} {V : List Value} (h : putAt sh xs i l = some ys) (hs : Shaped sh sz xs) (hl : LR γ l V) :
    ∃ l', ys = xs.set i l' ∧ l'.length = l.length ∧ LR γ l' V ∧ Shaped sh sz ys := by
  unfold putAt at h
  split at h
  · simp at h; subst h; exact ⟨l, rfl, rfl, hl, fun ks e => by cases e⟩
  · rename_i ks
    cases hf : fitsK ks l with
    | false => rw [hf] at h; simp at h
    | true =>
      rw [hf] at h; simp at h; subst h
      refine ⟨_, rfl, by rw [kcells_len, fitsK_len hf], fitsK_spec hf hl, fun ks' e => ?_⟩
      cases e
      refine ⟨(hs ks rfl).1, fun x hx => ?_⟩
      rcases List.mem_or_eq_of_mem_set hx with h | rfl
      · exact (hs ks rfl).2 x h
      · exact (kcells_idem l ks).symm

theorem xload_spec {t : TypeId} {a v : AV} {st st' : List Ch} {o : Obs} {A : Value} (h : xload P t a m st = some (v, st', o)) (ho : ∀ q ∈ o, q) (ha : VR γ a A) (hm : MemOk H γ m w) :
    ∃ x, (Instr.loadAt t A).run P w = .ok x w ∧ VR γ v x := by
  unfold xload at h
  cases a with
  | ptr id off =>
    simp only at h
    obtain ⟨g, hg, rfl⟩ := ha
    rw [nth_eq] at h
    cases hid : m[id]? with
    | none => rw [hid] at h; simp at h
    | some e =>
      rw [hid] at h
      cases e with
      | dead => simp at h
      | row => simp at h
      | cells T cs =>
        simp only at h
        cases hp : partT P t cs off with
        | none => rw [hp] at h; simp at h
        | some y =>
          rw [hp] at h; simp at h; obtain ⟨rfl, _, _⟩ := h
          obtain ⟨g', vs, hg', h0, hl, hw⟩ := hm.ent id _ hid
          rw [hg] at hg'; cases hg'
          obtain ⟨x, hx, hr⟩ := load_part (w := w) (A := []) (C := []) (b := g.b) (o := g.off + off) hp hl (by simpa using hw) (by simp [h0])
          exact ⟨x, by simp [Instr.loadAt, Instr.sureAddr, hx], hr⟩
  | eptr id i j =>
    simp only at h
    obtain ⟨g, hg, rfl⟩ := ha
    rw [nth_eq] at h
    cases hid : m[id]? with
    | none => rw [hid] at h; simp at h
    | some e =>
      rw [hid] at h
      cases e with
      | dead => simp at h
      | cells => simp at h
      | row T ro sh sz xs =>
        simp only at h
        cases he : elemAt sh xs i with
        | none => rw [he] at h; simp at h
        | some q =>
          obtain ⟨e, o1⟩ := q
          rw [he] at h; simp only at h
          cases hp : partT P t e j with
          | none => rw [hp] at h; simp at h
          | some y =>
            rw [hp] at h; simp at h; obtain ⟨rfl, _, rfl⟩ := h
            obtain ⟨_, hsh, hent⟩ := hm.ent id _ hid
            have hx := elemAt_spec he hsh ho
            obtain ⟨_, rfl, _⟩ | ⟨g', pre, vs, rest, fr, hg', hsz, hpos, hpre, hl, hall, _, hw, _, _⟩ := hent
            · simp at hx
            rw [hg] at hg'; cases hg'
            obtain ⟨F1, F2, e1, e2, _⟩ := elem_mid hx hall
            rw [e1] at hl
            obtain ⟨A', M', B', ev, hA, hM, hB⟩ := LR.mid hl
            obtain ⟨x, hx', hr⟩ := load_part (w := w) (A := pre ++ A') (C := B' ++ rest) (b := g.b) (o := g.off + i * g.sz + j) (T := T) (fr := fr) hp hM (by rw [hw, ev]; simp) (by
              have := hA.length; simp only [List.length_append]; rw [hsz]; omega)
            exact ⟨x, by simp [Instr.loadAt, Instr.sureAddr, hx'], hr⟩
  | _ => simp at h

theorem bif_some {α : Type} {b : Bool} {x : Option α} {y : α} (h : (bif b then x else none) = some y) : b = true ∧ x = some y := by
  cases b <;> simp at h; exact ⟨rfl, h⟩

/-- Cells written in the middle of a block. -/
theorem store_run {b o : Nat} {A M C N : List Value} {T t : TypeId} {x : Value} (hw : w.heap[b]? = some (.cells (A ++ M ++ C).toArray T (0, 0))) (ho : o = A.length) (hN : x.cells.toList = N) (hl : M.length = N.length)
    (h1 : ∀ u ∈ N, u.oneCell' = true) (hs : sizeT P t = some N.length) :
    (storeVar t ⟨b, o, none⟩ x).run P w = .ok () (w.setRow b (A ++ N ++ C).toArray) := by
  have hst := run_storeCells_at P b o T N 0 (A ++ M ++ C).toArray w hw (by simp; omega) h1
  have hsz : x.cells.size = N.length := by rw [← hN]; simp
  simp only [storeVar, Sem.run_bind, sizeOf_run hs w, Result.andThen_ok, hsz, ne_eq, not_true_eq_false, if_false]
  rw [hN, hst]
  congr 3
  simp only [Nat.add_zero, List.append_assoc]
  rw [ho, List.take_left, show A.length + N.length = A.length + M.length by omega, ← List.drop_drop, List.drop_left, List.drop_left]

theorem setRow_others (w : World) (b : Nat) (cs : Array Value) : ∀ k, k ≠ b → (w.setRow b cs).heap[k]? = w.heap[k]? := fun k hk => setRow_other w b k cs hk

theorem xstore_spec {t : TypeId} {a v : AV} {st st' : List Ch} {o : Obs} {A X : Value} {m' : Mem} (h : xstore P t a v m st = some (m', st', o)) (ho : ∀ q ∈ o, q) (ha : VR γ a A) (hv : VR γ v X) (hm : MemOk H γ m w) :
    ∃ w', (Instr.storeAt t A X).run P w = .ok () w' ∧ MemOk H γ m' w' ∧ SF γ m w γ m' w' := by
  unfold xstore at h
  cases hs : sizeT P t with
  | none => rw [hs] at h; simp at h
  | some n =>
    rw [hs] at h; simp only at h
    obtain ⟨hb, h⟩ := bif_some h
    simp only [Bool.and_eq_true] at hb
    obtain ⟨hn, hones⟩ := hb
    have hn := Nat.eq_of_beq_eq_true hn
    rw [len_eq] at hn
    have hcells := cells_spec hones hv
    have hone := ones_spec hones hcells
    have hN : n = X.cells.toList.length := by rw [hcells.length]; exact hn.symm
    cases a with
    | ptr id off =>
      simp only at h
      obtain ⟨g, hg, rfl⟩ := ha
      rw [nth_eq] at h
      cases hid : m[id]? with
      | none => rw [hid] at h; simp at h
      | some e =>
        rw [hid] at h
        cases e with
        | dead => simp at h
        | row => simp at h
        | cells T cs =>
          simp only at h
          cases hp : paste cs off v.cells with
          | none => rw [hp] at h; simp at h
          | some y =>
            rw [hp] at h; simp at h; obtain ⟨rfl, _, _⟩ := h
            rw [upd_eq]
            obtain ⟨A, M, C, e1, e2, e3, e4⟩ := paste_spec _ _ _ _ hp
            obtain ⟨g', vs, hg', h0, hl, hw⟩ := hm.ent id _ hid
            rw [hg] at hg'; cases hg'
            rw [e1] at hl
            obtain ⟨A', M', C', ev, hA, hM, hC⟩ := LR.mid hl
            have hAl := hA.length; have hMl := hM.length; have hNl := hcells.length
            have hst := store_run (P := P) (w := w) (b := g.b) (o := g.off + off) (A := A') (M := M') (C := C') (T := T) (t := t) (x := X) (by rw [hw, ev]) (by omega) rfl (by omega) hone (by rw [hs, hN])
            have hnew : (w.setRow g.b (A' ++ X.cells.toList ++ C').toArray).heap[g.b]? = some (.cells (A' ++ X.cells.toList ++ C').toArray T (0, 0)) := setRow_heap w g.b _ _ T (0, 0) hw
            obtain ⟨hm', hf⟩ := hm.write (w' := w.setRow g.b (A' ++ X.cells.toList ++ C').toArray) (e' := .cells T y) hid rfl rfl hg (by simp) (setRow_others w _ _) rfl rfl rfl
              ⟨g, _, hg, h0, by rw [e2]; exact (hA.append hcells).append hC, hnew⟩
            exact ⟨_, by simp [Instr.storeAt, Instr.sureAddr, hst], hm', hf⟩
    | eptr id i j =>
      simp only at h
      obtain ⟨g, hg, rfl⟩ := ha
      rw [nth_eq] at h
      cases hid : m[id]? with
      | none => rw [hid] at h; simp at h
      | some e =>
        rw [hid] at h
        cases e with
        | dead => simp at h
        | cells => simp at h
        | row T ro sh sz xs =>
          cases ro with
          | true => simp at h
          | false =>
            simp only at h
            cases he : elemAt sh xs i with
            | none => rw [he] at h; simp at h
            | some q =>
              obtain ⟨e, o1⟩ := q
              rw [he] at h; simp only at h
              cases hp : paste e j v.cells with
              | none => rw [hp] at h; simp at h
              | some y =>
               rw [hp] at h; simp only at h
               cases hpu : putAt sh xs i y with
               | none => rw [hpu] at h; simp at h
               | some ys =>
                rw [hpu] at h; simp at h; obtain ⟨rfl, _, rfl⟩ := h
                rw [upd_eq]
                obtain ⟨hsp, hsh, hent⟩ := hm.ent id _ hid
                have hx := elemAt_spec he hsh ho
                obtain ⟨A, M, C, e1, e2, e3, e4⟩ := paste_spec _ _ _ _ hp
                obtain ⟨_, rfl, _⟩ | ⟨g', pre, vs, rest, fr, hg', hsz, hpos, hpre, hl, hall, hones', hw, hfr, hcap⟩ := hent
                · simp at hx
                rw [hg] at hg'; cases hg'
                have hfr' := hfr rfl
                subst hfr'
                obtain ⟨F1, F2, f1, f2, f3⟩ := elem_mid hx hall
                rw [f1, e1] at hl
                obtain ⟨A1, M1, B1, ev, hA1, hM1, hB1⟩ := LR.mid hl
                obtain ⟨A', M', C', ev', hA, hM, hC⟩ := LR.mid hM1
                have l1 := hA1.length; have l2 := hA.length; have l3 := hM.length; have l4 := hcells.length; have l5 := hB1.length; have l6 := hC.length
                have hst := store_run (P := P) (w := w) (b := g.b) (o := g.off + i * g.sz + j) (A := pre ++ A1 ++ A') (M := M') (C := C' ++ B1 ++ rest) (T := T) (t := t) (x := X)
                  (by rw [hw, ev, ev']; simp) (by simp only [List.length_append]; rw [hsz]; omega) rfl (by omega) hone (by rw [hs, hN])
                have hnew : (w.setRow g.b (pre ++ A1 ++ A' ++ X.cells.toList ++ (C' ++ B1 ++ rest)).toArray).heap[g.b]? = some (.cells (pre ++ A1 ++ A' ++ X.cells.toList ++ (C' ++ B1 ++ rest)).toArray T (0, 0)) := setRow_heap w g.b _ _ T (0, 0) hw
                have hey : e.length = sz := hall e (List.mem_of_getElem? hx)
                have hyl : y.length = sz := by rw [← hey, e1, e2]; simp only [List.length_append]; omega
                obtain ⟨y', rfl, hyl', hy', hsh'⟩ := putAt_spec hpu hsh (by rw [e2]; exact (hA.append hcells).append hC)
                rw [hyl] at hyl'
                obtain ⟨hm', hf⟩ := hm.write (w' := w.setRow g.b (pre ++ A1 ++ A' ++ X.cells.toList ++ (C' ++ B1 ++ rest)).toArray) (e' := .row T false sh sz (xs.set i y')) hid rfl rfl hg (by simp) (setRow_others w _ _) rfl rfl rfl
                  ⟨hsp, hsh', .inr ⟨g, pre, A1 ++ (A' ++ X.cells.toList ++ C') ++ B1, rest, (0, 0), hg, hsz, hpos, hpre, by rw [f3]; exact (hA1.append hy').append hB1,
                    fun x hx' => by
                      rcases List.mem_or_eq_of_mem_set hx' with h | h
                      · exact hall x h
                      · rw [h]; exact hyl',
                    fun u hu => by
                      rw [ev, ev'] at hones'
                      simp only [List.mem_append] at hu hones'
                      rcases hu with (hu | (hu | hu) | hu) | hu
                      · exact hones' u (.inl (.inl hu))
                      · exact hones' u (.inl (.inr (.inl (.inl hu))))
                      · exact hone u hu
                      · exact hones' u (.inl (.inr (.inr hu)))
                      · exact hones' u (.inr hu),
                    by rw [hnew]; simp, fun _ => rfl, by
                      rw [ev, ev'] at hcap
                      simp only [List.length_append] at hcap ⊢
                      omega⟩⟩
                exact ⟨_, by simp [Instr.storeAt, Instr.sureAddr, hst], hm', hf⟩
    | _ => simp at h
end
end Go.XM

namespace Go.XM
open Go
section
variable {P : Program} {H : Nat} {γ : Gm} {m : Mem} {w : World}

/-- parts and their values. -/
def PR (γ : Gm) : List (Nat × AV) → List (Nat × Value) → Prop
  | [], l => l = []
  | (i, v) :: r, l => ∃ V t, l = (i, V) :: t ∧ VR γ v V ∧ PR γ r t

theorem fill_spec {place place' : Nat → Option (Nat × Nat)} (hp : ∀ i x, place i = some x → place' i = some x) :
    ∀ {ps : List (Nat × AV)} {cs l : List AV} {Cs : List Value} {Ps : List (Nat × Value)}, fillA place cs ps = some l → LR γ cs Cs →
      PR γ ps Ps → ∃ L : List Value, Instr.fill place' Cs.toArray Ps = some L.toArray ∧ LR γ l L
  | [], cs, l, Cs, _, h, hc, hp0 => by
    cases hp0
    simp [fillA] at h; subst h
    exact ⟨Cs, rfl, hc⟩
  | (i, v) :: r, cs, l, Cs, _, h, hc, ⟨V, Pt, e, hv, hr⟩ => by
    subst e
    simp only [fillA] at h
    cases hpl : place i with
    | none => rw [hpl] at h; simp at h
    | some x =>
      obtain ⟨off, n⟩ := x
      rw [hpl] at h; simp only at h
      obtain ⟨hb, h⟩ := bif_some h
      simp only [Bool.and_eq_true] at hb
      obtain ⟨hn, hones⟩ := hb
      have hn := Nat.eq_of_beq_eq_true hn
      rw [len_eq] at hn
      cases hpa : paste cs off v.cells with
      | none => rw [hpa] at h; simp at h
      | some y =>
        rw [hpa] at h; simp only at h
        have hcells := cells_spec hones hv
        obtain ⟨A, M, B, e1, e2, e3, e4⟩ := paste_spec _ _ _ _ hpa
        rw [e1] at hc
        obtain ⟨A', M', B', ev, hA, hM, hB⟩ := LR.mid hc
        have l1 := hA.length; have l2 := hM.length; have l3 := hcells.length; have l4 := hB.length
        have hsz : V.cells.size = n := by rw [← hn, ← l3]; simp
        have hfold : ∀ (ns : List Value) (X Y Z : List Value) (k : Nat), Y.length = ns.length → X.length = off + k →
            (ns.zipIdx k).foldl (fun cs (p : Value × Nat) => cs.setIfInBounds (off + p.2) p.1) (X ++ Y ++ Z).toArray = (X ++ ns ++ Z).toArray := by
          intro ns
          induction ns with
          | nil => intro X Y Z k hY _; cases Y <;> simp at hY; simp
          | cons a ns ih =>
            intro X Y Z k hY hX
            cases Y with
            | nil => simp at hY
            | cons y Y =>
              simp only [List.zipIdx_cons, List.foldl_cons]
              rw [show (X ++ y :: Y ++ Z).toArray.setIfInBounds (off + k) a = ((X ++ [a]) ++ Y ++ Z).toArray by
                rw [List.setIfInBounds_toArray, ← hX]
                simp]
              rw [ih (X ++ [a]) Y Z (k + 1) (by simpa using hY) (by simp [hX]; omega)]
              simp
        have hstep : V.cells.zipIdx.foldl (fun cs (p : Value × Nat) => cs.setIfInBounds (off + p.2) p.1) Cs.toArray = (A' ++ V.cells.toList ++ B').toArray := by
          rw [ev]
          have := hfold V.cells.toList A' M' B' 0 (by omega) (by omega)
          rw [← this, ← Array.foldl_toList]
          simp
        obtain ⟨L, hL, hlr⟩ := fill_spec hp (Cs := A' ++ V.cells.toList ++ B') h (by rw [e2]; exact (hA.append hcells).append hB) hr
        refine ⟨L, ?_, hlr⟩
        simp only [Instr.fill, hp i _ hpl]
        have hfit : off + V.cells.size ≤ Cs.toArray.size := by rw [ev]; simp only [List.size_toArray, List.length_append]; omega
        rw [if_neg (by simp [hsz]; rw [hsz] at hfit; simpa using hfit)]
        rw [hstep]
        exact hL

theorem places_spec : ∀ {fs : List Field} {pl : List (Nat × Nat)}, placesT P fs = some pl → fs.mapM (fun f => (P.info? f.type).map fun i => (f.offset, i.size)) = some pl
  | [], pl, h => by simp [placesT] at h; subst h; rfl
  | f :: r, pl, h => by
    simp only [placesT] at h
    cases hs : sizeT P f.type with
    | none => rw [hs] at h; simp at h
    | some n =>
      cases hr : placesT P r with
      | none => rw [hs, hr] at h; simp at h
      | some l =>
        rw [hs, hr] at h; simp at h; subst h
        obtain ⟨i, hi, rfl⟩ := sizeT_spec hs
        simp [List.mapM_cons, hi, places_spec hr]

theorem xbuild_spec {t : TypeId} {ps : List (Nat × AV)} {v : AV} {Ps : Array (Nat × Value)} (h : xbuild P t ps = some v) (hp : PR γ ps Ps.toList) (w : World) :
    ∃ V, (Instr.build t Ps).run P w = .ok V w ∧ VR γ v V := by
  unfold xbuild at h
  unfold zeroT at h
  cases hi : P.info? t with
  | none => rw [hi] at h; simp at h
  | some i =>
    rw [hi] at h
    cases hz : i.zero with
    | none => simp [hz] at h
    | some Z =>
      simp only [hz] at h
      cases hzv : ofV Z with
      | none => rw [hzv] at h; simp at h
      | some z =>
        rw [hzv] at h
        cases z with
        | agg z =>
          simp only at h
          have hzr := ofV_spec γ hzv
          obtain ⟨Zl, hZ, hzl⟩ := hzr
          cases hu : P.underlying t with
          | none => rw [hu] at h; simp at h
          | some d =>
            rw [hu] at h
            cases d with
            | struct fs =>
              simp only at h
              cases hpl : placesT P fs.toList with
              | none => rw [hpl] at h; simp at h
              | some pl =>
                rw [hpl] at h; simp only at h
                cases hf : fillA (nth pl) z ps with
                | none => rw [hf] at h; simp at h
                | some l =>
                  rw [hf] at h; simp at h; subst h
                  obtain ⟨L, hL, hlr⟩ := fill_spec (γ := γ) (place' := (pl.toArray[·]?)) (fun i x hx => by rw [nth_eq] at hx; simpa using hx) hf hzl hp
                  refine ⟨.agg L.toArray, run_build w t Ps L.toArray ?_, ⟨L, rfl, hlr⟩⟩
                  simp only [Program.built, hi, hu, hz, places_spec hpl]
                  rw [hZ]; exact hL
            | array n e =>
              simp only at h
              cases hs : sizeT P e with
              | none => rw [hs] at h; simp at h
              | some n =>
                rw [hs] at h; simp only at h
                obtain ⟨ie, hie, rfl⟩ := sizeT_spec hs
                cases hf : fillA (fun i => some (i * ie.size, ie.size)) z ps with
                | none => rw [hf] at h; simp at h
                | some l =>
                  rw [hf] at h; simp at h; subst h
                  obtain ⟨L, hL, hlr⟩ := fill_spec (γ := γ) (place' := fun i => some (i * ie.size, ie.size)) (fun i x hx => hx) hf hzl hp
                  refine ⟨.agg L.toArray, run_build w t Ps L.toArray ?_, ⟨L, rfl, hlr⟩⟩
                  simp only [Program.built, hi, hu, hz, hie]
                  rw [hZ]; exact hL
            | _ => simp at h
        | _ => simp at h

/-- new cells. -/
theorem newVar_spec {v : AV} {V : Value} (hm : MemOk H γ m w) (hH : m.length + 1 ≤ H) (hones : ones v.cells = true) (hv : VR γ v V) (t : TypeId) :
    ∃ γ' w', (newVar t V).run P w = .ok ⟨w.heap.size, 0, none⟩ w' ∧ VR γ' (.ptr m.length 0) (.pointer (some ⟨w.heap.size, 0, none⟩)) ∧ MemOk H γ' (m ++ [.cells t v.cells]) w' ∧ SF γ m w γ' (m ++ [.cells t v.cells]) w' := by
  have hc := cells_spec hones hv
  obtain ⟨γ', hg, hm', hf⟩ := hm.new hH (w' := { w with heap := w.heap.push (.cells V.cells t) }) (.cells t v.cells) ⟨w.heap.size, 0, 0, 0⟩ (.cells V.cells t) rfl rfl rfl rfl rfl
    (fun γ' hle hg => ⟨_, V.cells.toList, hg, rfl, hc.mono hle, by simp⟩)
  exact ⟨γ', _, by simp [newVar, newRow], ⟨_, hg, rfl⟩, hm', hf⟩

theorem xfieldAddr_spec {t : TypeId} {a v : AV} {i : Nat} {A : Value} (h : xfieldAddr P t a i = some v) (ha : VR γ a A) (w : World) : ∃ V, (Instr.fieldAt t A i).run P w = .ok V w ∧ VR γ v V := by
  unfold xfieldAddr at h
  cases hu : P.underlying t with
  | none => rw [hu] at h; simp at h
  | some d =>
    rw [hu] at h
    cases d with
    | struct fs =>
      simp only at h
      unfold fieldPl at h
      rw [nth_eq] at h
      cases hf : fs.toList[i]? with
      | none => rw [hf] at h; simp at h
      | some f =>
        rw [hf] at h; simp only at h
        cases hs : sizeT P f.type with
        | none => rw [hs] at h; simp at h
        | some n =>
          rw [hs] at h; simp only at h
          obtain ⟨hb, h⟩ := bif_some h
          have hn : n ≠ 0 := by have := Nat.lt_of_lt_of_le (Nat.lt_of_sub_ne_zero (by simp [Nat.blt] at hb; omega) : 0 < n) (Nat.le_refl n); omega
          have hf' : fs[i]? = some f := by simpa using hf
          have place : ∀ b o, (fieldPlace ⟨b, o, none⟩ f).run P w = .ok ⟨b, o + f.offset, none⟩ w := fun b o => by
            simp [fieldPlace, sizeOf_run hs w, hn, addr_add]
          cases a with
          | ptr id o =>
            simp at h; subst h
            obtain ⟨g, hg, rfl⟩ := ha
            exact ⟨.pointer (some ⟨g.b, g.off + o + f.offset, none⟩), by simp [Instr.fieldAt, run_underlying hu, hf', Instr.sureAddr, place], ⟨g, hg, by rw [Nat.add_assoc]⟩⟩
          | eptr id k j =>
            simp at h; subst h
            obtain ⟨g, hg, rfl⟩ := ha
            exact ⟨.pointer (some ⟨g.b, g.off + k * g.sz + j + f.offset, none⟩), by simp [Instr.fieldAt, run_underlying hu, hf', Instr.sureAddr, place], ⟨g, hg, by rw [Nat.add_assoc]⟩⟩
          | _ => simp at h
    | _ => simp at h

/-- a part of an aggregate. -/
theorem part_spec {t : TypeId} {cs : List AV} {off : Nat} {v : AV} {V : List Value} (h : partT P t cs off = some v) (hl : LR γ cs V) (w : World) : ∃ x, (part t V.toArray off).run P w = .ok x w ∧ VR γ v x := by
  unfold partT at h
  cases ha : isAggT P t with
  | none => simp [ha] at h
  | some ag =>
    cases hs : sizeT P t with
    | none => rw [ha, hs] at h; cases ag <;> simp at h
    | some n =>
      rw [ha, hs] at h
      cases ag with
      | true =>
        simp only at h
        cases hc : cut cs off n with
        | none => rw [hc] at h; simp at h
        | some l =>
          rw [hc] at h; simp at h; subst h
          obtain ⟨X, Y, e, e1, e2⟩ := cut_spec _ _ _ _ hc
          rw [e] at hl
          obtain ⟨X', M', Y', e', hX, hM, hY⟩ := LR.mid hl
          have l1 := hX.length; have l2 := hM.length
          refine ⟨.agg M'.toArray, ?_, ⟨M', rfl, hM⟩⟩
          simp only [part, Sem.run_bind, isAgg_run ha w, Result.andThen_ok, if_true, sizeOf_run hs w, Sem.run_pure]
          congr 2
          rw [e']
          simp only [List.extract_toArray]
          congr 1
          simp only [List.extract_eq_take_drop, List.append_assoc]
          rw [show off + n - off = M'.length by omega, show off = X'.length by omega, List.drop_left, List.take_left]
      | false =>
        simp only at h
        rw [nth_eq] at h
        obtain ⟨x, hx, hr⟩ := LR.get hl h
        exact ⟨x, by simp [part, isAgg_run ha w, hx], hr⟩

end
end Go.XM

namespace Go.XM
open Go
section
variable {P : Program} {γ : Gm} {w : World}

theorem cellsEq_append : ∀ {x y x' y' : List AV}, x.length = y.length → cellsEq (x ++ x') (y ++ y') = (cellsEq x y && cellsEq x' y')
  | [], [], _, _, _ => by simp [cellsEq]
  | [], _ :: _, _, _, h => by simp at h
  | _ :: _, [], _, _, h => by simp at h
  | a :: x, b :: y, _, _, h => by
    simp only [List.cons_append, cellsEq, cellsEq_append (x := x) (y := y) (by simpa using h), Bool.and_assoc]

theorem kOk_length : ∀ {ks : List Nat} {x y : List AV}, kOk ks x y = true → x.length = ks.length ∧ y.length = ks.length := by
  intro ks x y
  fun_induction kOk ks x y <;> simp_all

theorem kOk_split : ∀ {ks ks' : List Nat} {x y : List AV}, kOk (ks ++ ks') x y = true →
    ∃ x1 x2 y1 y2, x = x1 ++ x2 ∧ y = y1 ++ y2 ∧ kOk ks x1 y1 = true ∧ kOk ks' x2 y2 = true
  | [], _, x, y, h => ⟨[], x, [], y, rfl, rfl, rfl, h⟩
  | k :: ks, ks', x, y, h => by
    match k, x, y, h with
    | 0, .int s kd n :: x, .int s' kd' n' :: y, h =>
      simp only [List.cons_append, kOk, Bool.and_eq_true] at h
      obtain ⟨x1, x2, y1, y2, e1, e2, h1, h2⟩ := kOk_split h.2
      exact ⟨.int s kd n :: x1, x2, .int s' kd' n' :: y1, y2, by simp [e1], by simp [e2], by simp [kOk, h.1, h1], h2⟩
    | 1, .bool s n :: x, .bool s' n' :: y, h =>
      simp only [List.cons_append, kOk] at h
      obtain ⟨x1, x2, y1, y2, e1, e2, h1, h2⟩ := kOk_split h
      exact ⟨.bool s n :: x1, x2, .bool s' n' :: y1, y2, by simp [e1], by simp [e2], by simp [kOk, h1], h2⟩
    | 2, .str s n :: x, .str s' n' :: y, h =>
      simp only [List.cons_append, kOk] at h
      obtain ⟨x1, x2, y1, y2, e1, e2, h1, h2⟩ := kOk_split h
      exact ⟨.str s n :: x1, x2, .str s' n' :: y1, y2, by simp [e1], by simp [e2], by simp [kOk, h1], h2⟩

def ValOf (P : Program) (t : TypeId) (X : List Value) (x : Value) : Prop :=
  (isAggT P t = some true ∧ x = .agg X.toArray) ∨ (isAggT P t = some false ∧ X = [x])

theorem part_val {t : TypeId} {A X B : List Value} {n off : Nat} (hs : sizeT P t = some n) (hX : X.length = n) (hA : A.length = off) (hag : ∃ b, isAggT P t = some b ∧ (b = false → n = 1)) (w : World) :
    ∃ x, (part t (A ++ X ++ B).toArray off).run P w = .ok x w ∧ ValOf P t X x := by
  obtain ⟨b, hb, h1⟩ := hag
  cases b with
  | true =>
    refine ⟨.agg X.toArray, ?_, .inl ⟨hb, rfl⟩⟩
    simp only [part, Sem.run_bind, isAgg_run hb w, Result.andThen_ok, if_true, sizeOf_run hs w, Sem.run_pure]
    congr 2
    simp only [List.extract_toArray]
    congr 1
    simp only [List.extract_eq_take_drop, List.append_assoc]
    rw [show off + n - off = X.length by omega, ← hA, List.drop_left, List.take_left]
  | false =>
    have h1 := h1 rfl
    match X, hX with
    | [], hX => simp at hX; omega
    | [x], _ =>
      refine ⟨x, ?_, .inr ⟨hb, rfl⟩⟩
      simp [part, isAgg_run hb w, ← hA]
    | _ :: _ :: _, hX => simp at hX; omega

theorem flatK_agg {k : Nat} {t : TypeId} {ks : List Nat} (h : flatK P k t = some ks) : ∃ b, isAggT P t = some b ∧ (b = false → ks.length = 1) := by
  cases k with
  | zero => simp [flatK] at h
  | succ k =>
    simp only [flatK] at h
    cases hu : P.underlying t with
    | none => rw [hu] at h; simp at h
    | some d =>
      rw [hu] at h
      cases d <;> simp at h
      all_goals first
        | (subst h; exact ⟨false, by simp [isAggT, hu], by simp⟩)
        | exact ⟨true, by simp [isAggT, hu], by simp⟩

theorem repL_succ {α : Type} (a : List α) (n : Nat) : repL a (n + 1) = a ++ repL a n := rfl

theorem eq_flat (w : World) : ∀ (k : Nat) (t : TypeId) (ks : List Nat), flatK P k t = some ks → ∀ d, k ≤ d → ∀ (cx cy : List AV) (X Y : List Value) (x y : Value), kOk ks cx cy = true → LR γ cx X → LR γ cy Y → ValOf P t X x → ValOf P t Y y →
    (Op.equalIn d t x y).run P w = .ok (cellsEq cx cy) w
  | 0, _, _, h, _, _, _, _, _, _, _, _, _, _, _, _, _ => by simp [flatK] at h
  | k + 1, t, ks, h, 0, hd, _, _, _, _, _, _, _, _, _, _, _ => by omega
  | k + 1, t, ks, h, d + 1, hd, cx, cy, X, Y, x, y, hk, hX, hY, hvx, hvy => by
    simp only [flatK] at h
    cases hu : P.underlying t with
    | none => rw [hu] at h; simp at h
    | some ds =>
      rw [hu] at h
      have scalar : isAggT P t = some false → X = [x] ∧ Y = [y] := fun hf => by
        rcases hvx with ⟨h1, _⟩ | ⟨_, h1⟩
        · rw [hf] at h1; simp at h1
        · rcases hvy with ⟨h2, _⟩ | ⟨_, h2⟩
          · rw [hf] at h2; simp at h2
          · exact ⟨h1, h2⟩
      have agg : isAggT P t = some true → x = .agg X.toArray ∧ y = .agg Y.toArray := fun hf => by
        rcases hvx with ⟨_, h1⟩ | ⟨h1, _⟩
        · rcases hvy with ⟨_, h2⟩ | ⟨h2, _⟩
          · exact ⟨h1, h2⟩
          · rw [hf] at h2; simp at h2
        · rw [hf] at h1; simp at h1
      cases ds <;> simp only at h
      case int ik =>
        simp at h; subst h
        obtain ⟨rfl, rfl⟩ := scalar (by simp [isAggT, hu])
        match cx, cy, hk, hX, hY with
        | [.int _ k1 n1], [.int _ k2 n2], hk, ⟨_, _, e1, r1, _⟩, ⟨_, _, e2, r2, _⟩ =>
          simp at e1 e2; obtain ⟨rfl, _⟩ := e1; obtain ⟨rfl, _⟩ := e2
          cases r1; cases r2
          simp [kOk, ikEq] at hk
          subst hk
          simp [Op.equalIn, run_underlying hu, cellsEq, cellEq]
      case bool =>
        simp at h; subst h
        obtain ⟨rfl, rfl⟩ := scalar (by simp [isAggT, hu])
        match cx, cy, hk, hX, hY with
        | [.bool _ n1], [.bool _ n2], hk, ⟨_, _, e1, r1, _⟩, ⟨_, _, e2, r2, _⟩ =>
          simp at e1 e2; obtain ⟨rfl, _⟩ := e1; obtain ⟨rfl, _⟩ := e2
          cases r1; cases r2
          simp [Op.equalIn, run_underlying hu, cellsEq, cellEq]
      case string =>
        simp at h; subst h
        obtain ⟨rfl, rfl⟩ := scalar (by simp [isAggT, hu])
        match cx, cy, hk, hX, hY with
        | [.str _ n1], [.str _ n2], hk, ⟨_, _, e1, r1, _⟩, ⟨_, _, e2, r2, _⟩ =>
          simp at e1 e2; obtain ⟨rfl, _⟩ := e1; obtain ⟨rfl, _⟩ := e2
          cases r1; cases r2
          have hse : ∀ a b : ByteArray, (a == b) = strEq a b := fun a b => by
            obtain ⟨⟨a⟩⟩ := a; obtain ⟨⟨b⟩⟩ := b
            show ((⟨a⟩ : Array UInt8) == ⟨b⟩) = (a == b)
            simp
          simp [Op.equalIn, run_underlying hu, cellsEq, cellEq, hse]
      case struct fs =>
        obtain ⟨rfl, rfl⟩ := agg (by simp [isAggT, hu])
        cases hst : P.stoodInHeld t with
        | true => rw [hst] at h; simp at h
        | false =>
          rw [hst] at h; simp only [cond_false] at h
          have hfo : P.fieldsOf t = fs := by simp [Program.fieldsOf, hu]
          rw [run_equalIn_struct w d t _ _ (by rw [hfo]; exact hu) hst, hfo]
          have key : ∀ (fl : List Field) (off : Nat) (ks : List Nat) (A B : List Value) (cx cy : List AV) (X Y : List Value), flatKF P (flatK P k) fl off = some ks → kOk ks cx cy = true → LR γ cx X → LR γ cy Y → A.length = off → B.length = off →
              (Op.eqFields d (A ++ X).toArray (B ++ Y).toArray fl).run P w = .ok (cellsEq cx cy) w := by
            intro fl
            induction fl with
            | nil =>
              intro off ks A B cx cy X Y hf hk hX hY _ _
              simp [flatKF] at hf; subst hf
              obtain ⟨l1, l2⟩ := kOk_length hk
              cases cx with
              | nil => cases cy with
                | nil => simp [Op.eqFields, cellsEq]
                | cons => simp at l2
              | cons => simp at l1
            | cons f fl ih =>
              intro off ks A B cx cy X Y hf hk hX hY hA hB
              simp only [flatKF] at hf
              obtain ⟨hb, hf⟩ := bif_some hf
              simp only [Bool.and_eq_true, bne_iff_ne] at hb
              obtain ⟨hname, hoff⟩ := hb
              have hoff := Nat.eq_of_beq_eq_true hoff
              cases hg : flatK P k f.type with
              | none => rw [hg] at hf; simp at hf
              | some k1 =>
                cases hs : sizeT P f.type with
                | none => rw [hg, hs] at hf; simp at hf
                | some n =>
                  rw [hg, hs] at hf; simp only at hf
                  obtain ⟨hn, hf⟩ := bif_some hf
                  have hn := Nat.eq_of_beq_eq_true hn
                  rw [len_eq] at hn
                  cases hr : flatKF P (flatK P k) fl (off + n) with
                  | none => rw [hr] at hf; simp at hf
                  | some k2 =>
                    rw [hr] at hf; simp at hf; subst hf
                    obtain ⟨x1, x2, y1, y2, rfl, rfl, h1, h2⟩ := kOk_split hk
                    obtain ⟨X1, X2, rfl, hX1, hX2⟩ := LR.split hX
                    obtain ⟨Y1, Y2, rfl, hY1, hY2⟩ := LR.split hY
                    obtain ⟨l1, l2⟩ := kOk_length h1
                    have l3 := hX1.length; have l4 := hY1.length
                    obtain ⟨b, hb1, hb2⟩ := flatK_agg hg
                    obtain ⟨p, hp, hpv⟩ := part_val (P := P) (A := A) (X := X1) (B := X2) (off := f.offset) hs (by omega) (by omega) ⟨b, hb1, fun e => by rw [← hn]; exact hb2 e⟩ w
                    obtain ⟨q, hq, hqv⟩ := part_val (P := P) (A := B) (X := Y1) (B := Y2) (off := f.offset) hs (by omega) (by omega) ⟨b, hb1, fun e => by rw [← hn]; exact hb2 e⟩ w
                    have he := eq_flat w k f.type k1 hg d (by omega) x1 y1 X1 Y1 p q h1 hX1 hY1 hpv hqv
                    have hrest := ih (off + n) k2 (A ++ X1) (B ++ Y1) x2 y2 X2 Y2 hr h2 hX2 hY2 (by simp; omega) (by simp; omega)
                    rw [cellsEq_append (by omega)]
                    rw [← List.append_assoc, ← List.append_assoc]
                    simp only [Op.eqFields, ne_eq, hname, not_false_eq_true, if_true, Sem.run_bind, hp, hq, Result.andThen_ok, he]
                    cases cellsEq x1 y1 with
                    | true => simp only [Bool.not_true, Bool.false_eq_true, if_false, Bool.true_and]; exact hrest
                    | false => simp
          exact key fs.toList 0 ks [] [] cx cy X Y h hk hX hY rfl rfl
      case array n e =>
        obtain ⟨rfl, rfl⟩ := agg (by simp [isAggT, hu])
        cases hg : flatK P k e with
        | none => rw [hg] at h; simp at h
        | some k1 =>
          cases hs : sizeT P e with
          | none => rw [hg, hs] at h; simp at h
          | some sz =>
            rw [hg, hs] at h; simp only at h
            obtain ⟨hn, h⟩ := bif_some h
            have hn := Nat.eq_of_beq_eq_true hn
            rw [len_eq] at hn
            simp at h; subst h
            obtain ⟨b, hb1, hb2⟩ := flatK_agg hg
            have key : ∀ (c i : Nat) (A B : List Value) (cx cy : List AV) (X Y : List Value), kOk (repL k1 c) cx cy = true → LR γ cx X → LR γ cy Y → A.length = i * sz → B.length = i * sz →
                (forIn (List.range' i c) ((none : Option Bool), ()) fun i (_ : Option Bool × Unit) => do
                  let r ← (do let a ← part e (A ++ X).toArray (i * sz); let b ← part e (B ++ Y).toArray (i * sz); Op.equalIn d e a b)
                  if (!r) = true then pure (ForInStep.done (some false, ())) else pure (ForInStep.yield (none, ()))).run P w = .ok (if cellsEq cx cy then (none, ()) else (some false, ())) w := by
              intro c
              induction c with
              | zero =>
                intro i A B cx cy X Y hk _ _ _ _
                obtain ⟨l1, l2⟩ := kOk_length hk
                cases cx with
                | nil => cases cy with
                  | nil => simp [cellsEq]
                  | cons => simp [repL] at l2
                | cons => simp [repL] at l1
              | succ c ih =>
                intro i A B cx cy X Y hk hX hY hA hB
                rw [repL_succ] at hk
                obtain ⟨x1, x2, y1, y2, rfl, rfl, h1, h2⟩ := kOk_split hk
                obtain ⟨X1, X2, rfl, hX1, hX2⟩ := LR.split hX
                obtain ⟨Y1, Y2, rfl, hY1, hY2⟩ := LR.split hY
                obtain ⟨l1, l2⟩ := kOk_length h1
                have l3 := hX1.length; have l4 := hY1.length
                obtain ⟨p, hp, hpv⟩ := part_val (P := P) (A := A) (X := X1) (B := X2) (off := i * sz) hs (by omega) (by omega) ⟨b, hb1, fun e => by rw [← hn]; exact hb2 e⟩ w
                obtain ⟨q, hq, hqv⟩ := part_val (P := P) (A := B) (X := Y1) (B := Y2) (off := i * sz) hs (by omega) (by omega) ⟨b, hb1, fun e => by rw [← hn]; exact hb2 e⟩ w
                have he := eq_flat w k e k1 hg d (by omega) x1 y1 X1 Y1 p q h1 hX1 hY1 hpv hqv
                have hrest := ih (i + 1) (A ++ X1) (B ++ Y1) x2 y2 X2 Y2 h2 hX2 hY2 (by simp [Nat.add_mul]; omega) (by simp [Nat.add_mul]; omega)
                rw [cellsEq_append (by omega)]
                rw [← List.append_assoc, ← List.append_assoc]
                simp only [List.range'_succ, List.forIn_cons, Sem.run_bind, hp, hq, Result.andThen_ok, he]
                cases cellsEq x1 y1 with
                | true => simp only [Bool.not_true, Bool.false_eq_true, if_false, Bool.true_and, Sem.run_pure, Result.andThen_ok]; exact hrest
                | false => simp
            have hfin := key n 0 [] [] cx cy X Y hk hX hY (by simp) (by simp)
            simp only [List.nil_append, bind_assoc] at hfin
            simp only [Op.equalIn, Sem.run_bind, run_underlying hu, Result.andThen_ok, sizeOf_run hs w, Std.Legacy.Range.forIn_eq_forIn_range']
            have hz : [0:n].size = n := by simp [Std.Legacy.Range.size]
            rw [hz]
            rw [hfin]
            cases cellsEq cx cy <;> simp
      all_goals simp at h
end
end Go.XM

namespace Go.XM
open Go
section
variable {P : Program} {H : Nat} {γ : Gm} {m : Mem} {w : World}

theorem szOk_spec {e : TypeId} {id : Nat} (h : szOk P e m id = true) (hm : MemOk H γ m w) : ∃ sz, sizeT P e = some sz ∧ 0 < sz ∧ ∀ {s : SK} {lo len : Nat} {V : Value}, VR γ (.sl s id lo len) V →
    (∃ g ao, γ id = some g ∧ g.sz = sz ∧ V = .slice (some ⟨g.b, ao, none⟩) len (g.cap - lo) ∧ lo + len ≤ g.cap ∧ (lo = 0 ∨ lo < g.cap → ao = g.off + lo * g.sz) ∧ (s = .n → lo = 0)) ∨ (s.sym = true ∧ lo = 0 ∧ len = 0 ∧ ∃ a, V = .slice a 0 0 ∧ (s = .n → a = none)) := by
  unfold szOk at h
  rw [nth_eq] at h
  cases hid : m[id]? with
  | none => rw [hid] at h; simp at h
  | some x =>
    rw [hid] at h
    cases x with
    | row T ro sh sz xs =>
      cases hs : sizeT P e with
      | none => rw [hs] at h; simp at h
      | some n =>
        rw [hs] at h; simp only at h
        have := Nat.eq_of_beq_eq_true h
        subst this
        obtain ⟨hp, _, hent⟩ := hm.ent id _ hid
        refine ⟨sz, rfl, hp, fun {s lo len V} hv => ?_⟩
        rcases hv with ⟨g, ao, hg, h1, h2, h3⟩ | hv
        · rcases hent with ⟨_, _, hn⟩ | ⟨g', pre, vs, rest, fr, hg', h4, _⟩
          · rw [hn] at hg; cases hg
          · rw [hg] at hg'; cases hg'
            exact .inl ⟨g, ao, hg, h4, h1, h2, h3⟩
        · exact .inr hv
    | _ => simp at h

theorem blt_pos {n : Nat} (h : Nat.blt 0 n = true) : 0 < n := by
  cases n with
  | zero => simp [Nat.blt] at h
  | succ n => omega

theorem intV {s : Bool} {k : IntKind} {n : Int} {V : Value} (h : VR γ (.int s k n) V) : V = .int k n := h

theorem xindexAddr_spec {t : TypeId} {x ix v : AV} {X I : Value} {st st' : List Ch} {o : Obs} (h : xindexAddr P t x ix m st = some (v, st', o)) (ho : ∀ q ∈ o, q) (hx : VR γ x X) (hi : VR γ ix I) (hm : MemOk H γ m w) :
    ∃ V, (Instr.indexAt t X I).run P w = .ok V w ∧ VR γ v V := by
  unfold xindexAddr at h
  split at h
  · rename_i e s id lo len s' k i hu
    obtain ⟨hb, h⟩ := bif_some h
    cases hn : need (s.sym || s') (0 ≤ i ∧ i < (len : Int)) with
    | none => rw [hn] at h; simp at h
    | some o1 =>
      rw [hn] at h; simp at h
      obtain ⟨rfl, _, rfl⟩ := h
      obtain ⟨h0, h1⟩ := need_spec hn ho
      obtain ⟨sz, hs, hpos, hsl⟩ := szOk_spec hb hm
      obtain ⟨g, ao, hg, hgs, rfl, hle, hao, _⟩ | ⟨_, _, hl0, _⟩ := hsl hx
      case inr => omega
      subst hgs
      cases intV hi
      have e1 := hao (by omega)
      refine ⟨.pointer (some ⟨g.b, ao + i.toNat * g.sz, none⟩), ?_, ⟨g, hg, ?_⟩⟩
      · simp [Instr.indexAt, asIntOf, run_underlying hu, h0, h1, sizeOf_run hs w, addr_add]
      · rw [e1]; simp only [Nat.add_mul, Nat.add_zero]; congr 3; omega
  · rename_i n e id off s k i hu
    cases hs : sizeT P e with
    | none => rw [hs] at h; simp at h
    | some sz =>
      rw [hs] at h; simp only at h
      obtain ⟨hb, h⟩ := bif_some h
      cases hn : need s (0 ≤ i ∧ i < (n : Int)) with
      | none => rw [hn] at h; simp at h
      | some o1 =>
        rw [hn] at h; simp at h
        obtain ⟨rfl, _, rfl⟩ := h
        obtain ⟨h0, h1⟩ := need_spec hn ho
        obtain ⟨g, hg, rfl⟩ := hx
        cases intV hi
        refine ⟨.pointer (some ⟨g.b, g.off + off + i.toNat * sz, none⟩), ?_, ⟨g, hg, ?_⟩⟩
        · simp [Instr.indexAt, asIntOf, run_underlying hu, Instr.sureAddr, h0, h1, sizeOf_run hs w, addr_add]
        · congr 3; omega
  · rename_i n e id a j s k i hu
    cases hs : sizeT P e with
    | none => rw [hs] at h; simp at h
    | some sz =>
      rw [hs] at h; simp only at h
      obtain ⟨hb, h⟩ := bif_some h
      cases hn : need s (0 ≤ i ∧ i < (n : Int)) with
      | none => rw [hn] at h; simp at h
      | some o1 =>
        rw [hn] at h; simp at h
        obtain ⟨rfl, _, rfl⟩ := h
        obtain ⟨h0, h1⟩ := need_spec hn ho
        obtain ⟨g, hg, rfl⟩ := hx
        cases intV hi
        refine ⟨.pointer (some ⟨g.b, g.off + a * g.sz + j + i.toNat * sz, none⟩), ?_, ⟨g, hg, ?_⟩⟩
        · simp [Instr.indexAt, asIntOf, run_underlying hu, Instr.sureAddr, h0, h1, sizeOf_run hs w, addr_add]
        · congr 3; omega
  · simp at h

theorem str_at (s : ByteArray) (i : Int) (h0 : 0 ≤ i) (h1 : i < (s.size : Int)) : ∃ b : UInt8, s[i.toNat]? = some b ∧ (b.toNat : Int) = strAt s i := by
  have hlt : i.toNat < s.size := by omega
  refine ⟨s[i.toNat], by simp [getElem?_pos, hlt], ?_⟩
  unfold strAt
  have hl : i.toNat < s.data.toList.length := by simpa using hlt
  rw [List.getD_eq_getElem?_getD, List.getElem?_eq_getElem hl]
  rfl

theorem xindex_spec {t : TypeId} {x ix v : AV} {X I : Value} {st st' : List Ch} {o : Obs} (h : xindex P t x ix st = some (v, st', o)) (ho : ∀ q ∈ o, q) (hx : VR γ x X) (hi : VR γ ix I) (w : World) :
    ∃ V, (Instr.index t X I).run P w = .ok V w ∧ VR γ v V := by
  unfold xindex at h
  split at h
  · rename_i s b s' k i hu
    cases hn : need (s || s') (0 ≤ i ∧ i < (b.size : Int)) with
    | none => rw [hn] at h; simp at h
    | some o1 =>
      rw [hn] at h; simp at h
      obtain ⟨rfl, _, rfl⟩ := h
      obtain ⟨h0, h1⟩ := need_spec hn ho
      cases hx
      cases intV hi
      obtain ⟨c, hc, hc'⟩ := str_at b i h0 h1
      refine ⟨.int .u8 c.toNat, ?_, by rw [hc']; rfl⟩
      simp [Instr.index, asIntOf, run_underlying hu, h0, hc]
  · rename_i n e cs s k i hu
    cases hs : sizeT P e with
    | none => rw [hs] at h; simp at h
    | some sz =>
      rw [hs] at h; simp only at h
      cases hn : need s (0 ≤ i ∧ i < (n : Int)) with
      | none => rw [hn] at h; simp at h
      | some o1 =>
        cases hp : partT P e cs (i.toNat * sz) with
        | none => rw [hn, hp] at h; simp at h
        | some y =>
          rw [hn, hp] at h; simp at h
          obtain ⟨rfl, _, rfl⟩ := h
          obtain ⟨h0, h1⟩ := need_spec hn ho
          obtain ⟨l, rfl, hl⟩ := hx
          cases intV hi
          obtain ⟨V, hV, hr⟩ := part_spec hp hl w
          refine ⟨V, ?_, hr⟩
          simp [Instr.index, asIntOf, run_underlying hu, h0, h1, sizeOf_run hs w, hV]
  · simp at h

/-- an optional bound. -/
def BR (γ : Gm) : Option AV → Option Value → Prop
  | none, V => V = none
  | some a, V => ∃ x, V = some x ∧ VR γ a x

theorem owing_spec {x : Option Obs} {u v : AV} {st st' : List Ch} {o : Obs} (h : owing x u st = some (v, st', o)) : x = some o ∧ u = v := by
  unfold owing at h
  cases x with
  | none => simp at h
  | some o1 => simp at h; obtain ⟨rfl, _, rfl⟩ := h; exact ⟨rfl, rfl⟩

/-- what a bound comes to. -/
theorem bnd_spec {d : Bool × Int} {x : Option AV} {X : Option Value} {s : Bool} {n : Int} (h : bnd d x = some (s, n)) (hx : BR γ x X) :
    (X = none ∧ n = d.2) ∨ ∃ k, X = some (.int k n) := by
  cases x with
  | none => cases hx; simp [bnd] at h; exact .inl ⟨rfl, by rw [h]⟩
  | some a =>
    obtain ⟨V, rfl, hr⟩ := hx
    cases a with
    | int s' k n' => simp [bnd] at h; obtain ⟨_, rfl⟩ := h; cases intV hr; exact .inr ⟨k, rfl⟩
    | _ => simp [bnd] at h

/-- both bounds of a slice expression. -/
theorem bounds_run (isSlice : Bool) (len cap : Nat) {l h : Int} {d1 d2 : Bool × Int} {LO HI : Option Value} (hl : (LO = none ∧ l = d1.2) ∨ ∃ k, LO = some (.int k l)) (hh : (HI = none ∧ h = d2.2) ∨ ∃ k, HI = some (.int k h))
    (e1 : d1.2 = 0) (e2 : d2.2 = (len : Int)) (hc : 0 ≤ l ∧ l ≤ h ∧ h ≤ (len : Int)) (hcap : len ≤ cap) (w : World) :
    (Instr.sliceBounds isSlice len cap LO HI none).run P w = .ok (l.toNat, h.toNat, cap) w := by
  obtain ⟨c1, c2, c3⟩ := hc
  rcases hl with ⟨rfl, rfl⟩ | ⟨kl, rfl⟩ <;> rcases hh with ⟨rfl, rfl⟩ | ⟨kh, rfl⟩
  · simp [Instr.sliceBounds, e1, e2]
  · cases isSlice <;> simp [Instr.sliceBounds, e1, run_sliceBound (P := P) w kh h cap _ (by omega) (by omega)]
  · simp [Instr.sliceBounds, e2, run_sliceBound (P := P) w kl l len _ (by omega) (by omega)]
  · cases isSlice <;> simp [Instr.sliceBounds, run_sliceBound (P := P) w kh h cap _ (by omega) (by omega), run_sliceBound (P := P) w kl l h.toNat _ (by omega) (by omega)]

theorem zero3_run {lo hi mx : Option AV} {LO HI MX : Option Value} (hz : zero3 lo hi mx = true) (hlo : BR γ lo LO) (hhi : BR γ hi HI) (hmx : BR γ mx MX) (len cap : Nat) (w : World) :
    (Instr.sliceBounds true len cap LO HI MX).run P w = .ok (0, 0, 0) w := by
  unfold zero3 at hz
  split at hz
  · rename_i kh h km m'
    simp at hz; obtain ⟨rfl, rfl⟩ := hz
    cases hlo
    obtain ⟨_, rfl, h1⟩ := hhi
    obtain ⟨_, rfl, h2⟩ := hmx
    cases intV h1; cases intV h2
    have e1 := run_sliceBound (P := P) w km 0 cap .slice3Acap (by omega) (by omega)
    have e2 := run_sliceBound (P := P) w kh 0 0 .slice3B (by omega) (by omega)
    simp [Instr.sliceBounds] at e1 e2 ⊢
    simp [e1, e2]
  · rename_i kl l kh h km m'
    simp at hz; obtain ⟨⟨rfl, rfl⟩, rfl⟩ := hz
    obtain ⟨_, rfl, h0⟩ := hlo
    obtain ⟨_, rfl, h1⟩ := hhi
    obtain ⟨_, rfl, h2⟩ := hmx
    cases intV h0; cases intV h1; cases intV h2
    have e1 := run_sliceBound (P := P) w km 0 cap .slice3Acap (by omega) (by omega)
    have e2 := run_sliceBound (P := P) w kh 0 0 .slice3B (by omega) (by omega)
    have e3 := run_sliceBound (P := P) w kl 0 0 .slice3C (by omega) (by omega)
    simp [Instr.sliceBounds] at e1 e2 e3 ⊢
    simp [e1, e2, e3]
  · simp at hz

theorem xslice_spec {t : TypeId} {x v : AV} {lo hi mx : Option AV} {X : Value} {LO HI MX : Option Value} {st st' : List Ch} {o : Obs} (h : xslice P t x lo hi mx m st = some (v, st', o)) (ho : ∀ q ∈ o, q)
    (hx : VR γ x X) (hlo : BR γ lo LO) (hhi : BR γ hi HI) (hmx : BR γ mx MX) (hm : MemOk H γ m w) : ∃ V, (Instr.sliceAt t X LO HI MX).run P w = .ok V w ∧ VR γ v V := by
  unfold xslice at h
  split at h
  · rename_i s b hu
    cases hx
    cases mx with
    | some _ => simp at h
    | none =>
      cases hmx
      simp only [strCut] at h
      split at h
      · rename_i s1 l s2 hh e1 e2
        obtain ⟨hn, rfl⟩ := owing_spec h
        have hc := need_spec hn ho
        have hb := bounds_run (P := P) false b.size b.size (bnd_spec e1 hlo) (bnd_spec e2 hhi) rfl rfl hc (Nat.le_refl _) w
        exact ⟨.string (b.extract l.toNat hh.toNat), by simp [Instr.sliceAt, Instr.slice, run_underlying hu, hb], rfl⟩
      · simp at h
  · rename_i e sy id lo0 len hu
    obtain ⟨hb, h⟩ := bif_some h
    obtain ⟨sz, hs, hpos, hsl⟩ := szOk_spec hb hm
    cases mx with
    | some mv =>
      simp only at h
      obtain ⟨hz, h⟩ := bif_some h
      simp at h; obtain ⟨rfl, _, _⟩ := h
      obtain ⟨A, L, C, rfl⟩ : ∃ A L C, X = .slice A L C := by
        rcases hsl hx with ⟨g, ao, _, _, rfl, _⟩ | ⟨_, _, _, a, rfl, _⟩
        · exact ⟨_, _, _, rfl⟩
        · exact ⟨_, _, _, rfl⟩
      have hr := zero3_run (P := P) hz hlo hhi hmx L C w
      cases A with
      | none => exact ⟨.slice none 0 0, by simp [Instr.sliceAt, Instr.slice, run_underlying hu, hr, sizeOf_run hs w], ⟨_, rfl⟩⟩
      | some A => exact ⟨.slice (some A) 0 0, by simp [Instr.sliceAt, Instr.slice, run_underlying hu, hr, sizeOf_run hs w], ⟨_, rfl⟩⟩
    | none =>
      cases hmx
      simp only [slCut] at h
      split at h
      · rename_i s1 L s2 H e1 e2
        obtain ⟨hn, rfl⟩ := owing_spec h
        have hc := need_spec hn ho
        obtain ⟨g, ao, hg, hgs, rfl, hle, hao, hn0⟩ | ⟨hsy, rfl, rfl, a, rfl, ha⟩ := hsl hx
        case inr =>
          obtain rfl : L = 0 := by omega
          obtain rfl : H = 0 := by omega
          have hb := bounds_run (P := P) true 0 0 (bnd_spec e1 hlo) (bnd_spec e2 hhi) rfl rfl hc (by omega) w
          refine ⟨.slice a 0 0, ?_, .inr ⟨by cases sy <;> cases lo <;> simp [SK.part, SK.sym] at hsy ⊢, rfl, rfl, a, rfl, fun he => by
            cases sy <;> cases lo <;> simp [SK.part, SK.sym] at hsy he
            exact ha rfl⟩⟩
          cases a <;> simp [Instr.sliceAt, Instr.slice, run_underlying hu, hb, sizeOf_run hs w]
        have hb := bounds_run (P := P) true len (g.cap - lo0) (bnd_spec e1 hlo) (bnd_spec e2 hhi) rfl rfl hc (by omega) w
        refine ⟨.slice (some ⟨g.b, if g.cap - lo0 = L.toNat then ao else ao + L.toNat * sz, none⟩) (H.toNat - L.toNat) (g.cap - lo0 - L.toNat), ?_, ?_⟩
        · simp only [Instr.sliceAt, Sem.run_bind, run_underlying hu, Result.andThen_ok, Instr.slice, hb, sizeOf_run hs w, Sem.run_pure]
          by_cases hcl : g.cap - lo0 = L.toNat
          · simp [hcl]
          · simp [hcl, addr_add]
        · refine .inl ⟨g, _, hg, by rw [show g.cap - (L.toNat + lo0) = g.cap - lo0 - L.toNat by omega], by omega, ?_⟩
          refine ⟨?_, fun he => by
            cases sy with
            | z => simp [SK.part] at he
            | c => revert he; cases hss : s1 || s2 <;> simp [SK.part]
            | n =>
              cases lo with
              | some l0 => simp [SK.part] at he
              | none =>
                have : L = 0 := by simp [bnd] at e1; exact e1.2.symm
                rw [this, hn0 rfl]; rfl⟩
          intro hor
          rcases Nat.eq_zero_or_pos L.toNat with h0 | h0
          · rw [h0]
            simp only [Nat.zero_mul, Nat.add_zero, Nat.zero_add, ite_self]
            exact hao (by omega)
          · have h1 := hao (by omega)
            subst hgs
            rw [if_neg (by omega), h1, Nat.add_mul]; omega
      · simp at h
  · rename_i e hu
    cases hx
    cases hs : sizeT P e with
    | none => rw [hs] at h; simp at h
    | some sz =>
      rw [hs] at h; simp only at h
      cases mx with
      | some mv =>
        simp only at h
        obtain ⟨hz, h⟩ := bif_some h
        simp at h; obtain ⟨rfl, _, _⟩ := h
        have hr := zero3_run (P := P) hz hlo hhi hmx 0 0 w
        exact ⟨.slice none 0 0, by simp [Instr.sliceAt, Instr.slice, run_underlying hu, hr, sizeOf_run hs w], rfl⟩
      | none =>
        cases hmx
        simp only [nilCut] at h
        split at h
        · rename_i s1 L s2 H e1 e2
          obtain ⟨hn, rfl⟩ := owing_spec h
          obtain ⟨rfl, rfl⟩ := need_spec hn ho
          have hb := bounds_run (P := P) true 0 0 (bnd_spec e1 hlo) (bnd_spec e2 hhi) rfl rfl (by omega) (by omega) w
          exact ⟨.slice none 0 0, by simp [Instr.sliceAt, Instr.slice, run_underlying hu, hb, sizeOf_run hs w], rfl⟩
        · simp at h
  · rename_i e hu
    obtain ⟨a, rfl⟩ := hx
    cases hs : sizeT P e with
    | none => rw [hs] at h; simp at h
    | some sz =>
      rw [hs] at h; simp only at h
      cases mx with
      | some mv =>
        simp only at h
        obtain ⟨hz, h⟩ := bif_some h
        simp at h; obtain ⟨rfl, _, _⟩ := h
        have hr := zero3_run (P := P) hz hlo hhi hmx 0 0 w
        refine ⟨.slice a 0 0, ?_, ⟨a, rfl⟩⟩
        cases a <;> simp [Instr.sliceAt, Instr.slice, run_underlying hu, hr, sizeOf_run hs w]
      | none =>
        cases hmx
        simp only [nilCut] at h
        split at h
        · rename_i s1 L s2 H e1 e2
          obtain ⟨hn, rfl⟩ := owing_spec h
          obtain ⟨rfl, rfl⟩ := need_spec hn ho
          have hb := bounds_run (P := P) true 0 0 (bnd_spec e1 hlo) (bnd_spec e2 hhi) rfl rfl (by omega) (by omega) w
          refine ⟨.slice a 0 0, ?_, ⟨a, rfl⟩⟩
          cases a <;> simp [Instr.sliceAt, Instr.slice, run_underlying hu, hb, sizeOf_run hs w]
        · simp at h
  · simp at h
end
end Go.XM

namespace Go.XM
open Go
section
variable {P : Program} {H : Nat} {γ : Gm} {m : Mem} {w : World}

theorem ofV1_one {v : Value} {a : AV} (h : ofV1 v = some a) : one a = true := by
  unfold ofV1 at h
  split at h <;> simp at h <;> subst h <;> rfl

theorem ofVL_ones : ∀ {l : List Value} {a : List AV}, ofVL l = some a → ones a = true
  | [], a, h => by simp [ofVL] at h; subst h; rfl
  | v :: r, a, h => by
    simp only [ofVL] at h
    cases h1 : ofV1 v with
    | none => rw [h1] at h; simp at h
    | some x =>
      cases h2 : ofVL r with
      | none => rw [h1, h2] at h; simp at h
      | some y =>
        rw [h1, h2] at h; simp at h; subst h
        simp [ones, ofV1_one h1, ofVL_ones h2]

theorem ofV_ones {v : Value} {a : AV} (h : ofV v = some a) : ones a.cells = true := by
  unfold ofV at h
  split at h
  · split at h
    · rename_i hl; simp at h; subst h; exact ofVL_ones hl
    · simp at h
  · have h1 := ofV1_one h
    cases a <;> simp [one] at h1 <;> rfl

theorem ones_append : ∀ {a b : List AV}, ones a = true → ones b = true → ones (a ++ b) = true
  | [], _, _, h => h
  | x :: a, b, h, h' => by simp [ones] at h ⊢; exact ⟨h.1, ones_append h.2 h'⟩

theorem ones_flatten : ∀ {xs : List (List AV)}, (∀ x ∈ xs, ones x = true) → ones xs.flatten = true
  | [], _ => rfl
  | x :: xs, h => by
    simp only [List.flatten_cons]
    exact ones_append (h x (by simp)) (ones_flatten fun y hy => h y (List.mem_cons_of_mem _ hy))

theorem rep_eq {α : Type} (a : α) : ∀ n, rep a n = List.replicate n a
  | 0 => rfl
  | n + 1 => by simp [rep, rep_eq a n, List.replicate_succ]

/-- the whole rows' cells, put in place one part after another. -/
theorem putParts_spec {n : Nat} : ∀ {ps : List (Nat × AV)} {xs ys : List (List AV)} {Cs : List Value} {Ps : List (Nat × Value)}, putParts n xs ps = some ys → (∀ x ∈ xs, x.length = n) → LR γ xs.flatten Cs → PR γ ps Ps →
    ∃ L : List Value, Instr.fill (fun i => some (i * n, n)) Cs.toArray Ps = some L.toArray ∧ LR γ ys.flatten L ∧ (∀ x ∈ ys, x.length = n) ∧ ys.length = xs.length ∧ ((∀ x ∈ xs, ones x = true) → ∀ x ∈ ys, ones x = true)
  | [], xs, ys, Cs, _, h, hn, hc, hp => by
    cases hp; simp [putParts] at h; subst h; exact ⟨Cs, rfl, hc, hn, rfl, id⟩
  | (i, v) :: r, xs, ys, Cs, _, h, hall, hc, ⟨V, Pt, e, hv, hr⟩ => by
    subst e
    simp only [putParts] at h
    obtain ⟨hb, h⟩ := bif_some h
    simp only [Bool.and_eq_true] at hb
    obtain ⟨⟨hn, hones⟩, hlt⟩ := hb
    have hn := Nat.eq_of_beq_eq_true hn
    rw [len_eq] at hn
    rw [len_eq] at hlt
    have hlt : i < xs.length := by
      have := Nat.blt_eq.mp hlt; exact this
    rw [upd_eq] at h
    obtain ⟨A, B, h1, h2, h3⟩ := elem_mid (List.getElem?_eq_getElem hlt) hall
    rw [h1] at hc
    obtain ⟨A', M', B', ev, hA, hM, hB⟩ := LR.mid hc
    have hcells := cells_spec hones hv
    have hxl : xs[i].length = n := hall _ (List.getElem_mem hlt)
    have l1 := hA.length; have l2 := hM.length; have l3 := hcells.length; have l4 := hB.length
    -- one step of the elder law
    have hpl : ∃ L1 : List Value, Instr.fill (fun i => some (i * n, n)) Cs.toArray [(i, V)] = some L1.toArray ∧ LR γ (A ++ v.cells ++ B) L1 := by
      have hpaste : paste (A ++ xs[i] ++ B) (i * n) v.cells = some (A ++ v.cells ++ B) := by
        have gen : ∀ (M N : List AV), M.length = N.length → paste (M ++ B) 0 N = some (N ++ B) := by
          intro M
          induction M with
          | nil => intro N hN; cases N with
            | nil => cases B <;> rfl
            | cons => simp at hN
          | cons a M ih => intro N hN; cases N with
            | nil => simp at hN
            | cons b N => simp only [List.cons_append, paste, ih N (by simpa using hN)]
        have gen2 : ∀ (A : List AV) (k : Nat), A.length = k → paste (A ++ (xs[i] ++ B)) k v.cells = some (A ++ (v.cells ++ B)) := by
          intro A
          induction A with
          | nil => intro k hk; simp at hk; subst hk; exact gen _ _ (by omega)
          | cons a A ih => intro k hk; cases k with
            | zero => simp at hk
            | succ k => simp only [List.cons_append, paste, ih k (by simpa using hk)]
        rw [List.append_assoc, List.append_assoc]; exact gen2 A _ h2
      obtain ⟨L, hL, hlr⟩ := fill_spec (γ := γ) (place := fun i => some (i * n, n)) (place' := fun i => some (i * n, n)) (ps := [(i, v)]) (cs := A ++ xs[i] ++ B) (l := A ++ v.cells ++ B) (Cs := Cs) (Ps := [(i, V)]) (fun _ _ h => h)
        (by
          have hb : (Nat.beq (len' v.cells) n && ones v.cells) = true := by rw [len_eq, hn, Nat.beq_refl, hones]; rfl
          simp only [fillA, hb, cond_true, hpaste]) hc ⟨V, [], rfl, hv, rfl⟩
      exact ⟨L, hL, hlr⟩
    obtain ⟨L1, hL1, hr1⟩ := hpl
    obtain ⟨L, hL, hlr, hl1, hl2, hl3⟩ := putParts_spec h (fun x hx => by
      rcases List.mem_or_eq_of_mem_set hx with h | h
      · exact hall x h
      · rw [h]; exact hn) (by rw [h3]; exact hr1) hr
    refine ⟨L, ?_, hlr, hl1, by simpa using hl2, fun hx => hl3 fun x hx' => by
      rcases List.mem_or_eq_of_mem_set hx' with h | h
      · exact hx x h
      · rw [h]; exact hones⟩
    simp only [Instr.fill] at hL1 ⊢
    split at hL1
    · simp at hL1
    · rename_i hno
      rw [if_neg hno]
      simp only [Option.some.injEq] at hL1
      rw [hL1]
      exact hL

theorem zeros_flat (z : List Value) (n : Nat) : ((Array.range (n * z.length)).map (fun i => z.toArray[i % z.toArray.size]!)).toList = (List.replicate n z).flatten := by
  simp only [Array.toList_map, Array.toList_range]
  induction n with
  | zero => simp
  | succ n ih =>
    rw [Nat.add_mul, Nat.one_mul, List.range_add, List.map_append, ih, List.replicate_succ', List.flatten_append]
    congr 1
    simp only [List.map_map, List.flatten_cons, List.flatten_nil, List.append_nil]
    apply List.ext_getElem?
    intro j
    by_cases hj : j < z.length
    · simp only [List.getElem?_map, List.getElem?_range hj, Option.map_some, Function.comp]
      rw [Nat.add_comm, Nat.mul_comm]
      simp [Nat.add_mul_mod_self_left, Nat.mod_eq_of_lt hj, hj]
    · rw [List.getElem?_eq_none (by simpa using hj), List.getElem?_eq_none (by simpa using hj)]

theorem xbuildSlice_spec {t : TypeId} {len : Nat} {ps : List (Nat × AV)} {v : AV} {m' : Mem} {Ps : Array (Nat × Value)} (h : xbuildSlice P t len ps m = some (v, m')) (hp : PR γ ps Ps.toList) (hm : MemOk H γ m w) (hH : m'.length ≤ H) :
    ∃ γ' w' V, (Instr.buildSlice t len Ps).run P w = .ok V w' ∧ VR γ' v V ∧ MemOk H γ' m' w' ∧ SF γ m w γ' m' w' := by
  unfold xbuildSlice at h
  cases hu : P.underlying t with
  | none => rw [hu] at h; simp at h
  | some d =>
    rw [hu] at h
    cases d with
    | slice e =>
      simp only at h
      cases hs : sizeT P e with
      | none => rw [hs] at h; simp at h
      | some n =>
        cases hz : zeroT P e with
        | none => rw [hs, hz] at h; simp at h
        | some z =>
          rw [hs, hz] at h; simp only at h
          obtain ⟨hb, h⟩ := bif_some h
          simp only [Bool.and_eq_true] at hb
          obtain ⟨⟨hpos, hzl⟩, hle⟩ := hb
          have hpos := blt_pos hpos
          have hzl := Nat.eq_of_beq_eq_true hzl
          have hle := Nat.le_of_ble_eq_true hle
          rw [len_eq] at hzl
          cases hpp : putParts n (rep z.cells len) ps with
          | none => rw [hpp] at h; simp at h
          | some xs =>
            rw [hpp] at h; simp at h; obtain ⟨rfl, rfl⟩ := h
            obtain ⟨Z, hZ, hzr⟩ := zero_run (P := P) hz w
            have hzc : LR γ z.cells Z.cells.toList := by
              have hzv := hzr γ
              have : ones z.cells = true ∨ ∃ l, z = .agg l := by
                cases z <;> first | (left; rfl) | (right; exact ⟨_, rfl⟩) | skip
                · unfold zeroT at hz
                  cases hi : P.info? e with
                  | none => rw [hi] at hz; simp at hz
                  | some i =>
                    rw [hi] at hz
                    cases hzz : i.zero with
                    | none => simp [hzz] at hz
                    | some Z' =>
                      simp only [hzz] at hz
                      unfold ofV at hz
                      split at hz
                      · split at hz <;> simp at hz
                      · unfold ofV1 at hz
                        split at hz <;> simp at hz
              rcases this with h1 | ⟨l, rfl⟩
              · exact cells_spec h1 hzv
              · obtain ⟨L, rfl, hl⟩ := hzv; exact hl
            have hzlen : Z.cells.toList.length = n := by rw [hzc.length]; exact hzl
            rw [rep_eq] at hpp
            have hrepl : ∀ k : Nat, LR γ (List.replicate k z.cells).flatten (List.replicate k Z.cells.toList).flatten := fun k => by
              induction k with
              | zero => exact rfl
              | succ k ih => simp only [List.replicate_succ, List.flatten_cons]; exact hzc.append ih
            obtain ⟨L, hL, hlr, hall, hlen, hon⟩ := putParts_spec hpp (fun x hx => by rw [(List.mem_replicate.1 hx).2]; exact hzl) (hrepl len) hp
            have hzones : ones z.cells = true := by
              unfold zeroT at hz
              cases hi : P.info? e with
              | none => rw [hi] at hz; simp at hz
              | some i =>
                rw [hi] at hz
                cases hzz : i.zero with
                | none => simp [hzz] at hz
                | some Z' =>
                  simp only [hzz] at hz
                  exact ofV_ones hz
            have hLone : ∀ u ∈ L, u.oneCell' = true := ones_spec (ones_flatten (hon fun x hx => by rw [(List.mem_replicate.1 hx).2]; exact hzones)) hlr
            obtain ⟨γ', hg, hm', hf⟩ := hm.new (by simpa using hH) (w' := { w with heap := w.heap.push (.cells L.toArray e) }) (.row e false none n xs) ⟨w.heap.size, 0, len, n⟩ (.cells L.toArray e) rfl rfl rfl rfl rfl
              (fun γ' hle hg => ⟨hpos, (fun ks h => by cases h), .inr ⟨_, [], L, [], (0, 0), hg, rfl, hpos, rfl, hlr.mono hle, hall, hLone, by simp, fun _ => rfl, by
                have hLl := hlr.length
                have : xs.flatten.length = len * n := by
                  rw [List.length_flatten, List.map_congr_left (g := fun _ => n) hall, List.map_const', List.sum_replicate_nat, hlen]; simp
                simp only [List.length_nil, Nat.add_zero]
                rw [hLl, this]; exact Nat.le_refl _⟩⟩)
            refine ⟨γ', _, .slice (some ⟨w.heap.size, 0, none⟩) len len, ?_, ?_, hm', hf⟩
            · have hbig : ¬ len * n > 2 ^ 24 := by simp; omega
              simp only [Instr.buildSlice, Sem.run_bind, run_underlying hu, Result.andThen_ok, sizeOf_run hs w, Sem.run_ite, hbig, if_false, Sem.run_pure]
              by_cases h0 : len * n = 0
              · have hl0 : len = 0 := by rcases Nat.mul_eq_zero.1 h0 with h | h <;> omega
                subst hl0
                simp only [Nat.zero_mul, if_true] at hL ⊢
                simp only [List.replicate_zero, List.flatten_nil] at hL
                have hr0 : (Array.range 0).map (fun x => (#[] : Array Value)[x % (#[] : Array Value).size]!) = #[] := by simp
                simp only [hr0, hL]
                simp [newRow]
              · simp only [h0, if_false, hZ, Result.andThen_ok]
                have hzf := zeros_flat Z.cells.toList len
                rw [hzlen] at hzf
                have harr : (Array.range (len * n)).map (fun x => Z.cells[x % Z.cells.size]!) = (List.replicate len Z.cells.toList).flatten.toArray := by
                  rw [← hzf]
                simp [harr, hL, newRow]
            · rw [len_eq]
              exact .inl ⟨_, 0, hg, by simp, by simp, fun _ => by simp, fun h => by cases h⟩
    | _ => simp at h
end
end Go.XM

namespace Go.XM
open Go
section
variable {P : Program} {H : Nat} {γ : Gm} {m : Mem} {w : World}

theorem arith_spec {s : Bool} {k : IntKind} {e : Int} {v : AV} {o : Obs} (h : arith s k e = (v, o)) (ho : ∀ q ∈ o, q) : VR γ v (.int k (k.wrap e)) := by
  unfold arith at h
  split at h
  · simp at h; obtain ⟨rfl, _⟩ := h; rfl
  · split at h
    · simp at h; obtain ⟨rfl, rfl⟩ := h
      have : rng .i64 e := ho (.fact _) (List.mem_singleton.2 rfl)
      unfold rng at this
      rw [this]; rfl
    · simp at h; obtain ⟨rfl, _⟩ := h; rfl

theorem strEq_eq (a b : ByteArray) : (a.toList == b.toList) = strEq a b := by
  rw [ByteArray.toList_eq, ByteArray.toList_eq]; rfl

/-- an operation's run with its guard. -/
def guarded (op : BinOp) (t : TypeId) (ox oy : Operand) (X Y : Value) : Sem Value := do eqGuard op t ox oy X Y; binOp op t X Y

theorem eq_run {t : TypeId} {X Y : Value} {b : Bool} {ox oy : Operand} {w : World} (hg : ∀ op, (eqGuard op t ox oy X Y).run P w = .ok () w) (hb : ∀ op, (op = .eql ∨ op = .neq) → binOp op t X Y = (do
      let r ← Op.equal t X Y; pure (.bool (if op = .eql then r else !r)))) (he : ∀ d, 19 ≤ d → (Op.equalIn (d + 1) t X Y).run P w = .ok b w) :
    (guarded .eql t ox oy X Y).run P w = .ok (.bool b) w ∧ (guarded .neq t ox oy X Y).run P w = .ok (.bool !b) w := by
  have he' : (Op.equal t X Y).run P w = .ok b w := he 9999 (by omega)
  unfold guarded
  constructor
  · simp [hg, hb .eql (.inl rfl), he']
  · simp [hg, hb .neq (.inr rfl), he']

theorem xeq_spec {t : TypeId} {x y : AV} {X Y : Value} {s b : Bool} (h : xeq P t x y = some (s, b)) (hx : VR γ x X) (hy : VR γ y Y) (ox oy : Operand) (w : World) :
    (guarded .eql t ox oy X Y).run P w = .ok (.bool b) w ∧ (guarded .neq t ox oy X Y).run P w = .ok (.bool !b) w := by
  unfold xeq at h
  split at h
  · rename_i s1 a s2 b1 hu
    simp at h; obtain ⟨_, rfl⟩ := h
    cases hx; cases hy
    refine eq_run (fun op => by rw [eqGuard_at_bool]; rfl) (fun op ho => by rcases ho with rfl | rfl <;> simp [binOp]) ?_
    intro d _; simp [Op.equalIn, run_underlying hu]
  · rename_i e hu
    simp at h; obtain ⟨_, rfl⟩ := h
    cases hx; cases hy
    refine eq_run (fun op => by rw [eqGuard_at_pointer]; rfl) (fun op ho => by rcases ho with rfl | rfl <;> simp [binOp]) ?_
    intro d _; simp [Op.equalIn, run_underlying hu]
  · rename_i e i o hu
    simp at h; obtain ⟨_, rfl⟩ := h
    obtain ⟨g, hg, rfl⟩ := hx; cases hy
    refine eq_run (fun op => by rw [eqGuard_at_pointer]; rfl) (fun op ho => by rcases ho with rfl | rfl <;> simp [binOp]) ?_
    intro d _; simp [Op.equalIn, run_underlying hu]
  · rename_i e i o hu
    simp at h; obtain ⟨_, rfl⟩ := h
    cases hx; obtain ⟨g, hg, rfl⟩ := hy
    refine eq_run (fun op => by rw [eqGuard_at_pointer]; rfl) (fun op ho => by rcases ho with rfl | rfl <;> simp [binOp]) ?_
    intro d _; simp [Op.equalIn, run_underlying hu]
  · rename_i e i o j hu
    simp at h; obtain ⟨_, rfl⟩ := h
    obtain ⟨g, hg, rfl⟩ := hx; cases hy
    refine eq_run (fun op => by rw [eqGuard_at_pointer]; rfl) (fun op ho => by rcases ho with rfl | rfl <;> simp [binOp]) ?_
    intro d _; simp [Op.equalIn, run_underlying hu]
  · rename_i e i o j hu
    simp at h; obtain ⟨_, rfl⟩ := h
    cases hx; obtain ⟨g, hg, rfl⟩ := hy
    refine eq_run (fun op => by rw [eqGuard_at_pointer]; rfl) (fun op ho => by rcases ho with rfl | rfl <;> simp [binOp]) ?_
    intro d _; simp [Op.equalIn, run_underlying hu]
  · rename_i tp i off i' off' hu
    obtain ⟨hb, hh⟩ := bif_some h
    clear h
    simp only [Bool.and_eq_true] at hb
    have h1 := Nat.eq_of_beq_eq_true hb.1.1
    have h2 := Nat.eq_of_beq_eq_true hb.1.2
    subst h1 h2
    simp only [Option.some.injEq, Prod.mk.injEq] at hh
    obtain ⟨_, rfl⟩ := hh
    obtain ⟨n, hn⟩ := Option.isSome_iff_exists.1 hb.2
    obtain ⟨g, hg, rfl⟩ := hx; obtain ⟨g', hg', rfl⟩ := hy
    rw [hg] at hg'; cases hg'
    refine eq_run (fun op => by rw [eqGuard_at_pointer]; rfl) (fun op ho => by rcases ho with rfl | rfl <;> simp [binOp]) ?_
    intro d _
    by_cases h0 : n = 0
    · simp [Op.equalIn, run_underlying hu, sizeOf_run hn w, h0]
    · simp [Op.equalIn, run_underlying hu, sizeOf_run hn w, h0, run_sameAddr_same]
  · rename_i p q r hu
    simp at h; obtain ⟨_, rfl⟩ := h
    cases hx; cases hy
    refine eq_run (fun op => by rw [eqGuard_at_nilFunc]; rfl) (fun op ho => by rcases ho with rfl | rfl <;> simp [binOp]) ?_
    intro d _; simp [Op.equalIn, run_underlying hu]
  · rename_i p q r f1 f2 f3 hu
    simp at h; obtain ⟨_, rfl⟩ := h
    obtain ⟨a, b, rfl, _⟩ := hx; cases hy
    refine eq_run (fun op => by rw [eqGuard_at_func]; rfl) (fun op ho => by rcases ho with rfl | rfl <;> simp [binOp]) ?_
    intro d _; simp [Op.equalIn, run_underlying hu]
  · rename_i e hu
    simp at h; obtain ⟨_, rfl⟩ := h
    cases hx; cases hy
    refine eq_run (fun op => by rw [eqGuard_at_slice]; rfl) (fun op ho => by rcases ho with rfl | rfl <;> simp [binOp]) ?_
    intro d _; simp [Op.equalIn, run_underlying hu]
  · rename_i e id lo n hu
    simp at h; obtain ⟨_, rfl⟩ := h
    obtain ⟨g, ao, hg, rfl, _⟩ | ⟨hs, _⟩ := hx
    case inr => simp [SK.sym] at hs
    cases hy
    refine eq_run (fun op => by rw [eqGuard_at_slice]; rfl) (fun op ho => by rcases ho with rfl | rfl <;> simp [binOp]) ?_
    intro d _; simp [Op.equalIn, run_underlying hu]
  · rename_i d xs ys hu
    obtain ⟨X, rfl, hX⟩ := hx
    obtain ⟨Y, rfl, hY⟩ := hy
    cases ha : isAggT P t with
    | none => rw [ha] at h; simp at h
    | some ag =>
      cases ag with
      | false => rw [ha] at h; simp at h
      | true =>
        cases hk : flatK P 20 t with
        | none => rw [ha, hk] at h; simp at h
        | some ks =>
          rw [ha, hk] at h; simp only at h
          obtain ⟨hb, h1⟩ := bif_some h
          simp only [Bool.and_eq_true, Bool.not_eq_true'] at hb
          simp at h1; obtain ⟨_, rfl⟩ := h1
          refine eq_run (fun op => run_eqGuard_agg (P := P) w op t ox oy _ _ hb.2) (fun op ho => by rcases ho with rfl | rfl <;> simp [binOp]) ?_
          exact fun d hd => eq_flat w 20 t ks hk (d + 1) (by omega) xs ys X Y _ _ hb.1 hX hY (.inl ⟨ha, rfl⟩) (.inl ⟨ha, rfl⟩)
  · simp at h

theorem xbin_spec {op : BinOp} {t : TypeId} {x y v : AV} {X Y : Value} {st st' : List Ch} {o : Obs} (h : xbin P op t x y st = some (v, st', o)) (ho : ∀ q ∈ o, q) (hx : VR γ x X) (hy : VR γ y Y) (ox oy : Operand) (w : World) :
    ∃ V, (guarded op t ox oy X Y).run P w = .ok V w ∧ VR γ v V := by
  unfold xbin at h
  split at h
  · rename_i s k a s' k' b
    cases intV hx; cases intV hy
    obtain ⟨hk, h1⟩ := bif_some h
    clear h
    simp [ikEq] at hk
    subst hk
    unfold guarded
    have ar : ∀ (s : Bool) (e : Int), arithR s k e st = some (v, st', o) → VR γ v (.int k (k.wrap e)) := fun s e h => by
      unfold arithR at h; simp at h; obtain ⟨rfl, _, rfl⟩ := h; exact arith_spec rfl ho
    cases op <;> simp only at h1
    case add => exact ⟨_, by simp [eqGuard_at_int, binOp, Op.intArith], ar _ _ h1⟩
    case sub => exact ⟨_, by simp [eqGuard_at_int, binOp, Op.intArith], ar _ _ h1⟩
    case mul => exact ⟨_, by simp [eqGuard_at_int, binOp, Op.intArith], ar _ _ h1⟩
    case eql => exact ⟨_, by simp [eqGuard_at_int, binOp, Op.intCmp], dec_spec h1 ho⟩
    case neq => exact ⟨_, by simp [eqGuard_at_int, binOp, Op.intCmp], dec_spec h1 ho⟩
    case lss => exact ⟨_, by simp [eqGuard_at_int, binOp, Op.intCmp], dec_spec h1 ho⟩
    case leq => exact ⟨_, by simp [eqGuard_at_int, binOp, Op.intCmp], dec_spec h1 ho⟩
    case gtr => exact ⟨_, by simp [eqGuard_at_int, binOp, Op.intCmp], dec_spec h1 ho⟩
    case geq => exact ⟨_, by simp [eqGuard_at_int, binOp, Op.intCmp], dec_spec h1 ho⟩
    case quo =>
      cases hn : need s' (b ≠ 0) with
      | none => rw [hn] at h1; simp at h1
      | some o1 =>
        rw [hn] at h1; simp at h1; obtain ⟨rfl, _, rfl⟩ := h1
        have hb := need_spec hn (fun q hq => ho q (by simp [hq]))
        exact ⟨_, by simp [eqGuard_at_int, binOp, Op.intDiv, hb], arith_spec (o := (arith (s || s') k (a.tdiv b)).2) rfl (fun q hq => ho q (List.mem_append_right _ hq))⟩
    case rem =>
      cases hn : need s' (b ≠ 0) with
      | none => rw [hn] at h1; simp at h1
      | some o1 =>
        rw [hn] at h1; simp at h1; obtain ⟨rfl, _, rfl⟩ := h1
        have hb := need_spec hn ho
        exact ⟨.int k (a.tmod b), by simp [eqGuard_at_int, binOp, Op.intDiv, hb], rfl⟩
    all_goals simp at h1
  · rename_i s a s' b
    cases hx; cases hy
    unfold guarded
    cases op <;> simp only at h
    case eql => exact ⟨.bool (strEq a b), by simp [eqGuard_at_string, binOp, Op.stringOp, strEq_eq], dec_spec h ho⟩
    case neq => exact ⟨.bool (!strEq a b), by simp [eqGuard_at_string, binOp, Op.stringOp, strEq_eq], dec_spec h ho⟩
    case add =>
      cases hn : need (s || s') (((a.size + b.size : Nat) : Int) ≤ 9223372036854775807) with
      | none => rw [hn] at h; simp at h
      | some o1 =>
        rw [hn] at h; simp at h; obtain ⟨rfl, _, rfl⟩ := h
        have hc := need_spec hn ho
        exact ⟨.string (a ++ b), by simp [eqGuard_at_string, binOp, run_string_add_sum (P := P) w a b (by omega)], rfl⟩
    all_goals simp at h
  · cases op <;> simp only at h
    case eql =>
      cases he : xeq P t x y with
      | none => rw [he] at h; simp at h
      | some q => obtain ⟨s, b⟩ := q; rw [he] at h; exact ⟨_, (xeq_spec he hx hy ox oy w).1, dec_spec h ho⟩
    case neq =>
      cases he : xeq P t x y with
      | none => rw [he] at h; simp at h
      | some q => obtain ⟨s, b⟩ := q; rw [he] at h; exact ⟨_, (xeq_spec he hx hy ox oy w).2, dec_spec h ho⟩
    all_goals simp at h
end
end Go.XM

namespace Go.XM
open Go
section
variable {P : Program} {H : Nat} {γ : Gm} {m : Mem} {w : World}

theorem xun_spec {op : UnOp} {x v : AV} {X : Value} (h : xun op x = some v) (hx : VR γ x X) (w : World) : ∃ V, (Op.unary op X).run P w = .ok V w ∧ VR γ v V := by
  unfold xun at h
  split at h
  · simp at h; subst h; cases hx; exact ⟨_, by simp [Op.unary], rfl⟩
  · rename_i s k n
    cases intV hx
    split at h <;> (simp at h; subst h; exact ⟨.int k (k.wrap (0 - n)), by simp [Op.unary, Op.intArith], by simp [VR]⟩)
  · simp at h

theorem xconvert_spec {src dst : TypeId} {x v : AV} {o : Obs} {X : Value} (h : xconvert P src dst x = some (v, o)) (ho : ∀ q ∈ o, q) (hx : VR γ x X) (w : World) : ∃ V, (convert src dst X).run P w = .ok V w ∧ VR γ v V := by
  unfold xconvert at h
  split at h
  · rename_i k1 k s k2 n h1 h2
    cases intV hx
    have hr : ∀ w, (convert src dst (.int k2 n)).run P w = .ok (.int k (k.wrap n)) w := fun w => by
      simp [convert, run_underlying h1, run_underlying h2, Conv.intToInt]
    split at h
    · simp at h; obtain ⟨rfl, _⟩ := h; exact ⟨_, hr w, rfl⟩
    · split at h
      · simp at h; obtain ⟨rfl, rfl⟩ := h
        have : rng .i64 n := ho (.fact _) (List.mem_singleton.2 rfl)
        unfold rng at this
        refine ⟨_, hr w, ?_⟩
        rw [this]; rfl
      · simp at h; obtain ⟨rfl, _⟩ := h; exact ⟨_, hr w, rfl⟩
  · rename_i s b h1 h2
    cases hx
    simp at h; obtain ⟨rfl, _⟩ := h
    exact ⟨_, by simp [convert, run_underlying h1, run_underlying h2], rfl⟩
  · simp at h

theorem xlen_spec {x v : AV} {X : Value} {t ty : TypeId} (h : xlen x = some v) (hx : VR γ x X) (ht : lenT P t x = true) (w : World) :
    ∃ V, (Builtin.len_ #[t] ty #[X]).run P w = .ok V w ∧ VR γ v V := by
  unfold xlen at h
  unfold lenT at ht
  split at h
  · rename_i s b
    simp at h; subst h; cases hx
    cases hu : P.underlying t with
    | none => rw [hu] at ht; simp at ht
    | some d =>
      rw [hu] at ht
      cases d <;> simp at ht
      exact ⟨_, by simp [Builtin.len_, run_underlying hu, goInt], rfl⟩
  · rename_i s id lo n
    simp at h; subst h
    obtain ⟨A, C, rfl⟩ : ∃ A C, X = .slice A n C := by
      obtain ⟨g, ao, hg, rfl, _⟩ | ⟨_, _, rfl, a, rfl, _⟩ := hx
      · exact ⟨_, _, rfl⟩
      · exact ⟨_, _, rfl⟩
    cases hu : P.underlying t with
    | none => rw [hu] at ht; simp at ht
    | some d =>
      rw [hu] at ht
      cases d <;> simp at ht
      exact ⟨_, by simp [Builtin.len_, run_underlying hu, goInt], rfl⟩
  · simp at h; subst h; cases hx
    cases hu : P.underlying t with
    | none => rw [hu] at ht; simp at ht
    | some d =>
      rw [hu] at ht
      cases d <;> simp at ht
      exact ⟨_, by simp [Builtin.len_, run_underlying hu, goInt], rfl⟩
  · simp at h; subst h; obtain ⟨a, rfl⟩ := hx
    cases hu : P.underlying t with
    | none => rw [hu] at ht; simp at ht
    | some d =>
      rw [hu] at ht
      cases d <;> simp at ht
      exact ⟨_, by simp [Builtin.len_, run_underlying hu, goInt], rfl⟩
  · simp at h

theorem minI_spec {l : List AV} {v : AV} {L : List Value} {ts : Array TypeId} {ty : TypeId} (h : minI l = some v) (hl : LR γ l L) (w : World) : ∃ V, (Builtin.min_ ts ty L.toArray).run P w = .ok V w ∧ VR γ v V := by
  unfold minI at h
  split at h
  · rename_i s k a s' k' b
    simp at h; subst h
    obtain ⟨_, _, rfl, h1, _, _, rfl, h2, h3⟩ := hl
    cases h3; cases intV h1; cases intV h2
    refine ⟨_, run_min_int2 (P := P) w ts ty k k' a b, ?_⟩
    by_cases hc : b < a <;> simp [hc, VR]
  · simp at h

theorem maxI_spec {l : List AV} {v : AV} {L : List Value} {ts : Array TypeId} {ty : TypeId} (h : maxI l = some v) (hl : LR γ l L) (w : World) : ∃ V, (Builtin.max_ ts ty L.toArray).run P w = .ok V w ∧ VR γ v V := by
  unfold maxI at h
  split at h
  · rename_i s k a s' k' b
    simp at h; subst h
    obtain ⟨_, _, rfl, h1, _, _, rfl, h2, h3⟩ := hl
    cases h3; cases intV h1; cases intV h2
    refine ⟨_, run_max_int2 (P := P) w ts ty k k' a b, ?_⟩
    by_cases hc : b > a <;> simp [hc, VR]
  · simp at h
end
end Go.XM

namespace Go.XM
open Go
section
variable {P : Program} {H : Nat} {γ : Gm} {m : Mem} {w : World}

/-- what is appended: n elements of sz cells, read the same in every world with this heap. -/
structure Src (P : Program) (γ : Gm) (w : World) (sz : Nat) (X : Value) (n : Nat) (ys : List (List AV)) : Prop where
  len : ∀ w, (Builtin.lenOf X).run P w = .ok n w
  cells : ∃ news : List Value, news.length = n * sz ∧ LR γ ys.flatten news ∧ (∀ u ∈ news, u.oneCell' = true) ∧ (∀ w', w'.heap = w.heap → (Builtin.firstCells sz n X).run P w' = .ok news.toArray w')
  size : ∀ x ∈ ys, x.length = sz
  num : ys.length = n

theorem flat_length {sz : Nat} : ∀ {xs : List (List AV)}, (∀ x ∈ xs, x.length = sz) → xs.flatten.length = xs.length * sz
  | [], _ => by simp
  | x :: xs, h => by
    simp only [List.flatten_cons, List.length_append, List.length_cons]
    rw [h x (by simp), flat_length fun y hy => h y (List.mem_cons_of_mem _ hy), Nat.add_mul]; omega

theorem notInt_spec {t : TypeId} (h : notInt P t = true) : P.underlying t = some .string ∨ ∃ e, P.underlying t = some (.slice e) := by
  unfold notInt at h
  cases hu : P.underlying t with
  | none => rw [hu] at h; simp at h
  | some d =>
    rw [hu] at h
    cases d <;> simp at h
    · exact .inl rfl
    · exact .inr ⟨_, rfl⟩

/-- append where there is room. -/
theorem append_room {t t' ty e : TypeId} {i : TypeInfo} {X : Value} {n len cap : Nat} {base : Option Addr} {w w' : World} {news : List Value} (hu : P.underlying t = some (.slice e)) (hi : P.info? e = some i) (ht' : notInt P t' = true)
    (hlen : (Builtin.lenOf X).run P w = .ok n w) (hnew : (Builtin.firstCells i.size n X).run P w = .ok news.toArray w) (hroom : len + n ≤ cap)
    (hst : ∀ a, base = some a → (storeCells (a.add (len * i.size)) news 0).run P w = .ok () w') (hnil : base = none → w' = w) :
    (Builtin.append_ #[t, t'] ty #[.slice base len cap, X]).run P w = .ok (.slice base (len + n) cap) w' := by
  have hs : sizeT P e = some i.size := by simp [sizeT, hi]
  rcases notInt_spec ht' with hd | ⟨e', hd⟩ <;> cases base with
  | none => simp [Builtin.append_, run_underlying hu, run_underlying hd, sizeOf_run hs w, hlen, hroom, hnew, hnil rfl]
  | some a => simp [Builtin.append_, run_underlying hu, run_underlying hd, sizeOf_run hs w, hlen, hroom, hnew, hst a rfl]

theorem three (a b : List Value) (c : Array Value) : a.toArray ++ (b.toArray ++ c) = (a ++ (b ++ c.toList)).toArray := by
  apply Array.toList_inj.1; simp

/-- append that makes a new array. -/
theorem append_grow {t t' ty e : TypeId} {i : TypeInfo} {z : Value} {X : Value} {n len cap : Nat} {base : Option Addr} {w : World} {olds news : List Value} (hu : P.underlying t = some (.slice e)) (hi : P.info? e = some i) (hz : i.zero = some z) (ht' : notInt P t' = true)
    (hby : 0 < i.bytes) (hlen : (Builtin.lenOf X).run P w = .ok n w) (hnew : ∀ w', w'.heap = w.heap → (Builtin.firstCells i.size n X).run P w' = .ok news.toArray w') (hold : ∀ w', w'.heap = w.heap → (Builtin.firstCells i.size len (.slice base len cap)).run P w' = .ok olds.toArray w')
    (hroom : cap < len + n) (hfit : (len + n) * i.bytes ≤ 140737488355328) :
    ∃ (nc : Nat) (rest : List Value), len + n ≤ nc ∧ rest.length = (nc - (len + n)) * z.cells.size ∧ (Builtin.append_ #[t, t'] ty #[.slice base len cap, X]).run P w =
      .ok (.slice (some ⟨w.heap.size, 0, none⟩) (len + n) nc) (w.drew.alloc (.cells (olds ++ news ++ rest).toArray e)) := by
  have hs : sizeT P e = some i.size := by simp [sizeT, hi]
  have hg := growslice_fits hroom hfit
  refine ⟨grownCap w (len + n) cap e, (Builtin.zeroCells z.cells (grownCap w (len + n) cap e - (len + n))).toList, grownCap_ge _ _ _ _, by rw [Array.length_toList, size_zeroCells], ?_⟩
  have hforced : (Question.appendCap (len + n) cap e).forced = false := rfl
  have h1 : ¬ (len + n ≤ cap) := by omega
  have h3 : ¬ (281474976710656 < Builtin.nextslicecap (len + n) cap * i.bytes) := by omega
  have e1 := hold w.drew rfl
  have e2 := hnew w.drew rfl
  have hbn : ¬ i.bytes = 0 := by omega
  have hci : (zeroValue e).run P w.drew = .ok z w.drew := by simp [zeroValue, typeInfo, hi, hz]
  rcases notInt_spec ht' with hd | ⟨e', hd⟩
  all_goals
    simp [Builtin.append_, run_underlying hu, run_underlying hd, sizeOf_run hs w, hlen, h1, typeInfo, hi, hbn, h3, hforced, e1, e2, hci, newRow, grownCap]
    rw [three]

theorem zeroLen {e : TypeId} {i : TypeInfo} {z : AV} (hi : P.info? e = some i) (h : zeroT P e = some z) : ∃ Z, i.zero = some Z ∧ Z.cells.size = z.cells.length := by
  unfold zeroT at h
  rw [hi] at h
  cases hz : i.zero with
  | none => simp [hz] at h
  | some Z =>
    simp only [hz] at h
    have hc := cells_spec (γ := fun _ => none) (ofV_ones h) (ofV_spec _ h)
    exact ⟨Z, rfl, by rw [← hc.length]; simp⟩

theorem lr_take {γ : Gm} {a b : List AV} {V : List Value} (h : LR γ (a ++ b) V) : LR γ a (V.take a.length) ∧ LR γ b (V.drop a.length) := by
  obtain ⟨A, B, rfl, hA, hB⟩ := LR.split h
  have := hA.length
  rw [← this, List.take_left, List.drop_left]
  exact ⟨hA, hB⟩

theorem normAll_spec {γ : Gm} {ks : List CK} : ∀ {ys : List (List AV)} {V : List Value}, fitsAll ks ys = true → LR γ ys.flatten V → LR γ (ys.map fun y => kcells y 0 ks).flatten V
  | [], _, _, h => h
  | y :: ys, V, hf, h => by
    simp only [fitsAll, Bool.and_eq_true] at hf
    simp only [List.flatten_cons] at h
    simp only [List.map_cons, List.flatten_cons]
    obtain ⟨A, B, rfl, hA, hB⟩ := LR.split h
    exact (fitsK_spec hf.1 hA).append (normAll_spec hf.2 hB)

theorem cksEq_spec : ∀ {a b : List CK}, cksEq a b = true → a = b
  | [], [], _ => rfl
  | [], _ :: _, h => by simp [cksEq] at h
  | _ :: _, [], h => by simp [cksEq] at h
  | x :: a, y :: b, h => by
    simp only [cksEq, Bool.and_eq_true] at h
    have hx : x = y := by
      cases x <;> cases y <;> simp [ckEq] at h <;> try rfl
      simp [ikEq] at h; rw [h.1]
    rw [hx, cksEq_spec h.2]

theorem shaped_none {sz : Nat} {xs : List (List AV)} : Shaped none sz xs := fun ks h => by cases h

theorem joinR_spec {sh sh' sh2 : Option (List CK)} {sz : Nat} {A ys zs : List (List AV)} (h : joinR sh sh' A ys = some (sh2, zs)) (hA : Shaped sh sz A) (hY : Shaped sh' sz ys) (hAl : ∀ x ∈ A, x.length = sz) (hYl : ∀ x ∈ ys, x.length = sz) :
    ∃ A' ys', zs = A' ++ ys' ∧ A'.length = A.length ∧ ys'.length = ys.length ∧ (∀ x ∈ A', x.length = sz) ∧ (∀ x ∈ ys', x.length = sz) ∧ Shaped sh2 sz zs ∧ (∀ (γ : Gm) V, LR γ A.flatten V → LR γ A'.flatten V) ∧ (∀ (γ : Gm) V, LR γ ys.flatten V → LR γ ys'.flatten V) ∧
      sh2.isSome = (sh.isSome || sh'.isSome) := by
  unfold joinR at h
  split at h
  · simp at h; obtain ⟨rfl, rfl⟩ := h
    exact ⟨A, ys, rfl, rfl, rfl, hAl, hYl, shaped_none, fun _ _ h => h, fun _ _ h => h, rfl⟩
  · rename_i ks
    obtain ⟨hf, h⟩ := bif_some h
    simp at h; obtain ⟨rfl, rfl⟩ := h
    have hk := (hA ks rfl).1
    have hm : ∀ x ∈ normK (some ks) ys, x.length = sz ∧ x = kcells x 0 ks := fun x hx => by
      obtain ⟨y, _, rfl⟩ := List.mem_map.1 hx
      exact ⟨by rw [kcells_len, hk], (kcells_idem y ks).symm⟩
    refine ⟨A, _, rfl, rfl, by simp [normK], hAl, fun x hx => (hm x hx).1, fun ks' e => ?_, fun _ _ h => h, fun _ _ h => normAll_spec hf h, rfl⟩
    cases e
    exact ⟨hk, fun x hx => (List.mem_append.1 hx).elim (fun h => (hA ks rfl).2 x h) (fun h => (hm x h).2)⟩
  · rename_i ks
    obtain ⟨hf, h⟩ := bif_some h
    simp at h; obtain ⟨rfl, rfl⟩ := h
    have hk := (hY ks rfl).1
    have hm : ∀ x ∈ normK (some ks) A, x.length = sz ∧ x = kcells x 0 ks := fun x hx => by
      obtain ⟨y, _, rfl⟩ := List.mem_map.1 hx
      exact ⟨by rw [kcells_len, hk], (kcells_idem y ks).symm⟩
    refine ⟨_, ys, rfl, by simp [normK], rfl, fun x hx => (hm x hx).1, hYl, fun ks' e => ?_, fun _ _ h => normAll_spec hf h, fun _ _ h => h, rfl⟩
    cases e
    exact ⟨hk, fun x hx => (List.mem_append.1 hx).elim (fun h => (hm x h).2) (fun h => (hY ks rfl).2 x h)⟩
  · rename_i ks ks'
    obtain ⟨hf, h2⟩ := bif_some h
    have := cksEq_spec hf
    subst this
    obtain ⟨rfl, rfl⟩ : some ks = sh2 ∧ A ++ ys = zs := by simpa using h2
    refine ⟨A, ys, rfl, rfl, rfl, hAl, hYl, fun ks' e => ?_, fun _ _ h => h, fun _ _ h => h, rfl⟩
    cases e
    exact ⟨(hA ks rfl).1, fun x hx => (List.mem_append.1 hx).elim (fun h => (hA ks rfl).2 x h) (fun h => (hY ks rfl).2 x h)⟩

theorem Src.other {sz n : Nat} {X : Value} {ys ys' : List (List AV)} (h : Src P γ w sz X n ys) (hl : ys'.length = ys.length) (hs : ∀ x ∈ ys', x.length = sz) (hr : ∀ (γ : Gm) V, LR γ ys.flatten V → LR γ ys'.flatten V) : Src P γ w sz X n ys' := by
  obtain ⟨news, h1, h2, h3⟩ := h.cells
  exact ⟨h.len, ⟨news, h1, hr _ _ h2, h3⟩, hs, by rw [hl, h.num]⟩

/-- append to a slice without room. -/
theorem append_zero {bytes sz : Nat} {zs : List (List AV)} {n : Nat} {s : SK} {sh2 : Option (List CK)} {X : Value} {t t' ty e : TypeId} {i : TypeInfo} {z : AV} (a : Option Addr)
    (hm : MemOk H γ m w) (hH : m.length + 1 ≤ H) (hsrc : Src P γ w sz X n zs) (hshape : Shaped sh2 sz zs) (hok : (sh2.isSome = true ∧ s.sym = true ∧ (s = .n → a = none)) ∨ zs ≠ []) (hb : (n : Int) * (bytes : Int) ≤ 70368744177664)
    (hu : P.underlying t = some (.slice e)) (hi : P.info? e = some i) (hz : zeroT P e = some z) (hzl : z.cells.length = sz) (ht' : notInt P t' = true) (hsz : i.size = sz) (hby : i.bytes = bytes) (hpos : 0 < sz) (hbpos : 0 < bytes) :
    ∃ γ' w' V, (Builtin.append_ #[t, t'] ty #[.slice a 0 0, X]).run P w = .ok V w' ∧ VR γ' (.sl s m.length 0 n) V ∧ MemOk H γ' (m ++ [.row e false sh2 sz zs]) w' ∧ SF γ m w γ' (m ++ [.row e false sh2 sz zs]) w' := by
  subst hsz hby
  obtain ⟨Z, hZ, hZl⟩ := zeroLen hi hz
  obtain ⟨news, hnl, hnr, hn1, hnc⟩ := hsrc.cells
  have hold : ∀ w' : World, w'.heap = w.heap → (Builtin.firstCells i.size 0 (.slice a 0 0)).run P w' = .ok ([] : List Value).toArray w' := fun w' _ => by
    cases a <;> simp [Builtin.firstCells, loadCells, loadCellsFrom]
  rcases Nat.eq_zero_or_pos n with h0 | hn
  · subst h0
    have hzs : zs = [] := List.eq_nil_of_length_eq_zero hsrc.num
    subst hzs
    obtain ⟨hsome, hs, hsn⟩ := hok.resolve_right (fun h => h rfl)
    have hnews : news = [] := List.eq_nil_of_length_eq_zero (by simpa using hnl)
    subst hnews
    have hr := append_room (P := P) (ty := ty) (w' := w) (base := a) (len := 0) (cap := 0) hu hi ht' (hsrc.len w) (hnc w rfl) (by omega) (fun a _ => by simp [storeCells]) (fun _ => rfl)
    obtain ⟨hm', hf⟩ := hm.bare hH (.row e false sh2 i.size []) (fun hno => ⟨hpos, hshape, .inl ⟨hsome, rfl, hno⟩⟩)
    exact ⟨γ, w, _, hr, .inr ⟨hs, rfl, rfl, a, rfl, hsn⟩, hm', hf⟩
  · have hb' : (0 + n) * i.bytes ≤ 140737488355328 := by
      have : ((n * i.bytes : Nat) : Int) ≤ 70368744177664 := by simpa using hb
      rw [Nat.zero_add]; omega
    obtain ⟨nc, rest, h1, h2, hr⟩ := append_grow (ty := ty) (olds := []) hu hi hZ ht' hbpos (hsrc.len w) hnc hold (by omega) hb'
    simp only [Nat.zero_add] at h1 h2 hr
    obtain ⟨w1, hw1⟩ : ∃ w1, w1 = w.drew.alloc (.cells ([] ++ news ++ rest).toArray e) := ⟨_, rfl⟩
    rw [← hw1] at hr
    obtain ⟨hm1, hf1⟩ := hm.same (w' := w.drew) ⟨rfl, rfl, rfl, rfl⟩
    obtain ⟨γ', hg, hm', hf⟩ := hm1.new hH (w' := w1) (.row e false sh2 i.size zs) ⟨w.heap.size, 0, nc, i.size⟩ (.cells ([] ++ news ++ rest).toArray e) rfl (by rw [hw1]; rfl) (by rw [hw1]; rfl) (by rw [hw1]; rfl) (by rw [hw1]; rfl)
      (fun γ' hle hg => ⟨hpos, hshape, .inr ⟨_, [], news, rest, (0, 0), hg, rfl, hpos, rfl, hnr.mono hle, hsrc.size, hn1, by rw [hw1]; exact heap_alloc_new w.drew _, fun _ => rfl, by
        show nc * i.size ≤ news.length + rest.length
        rw [hnl, h2, hZl, hzl, ← Nat.add_mul]
        exact Nat.mul_le_mul_right _ (by omega)⟩⟩)
    exact ⟨γ', w1, _, hr, .inl ⟨⟨w.heap.size, 0, nc, i.size⟩, 0, hg, rfl, by simpa using h1, fun _ => by simp, fun _ => rfl⟩, hm', hf1.trans hf⟩

/-- append to a slice that owns its row from some place on, or to an empty one. -/
theorem xappend_spec {bytes sz : Nat} {s v : AV} {ys : List (List AV)} {n : Nat} {sh' : Option (List CK)} {st st' : List Ch} {o : Obs} {m' : Mem} {S X : Value} {t t' ty e : TypeId} {i : TypeInfo} {z : AV}
    (h : xappend e bytes sz s ys n sh' m st = some (v, m', st', o)) (ho : ∀ q ∈ o, q) (hs : VR γ s S) (hm : MemOk H γ m w) (hH : m'.length ≤ H) (hsrc : Src P γ w sz X n ys) (hY : Shaped sh' sz ys) (hne : sh'.isSome = true ∨ ys ≠ [])
    (hu : P.underlying t = some (.slice e)) (hi : P.info? e = some i) (hz : zeroT P e = some z) (hzl : z.cells.length = sz) (ht' : notInt P t' = true) (hsz : i.size = sz) (hby : i.bytes = bytes) (hpos : 0 < sz) (hbpos : 0 < bytes) :
    ∃ γ' w' V, (Builtin.append_ #[t, t'] ty #[S, X]).run P w = .ok V w' ∧ VR γ' v V ∧ MemOk H γ' m' w' ∧ SF γ m w γ' m' w' := by
  have hn1 : sh'.isSome = true ∨ 0 < n := hne.imp (fun h => h) fun h => by
    rw [← hsrc.num]
    cases ys with
    | nil => exact absurd rfl h
    | cons => simp
  have empty : ∀ (a : Option Addr) (k : SK), k.sym = true → (k = .n → a = none) → S = .slice a 0 0 →
      (match need sh'.isSome ((n : Int) * (bytes : Int) ≤ 70368744177664) with
          | some o1 => some (.sl (SK.ofSh k sh'.isSome) (len' m) 0 n, m ++ [.row e false sh' sz ys], st, o1)
          | none => none : Option Out) = some (v, m', st', o) →
      ∃ γ' w' V, (Builtin.append_ #[t, t'] ty #[S, X]).run P w = .ok V w' ∧ VR γ' v V ∧ MemOk H γ' m' w' ∧ SF γ m w γ' m' w' := by
    intro a k hk hka hS h
    subst hS
    cases hnd : need sh'.isSome ((n : Int) * (bytes : Int) ≤ 70368744177664) with
    | none => rw [hnd] at h; simp at h
    | some o1 =>
      rw [hnd] at h; simp at h
      obtain ⟨rfl, rfl, _, rfl⟩ := h
      rw [len_eq]
      exact append_zero a hm (by simpa using hH) hsrc hY (hne.imp (fun h => ⟨h, by rw [h]; exact hk, fun he => hka (by rw [h] at he; exact he)⟩) fun h => h) (need_spec hnd ho) hu hi hz hzl ht' hsz hby hpos hbpos
  unfold xappend at h
  split at h
  · -- onto a row of its own
    rename_i sy id lo len
    rw [nth_eq] at h
    split at h
    · rename_i T sh sz' xs hid
      obtain ⟨hb, h1⟩ := bif_some h
      clear h
      simp only [Bool.and_eq_true, Bool.or_eq_true, Bool.not_eq_true'] at hb
      obtain ⟨⟨hb, hsy⟩, hT⟩ := hb
      have hb := Nat.eq_of_beq_eq_true hb
      subst hb
      have hT := Nat.eq_of_beq_eq_true hT
      subst T
      split at h1
      · rename_i o1 o2 sh2 zs hn1' hn2' hj
        simp at h1
        obtain ⟨rfl, rfl, _, rfl⟩ := h1
        have hxl : lo + len ≤ xs.length := need_spec hn1' (fun q hq => ho q (by simp [hq]))
        have hbd : ((len + n : Nat) : Int) * (bytes : Int) ≤ 70368744177664 := need_spec hn2' (fun q hq => ho q (by simp [hq]))
        rw [upd_eq, len_eq]
        obtain ⟨hsp, hX, hent⟩ := hm.ent id _ hid
        have hsubl : ((xs.drop lo).take len).length = len := by simp; omega
        have hXl : ∀ x ∈ xs, x.length = sz := by
          rcases hent with ⟨_, rfl, _⟩ | ⟨_, _, _, _, _, _, _, _, _, _, hall, _⟩
          · simp
          · exact hall
        have hsub : ∀ x ∈ (xs.drop lo).take len, x ∈ xs := fun x hx => List.mem_of_mem_drop (List.mem_of_mem_take hx)
        obtain ⟨A', ys', rfl, hA'l, hys'l, hA's, hys's, hzsh, hAr, hyr, hsome⟩ := joinR_spec hj (A := (xs.drop lo).take len) (fun ks e => ⟨(hX ks e).1, fun x hx => (hX ks e).2 x (hsub x hx)⟩) hY (fun x hx => hXl x (hsub x hx)) hsrc.size
        have hsrc' := hsrc.other hys'l hys's hyr
        rw [hsubl] at hA'l
        -- a slice without room
        have zero : ∀ a, len = 0 → S = .slice a 0 0 → ((sh2.isSome = true ∧ (sy.join sh'.isSome).sym = true ∧ (sy.join sh'.isSome = .n → a = none)) ∨ 0 < n) →
            ∃ γ' w' V, (Builtin.append_ #[t, t'] ty #[S, X]).run P w = .ok V w' ∧ VR γ' (.sl (sy.join sh'.isSome) m.length 0 (len + n)) V ∧ MemOk H γ' (m.set id .dead ++ [.row e false sh2 sz (A' ++ ys')]) w' ∧ SF γ m w γ' (m.set id .dead ++ [.row e false sh2 sz (A' ++ ys')]) w' := by
          intro a hlen hS hok
          subst hlen hS
          have hA0 : A' = [] := List.eq_nil_of_length_eq_zero hA'l
          subst hA0
          obtain ⟨hm0, hf0⟩ := hm.kill id
          have hsrc0 : Src P γ w sz X n ([] ++ ys') := hsrc'
          obtain ⟨γ', w', V, hr, hv, hm', hf⟩ := append_zero (P := P) (ty := ty) (s := sy.join sh'.isSome) a hm0 (by simpa [upd_eq] using hH) hsrc0 hzsh (hok.imp (fun h => h) fun h e => by
            have := hsrc0.num; rw [e] at this; simp at this; omega) (by simpa using hbd) hu hi hz hzl ht' hsz hby hpos hbpos
          rw [List.length_set] at hv
          rw [Nat.zero_add]
          exact ⟨γ', w', V, hr, hv, hm', hf0.trans hf⟩
        rcases hs with ⟨g, ao, hg, hSv, hcap, hao, hn0⟩ | ⟨hsyt, rfl, rfl, a, hSv, ha⟩
        case inr =>
          have hss : sh.isSome = true := by
            rcases hsy with h | h
            · rw [hsyt] at h; cases h
            · exact h
          exact zero a rfl hSv (.inl ⟨by rw [hsome, hss]; rfl, by cases sy <;> simp [SK.sym, SK.join] at hsyt ⊢, fun he => by
            cases sy <;> simp [SK.sym, SK.join] at hsyt he
            exact ha rfl⟩)
        rcases hent with ⟨_, _, hno⟩ | ⟨g', pre, vs, rest, fr, hg', hgsz, _, hpre, hl, hall, hone, hw, hfr, hfit⟩
        · rw [hno] at hg; cases hg
        rw [hg] at hg'; cases hg'
        have hfr' := hfr rfl
        subst hfr'
        subst hsz hby
        obtain ⟨Z, hZ, hZl⟩ := zeroLen hi hz
        obtain ⟨news, hnl, hnr, hnone, hnc⟩ := hsrc'.cells
        have hvl : vs.length = xs.length * i.size := by rw [hl.length, flat_length hall]
        have hb2 : (len + n) * i.bytes ≤ 140737488355328 := by
          have : (((len + n) * i.bytes : Nat) : Int) ≤ 70368744177664 := by simpa using hbd
          omega
        -- the part of the row
        have hsplit : xs = xs.take lo ++ ((xs.drop lo).take len ++ (xs.drop lo).drop len) := by rw [List.take_append_drop, List.take_append_drop]
        have hfl : xs.flatten = (xs.take lo).flatten ++ ((xs.drop lo).take len).flatten ++ ((xs.drop lo).drop len).flatten := by
          conv => lhs; rw [hsplit]
          simp
        rw [hfl] at hl
        obtain ⟨A1, M, B1, rfl, hA1, hM, hB1⟩ := LR.mid hl
        have hA1l : A1.length = lo * i.size := by
          rw [hA1.length, flat_length fun x hx => hall x (List.mem_of_mem_take hx)]
          congr 1; simp; omega
        have hMl : M.length = len * i.size := by rw [hM.length, flat_length (fun x hx => hall x (hsub x hx)), hsubl]
        have hM' := hAr _ _ hM
        have hone1 : ∀ u ∈ M, u.oneCell' = true := fun u hu => hone u (by simp [hu])
        rcases Nat.eq_zero_or_pos (g.cap - lo) with hc0 | hc0
        · have hlen : len = 0 := by omega
          rw [hlen, hc0] at hSv
          rcases Nat.eq_zero_or_pos n with hn00 | hn00
          · have hsh' := hn1.resolve_right (by omega)
            cases sy with
            | n =>
              -- nil or its own: it stays its own
              obtain rfl := hn0 rfl
              have hao := hao (.inl rfl)
              simp only [Nat.zero_mul, Nat.add_zero] at hao
              subst hao hlen hn00 hSv
              have hnews : news = [] := List.eq_nil_of_length_eq_zero (by simpa using hnl)
              subst hnews
              have hr := append_room (P := P) (ty := ty) (w' := w) (base := some ⟨g.b, g.off, none⟩) (len := 0) (cap := 0) hu hi ht' (hsrc.len w) (hnc w rfl) (by omega) (fun a _ => by simp [storeCells]) (fun h => by cases h)
              have hA0 : A' = [] := List.eq_nil_of_length_eq_zero hA'l
              have hy0 : ys' = [] := List.eq_nil_of_length_eq_zero hsrc'.num
              subst hA0 hy0
              obtain ⟨γ', hg2, hm2, hf2⟩ := hm.over (w' := w) (by simpa [upd_eq] using hH) (g' := ⟨g.b, g.off, 0, i.size⟩) (e' := .row e false sh2 i.size ([] ++ [])) hid rfl hg rfl rfl (fun _ _ => rfl) rfl rfl rfl
                (fun γ' hle hg' => ⟨hpos, hzsh, .inr ⟨_, pre, [], A1 ++ M ++ B1 ++ rest, (0, 0), hg', rfl, hpos, hpre, rfl, by simp, by simp, by rw [hw]; simp, fun _ => rfl, by simp⟩⟩)
              exact ⟨γ', w, _, hr, .inl ⟨_, g.off, hg2, rfl, by simp, fun _ => by simp, fun _ => rfl⟩, hm2, hf2⟩
            | c => exact zero _ hlen hSv (.inl ⟨by rw [hsome, hsh']; simp, by rw [hsh']; rfl, fun he => by rw [hsh'] at he; cases he⟩)
            | z => exact zero _ hlen hSv (.inl ⟨by rw [hsome, hsh']; simp, rfl, fun he => by cases he⟩)
          · exact zero _ hlen hSv (.inr hn00)
        · have hao := hao (.inr (by omega))
          rw [hgsz] at hao
          subst hao
          subst hSv
          by_cases hroom : len + n ≤ g.cap - lo
          · -- there is room
            have hfit2 : (g.cap - lo) * i.size ≤ M.length + (B1 ++ rest).length := by
              have := hfit
              simp only [List.length_append] at this ⊢
              rw [Nat.sub_mul]; omega
            have hlong : news.length ≤ (B1 ++ rest).length := by
              have := Nat.mul_le_mul_right i.size hroom
              rw [Nat.add_mul] at this
              omega
            obtain ⟨R1, R2, hR12, hR⟩ : ∃ R1 R2, B1 ++ rest = R1 ++ R2 ∧ R1.length = news.length := ⟨(B1 ++ rest).take news.length, (B1 ++ rest).drop news.length, (List.take_append_drop _ _).symm, by simp only [List.length_take]; omega⟩
            have hw' : w.heap[g.b]? = some (.cells (pre ++ A1 ++ M ++ (R1 ++ R2)).toArray e (0, 0)) := by rw [hw, ← hR12]; simp
            have hst := run_storeCells_at P g.b (g.off + lo * i.size + len * i.size) e news 0 (pre ++ A1 ++ M ++ (R1 ++ R2)).toArray w hw' (by simp; omega) hnone
            have hform : (pre ++ A1 ++ M ++ (R1 ++ R2)).toArray.toList.take (g.off + lo * i.size + len * i.size + 0) ++ news ++ (pre ++ A1 ++ M ++ (R1 ++ R2)).toArray.toList.drop (g.off + lo * i.size + len * i.size + 0 + news.length) = pre ++ A1 ++ (M ++ news) ++ R2 := by
              simp only [Nat.add_zero]
              rw [show g.off + lo * i.size + len * i.size = (pre ++ A1 ++ M).length by simp; omega, List.take_left, ← hR, ← List.drop_drop, List.drop_left, List.drop_left]
              simp
            rw [hform] at hst
            have hr := append_room (P := P) (ty := ty) (base := some ⟨g.b, g.off + lo * i.size, none⟩) (w' := w.setRow g.b (pre ++ A1 ++ (M ++ news) ++ R2).toArray) hu hi ht' (hsrc.len w) (hnc w rfl) hroom (fun a ha => by cases ha; rw [addr_add]; exact hst) (fun h => by cases h)
            obtain ⟨γ', hg2, hm2, hf2⟩ := hm.over (w' := w.setRow g.b (pre ++ A1 ++ (M ++ news) ++ R2).toArray) (by simpa [upd_eq] using hH) (g' := ⟨g.b, g.off + lo * i.size, g.cap - lo, i.size⟩) (e' := .row e false sh2 i.size (A' ++ ys')) hid rfl hg rfl (by simp) (setRow_others w _ _) rfl rfl rfl
              (fun γ' hle hg' => ⟨hpos, hzsh, .inr ⟨_, pre ++ A1, M ++ news, R2, (0, 0), hg', rfl, hpos, by simp; omega, by rw [List.flatten_append]; exact (hM'.mono hle).append (hnr.mono hle), fun x hx => by
                  rcases List.mem_append.1 hx with hx | hx
                  · exact hA's x hx
                  · exact hys's x hx,
                fun u hu => by
                  rcases List.mem_append.1 hu with hu | hu
                  · exact hone1 u hu
                  · exact hnone u hu, setRow_heap w g.b _ _ e (0, 0) hw', fun _ => rfl, by
                  have := hfit2
                  rw [hR12] at this
                  simp only [List.length_append] at this ⊢; omega⟩⟩)
            exact ⟨γ', _, _, hr, .inl ⟨_, g.off + lo * i.size, hg2, by simp, by simpa using hroom, fun _ => by simp, fun _ => rfl⟩, hm2, hf2⟩
          · -- it grows
            have hold : ∀ w', w'.heap = w.heap → (Builtin.firstCells i.size len (.slice (some ⟨g.b, g.off + lo * i.size, none⟩) len (g.cap - lo))).run P w' = .ok M.toArray w' := fun w' hh =>
              run_firstCells_some (P := P) w' i.size len ⟨g.b, g.off + lo * i.size, none⟩ len (g.cap - lo) M hMl (fun j u hj => by
                have hw2 : w'.heap[g.b]? = some (.cells (pre ++ (A1 ++ M ++ B1) ++ rest).toArray e (0, 0)) := by rw [hh]; exact hw
                rw [addr_add, cell_of_row w' g.b _ _ e (0, 0) hw2]
                have hjl : j < M.length := (List.getElem?_eq_some_iff.1 hj).1
                simp only [List.getElem?_toArray, List.append_assoc]
                rw [List.getElem?_append_right (by omega), List.getElem?_append_right (by omega), List.getElem?_append_left (by omega), show g.off + lo * i.size + j - pre.length - A1.length = j by omega]
                exact hj)
            obtain ⟨nc, rest', h1', h2', hr⟩ := append_grow (ty := ty) hu hi hZ ht' hbpos (hsrc.len w) hnc hold (by omega) hb2
            obtain ⟨w1, hw1⟩ : ∃ w1, w1 = w.drew.alloc (.cells (M ++ news ++ rest').toArray e) := ⟨_, rfl⟩
            rw [← hw1] at hr
            obtain ⟨hm0, hf0⟩ := hm.kill id
            obtain ⟨hm1, hf1⟩ := hm0.same (w' := w.drew) ⟨rfl, rfl, rfl, rfl⟩
            obtain ⟨γ', hg2, hm', hf⟩ := hm1.new (by simpa [upd_eq] using hH) (w' := w1) (.row e false sh2 i.size (A' ++ ys')) ⟨w.heap.size, 0, nc, i.size⟩ (.cells (M ++ news ++ rest').toArray e) rfl (by rw [hw1]; rfl) (by rw [hw1]; rfl) (by rw [hw1]; rfl) (by rw [hw1]; rfl)
              (fun γ' hle hg' => ⟨hpos, hzsh, .inr ⟨_, [], M ++ news, rest', (0, 0), hg', rfl, hpos, rfl, by rw [List.flatten_append]; exact (hM'.mono hle).append (hnr.mono hle), fun x hx => by
                  rcases List.mem_append.1 hx with hx | hx
                  · exact hA's x hx
                  · exact hys's x hx,
                fun u hu => by
                  rcases List.mem_append.1 hu with hu | hu
                  · exact hone1 u hu
                  · exact hnone u hu, by rw [hw1]; exact heap_alloc_new w.drew _, fun _ => rfl, by
                show nc * i.size ≤ _
                rw [List.length_append, hMl, hnl, h2', hZl, hzl, ← Nat.add_mul, ← Nat.add_mul]
                exact Nat.mul_le_mul_right _ (by omega)⟩⟩)
            rw [List.length_set] at hg2
            exact ⟨γ', w1, _, hr, .inl ⟨⟨w.heap.size, 0, nc, i.size⟩, 0, hg2, rfl, by simpa using h1', fun _ => by simp, fun _ => rfl⟩, hm', (hf0.trans hf1).trans hf⟩
      · simp at h1
    · simp at h
  · -- onto nil
    have hs' := hs
    cases hs'
    exact empty none .n rfl (fun _ => rfl) rfl h
  · obtain ⟨a, rfl⟩ := hs
    exact empty a .z rfl (fun h => by cases h) rfl h
  · simp at h

theorem xappendN_spec {bytes sz : Nat} {s v : AV} {ys : List (List AV)} {n : Nat} {sh' : Option (List CK)} {st st' : List Ch} {o : Obs} {m' : Mem} {S X : Value} {t t' ty e : TypeId} {i : TypeInfo} {z : AV}
    (h : xappendN e bytes sz s ys n sh' m st = some (v, m', st', o)) (ho : ∀ q ∈ o, q) (hs : VR γ s S) (hm : MemOk H γ m w) (hH : m'.length ≤ H) (hsrc : Src P γ w sz X n ys) (hY : Shaped sh' sz ys)
    (hu : P.underlying t = some (.slice e)) (hi : P.info? e = some i) (hz : zeroT P e = some z) (hzl : z.cells.length = sz) (ht' : notInt P t' = true) (hsz : i.size = sz) (hby : i.bytes = bytes) (hpos : 0 < sz) (hbpos : 0 < bytes) :
    ∃ γ' w' V, (Builtin.append_ #[t, t'] ty #[S, X]).run P w = .ok V w' ∧ VR γ' v V ∧ MemOk H γ' m' w' ∧ SF γ m w γ' m' w' := by
  unfold xappendN at h
  split at h
  · exact xappend_spec h ho hs hm hH hsrc hY (.inl rfl) hu hi hz hzl ht' hsz hby hpos hbpos
  · split at h
    · obtain ⟨hb, h⟩ := bif_some h
      simp at h
      obtain ⟨rfl, rfl, _, rfl⟩ := h
      have hn0 : n = 0 := by rw [← hsrc.num]; rfl
      subst hn0
      obtain ⟨news, hnl, hnr, hn1, hnc⟩ := hsrc.cells
      have hnews : news = [] := List.eq_nil_of_length_eq_zero (by simpa using hnl)
      subst hnews
      subst hsz
      obtain ⟨a, L, C, rfl, hLC⟩ : ∃ a L C, S = .slice a L C ∧ L ≤ C := by
        cases s <;> simp [isSl] at hb
        · cases hs; exact ⟨_, _, _, rfl, Nat.le_refl _⟩
        · rcases hs with ⟨g, ao, _, rfl, hc, _⟩ | ⟨_, _, _, a, rfl, _⟩
          · exact ⟨_, _, _, rfl, by omega⟩
          · exact ⟨_, _, _, rfl, Nat.le_refl _⟩
        · obtain ⟨a, rfl⟩ := hs; exact ⟨_, _, _, rfl, Nat.le_refl _⟩
      have hr := append_room (P := P) (ty := ty) (w' := w) (base := a) (len := L) (cap := C) hu hi ht' (hsrc.len w) (hnc w rfl) (by omega) (fun a _ => by simp [storeCells]) (fun _ => rfl)
      exact ⟨γ, w, _, hr, hs, hm, SF.refl _ _ _⟩
    · exact xappend_spec h ho hs hm hH hsrc hY (.inr (by simp)) hu hi hz hzl ht' hsz hby hpos hbpos
end
end Go.XM

namespace Go.XM
open Go
section
variable {P : Program} {H : Nat} {γ : Gm} {m : Mem} {w : World}

theorem src_zero {sz : Nat} (a : Option Addr) : Src P γ w sz (.slice a 0 0) 0 [] :=
  ⟨fun w => by simp [Builtin.lenOf], ⟨[], by simp, rfl, by simp, fun w' _ => by cases a <;> simp [Builtin.firstCells, loadCells, loadCellsFrom]⟩, by simp, rfl⟩

theorem src_row {T : TypeId} {ro : Bool} {sy : SK} {sh : Option (List CK)} {sz : Nat} {xs : List (List AV)} {id lo n : Nat} {X : Value} (hm : MemOk H γ m w) (hid : m[id]? = some (.row T ro sh sz xs)) (hx : VR γ (.sl sy id lo n) X)
    (hln : lo + n ≤ xs.length) : Src P γ w sz X n ((xs.drop lo).take n) ∧ Shaped sh sz ((xs.drop lo).take n) := by
  obtain ⟨hsp, hX, hent⟩ := hm.ent id _ hid
  refine ⟨?_, fun ks e => ⟨(hX ks e).1, fun x hx => (hX ks e).2 x (List.mem_of_mem_drop (List.mem_of_mem_take hx))⟩⟩
  have hn : ((xs.drop lo).take n).length = n := by simp; omega
  obtain ⟨g, ao, hg, rfl, hcap, hao, _⟩ | ⟨_, rfl, rfl, a, rfl, _⟩ := hx
  case inr => simpa using src_zero a
  obtain ⟨_, _, hno⟩ | ⟨g', pre, vs, rest, fr, hg', hsz, hpos, hpre, hl, hall, hone, hw, hfr, hfit⟩ := hent
  · rw [hno] at hg; cases hg
  rw [hg] at hg'; cases hg'
  have hall' : ∀ x ∈ (xs.drop lo).take n, x.length = sz := fun x hx => hall x (List.mem_of_mem_drop (List.mem_of_mem_take hx))
  rcases Nat.eq_zero_or_pos n with h0 | h0
  · subst h0
    exact ⟨fun w => by simp [Builtin.lenOf], ⟨[], by simp, by simp; rfl, by simp, fun w' _ => by simp [Builtin.firstCells, loadCells, loadCellsFrom]⟩, hall', hn⟩
  · have hao := hao (by omega)
    have hlen : lo + n ≤ xs.length := by simp only [List.length_take, List.length_drop] at hn; omega
    have hsplit : xs = xs.take lo ++ ((xs.drop lo).take n ++ (xs.drop lo).drop n) := by rw [List.take_append_drop, List.take_append_drop]
    have hfl : xs.flatten = (xs.take lo).flatten ++ ((xs.drop lo).take n).flatten ++ ((xs.drop lo).drop n).flatten := by
      conv => lhs; rw [hsplit]
      simp
    rw [hfl] at hl
    obtain ⟨A, M, B, rfl, hA, hM, hB⟩ := LR.mid hl
    have hAl : A.length = lo * sz := by
      rw [hA.length, flat_length fun x hx => hall x (List.mem_of_mem_take hx)]
      congr 1; simp; omega
    have hMl : M.length = n * sz := by rw [hM.length, flat_length hall', hn]
    refine ⟨fun w => by simp [Builtin.lenOf], ⟨M, hMl, hM, fun u hu => hone u (by simp [hu]), fun w' hh => ?_⟩, hall', hn⟩
    refine run_firstCells_some (P := P) w' sz n ⟨g.b, ao, none⟩ n (g.cap - lo) M hMl (fun j u hj => ?_)
    have hw2 : w'.heap[g.b]? = some (.cells (pre ++ (A ++ M ++ B) ++ rest).toArray T fr) := by rw [hh]; exact hw
    rw [addr_add, cell_of_row w' g.b _ _ T fr hw2]
    have hjl : j < M.length := (List.getElem?_eq_some_iff.1 hj).1
    simp only [List.getElem?_toArray, List.append_assoc]
    rw [hsz] at hao
    rw [List.getElem?_append_right (by omega), List.getElem?_append_right (by omega), List.getElem?_append_left (by omega), show ao + j - pre.length - A.length = j by omega]
    exact hj

theorem shaped_bytes (b : ByteArray) : Shaped (some [.i .u8]) 1 (bytesRow b) := fun ks e => by
  cases e
  refine ⟨rfl, fun x hx => ?_⟩
  obtain ⟨c, _, rfl⟩ := List.mem_map.1 hx
  rfl

theorem src_str {b : ByteArray} : Src P γ w 1 (.string b) b.size (bytesRow b) := by
  unfold bytesRow
  refine ⟨fun w => by simp [Builtin.lenOf], ⟨b.data.toList.map fun c => Value.int .u8 (c.toNat : Int), by simp, ?_, ?_, fun w' _ => ?_⟩, ?_, by simp⟩
  · generalize b.data.toList = l
    induction l with
    | nil => exact rfl
    | cons c l ih => exact ⟨_, _, rfl, rfl, ih⟩
  · intro u hu
    obtain ⟨c, _, rfl⟩ := List.mem_map.1 hu
    rfl
  · have he : b.extract 0 b.size = b := by simp
    simp only [Builtin.firstCells, he, Sem.run_pure]
    congr 1
    apply Array.toList_inj.1
    simp
  · intro x hx
    obtain ⟨c, _, rfl⟩ := List.mem_map.1 hx
    rfl

theorem xappendOp_spec {t t' ty : TypeId} {s x v : AV} {st st' : List Ch} {o : Obs} {m' : Mem} {S X : Value} (h : xappendOp P t s x m st = some (v, m', st', o)) (ho : ∀ q ∈ o, q) (hs : VR γ s S) (hx : VR γ x X) (hm : MemOk H γ m w) (hH : m'.length ≤ H) (ht' : notInt P t' = true) :
    ∃ γ' w' V, (Builtin.append_ #[t, t'] ty #[S, X]).run P w = .ok V w' ∧ VR γ' v V ∧ MemOk H γ' m' w' ∧ SF γ m w γ' m' w' := by
  unfold xappendOp at h
  cases hu : P.underlying t with
  | none => rw [hu] at h; simp at h
  | some d =>
    rw [hu] at h
    cases d with
    | slice e =>
      simp only at h
      cases hi : P.info? e with
      | none => rw [hi] at h; simp at h
      | some i =>
        rw [hi] at h
        simp only at h
        obtain ⟨hb, h1⟩ := bif_some h
        clear h
        simp only [Bool.and_eq_true] at hb
        obtain ⟨⟨hb1, hb2⟩, hb3⟩ := hb
        have hpos := blt_pos hb1
        have hbpos := blt_pos hb2
        cases hz : zeroT P e with
        | none => rw [hz] at hb3; simp at hb3
        | some z =>
          rw [hz] at hb3; simp only at hb3
          have hzl := Nat.eq_of_beq_eq_true hb3
          rw [len_eq] at hzl
          cases x with
          | nils => cases hx; exact xappendN_spec h1 ho hs hm hH (src_zero none) shaped_none hu hi hz hzl ht' rfl rfl hpos hbpos
          | emp => obtain ⟨a, rfl⟩ := hx; exact xappendN_spec h1 ho hs hm hH (src_zero a) shaped_none hu hi hz hzl ht' rfl rfl hpos hbpos
          | sl sy id lo n =>
            simp only at h1
            rw [nth_eq] at h1
            split at h1
            · rename_i T ro sh sz xs hid
              obtain ⟨hbs, h2⟩ := bif_some h1
              clear h1
              simp only [Bool.and_eq_true] at hbs
              have hbs := Nat.eq_of_beq_eq_true hbs.1
              subst hbs
              split at h2
              · rename_i o1 hn
                split at h2
                · rename_i v1 m1 st1 o2 hap
                  simp at h2; obtain ⟨rfl, rfl, rfl, rfl⟩ := h2
                  have hlen := need_spec hn (fun q hq => ho q (by simp [hq]))
                  obtain ⟨hs1, hs2⟩ := src_row (P := P) hm hid hx hlen
                  exact xappendN_spec hap (fun q hq => ho q (by simp [hq])) hs hm hH hs1 hs2 hu hi hz hzl ht' rfl rfl hpos hbpos
                · simp at h2
              · simp at h2
            · simp at h1
          | str s b =>
            cases hx
            simp only at h1
            obtain ⟨hbs, h2⟩ := bif_some h1
            have hbs := Nat.eq_of_beq_eq_true hbs
            exact xappendN_spec h2 ho hs hm hH (by rw [hbs]; exact src_str) (by rw [hbs]; exact shaped_bytes b) hu hi hz hzl ht' rfl rfl hpos hbpos
          | _ => simp at h1
    | _ => simp at h

/-- registers and a frame's slots. -/
structure RO (γ : Gm) (N : Nat) (r : Regs) (a : Act) : Prop where
  defers : a.defers = []
  size : a.tmps.size = N
  get : ∀ t v, get r t = some v → ∃ V, a.tmps[t]? = some V ∧ VR γ v V

theorem RO.mono {γ γ' : Gm} {N : Nat} {r : Regs} {a : Act} (h : RO γ N r a) (hle : γ.le γ') : RO γ' N r a :=
  ⟨h.defers, h.size, fun t v hv => let ⟨V, h1, h2⟩ := h.get t v hv; ⟨V, h1, h2.mono hle⟩⟩

theorem ev_spec {N : Nat} {r : Regs} {a : Act} {x : Operand} {v : AV} (h : ev r x = some v) (hr : RO γ N r a) : VR γ v (a.eval x) := by
  cases x with
  | tmp t =>
    obtain ⟨V, h1, h2⟩ := hr.get t v h
    simp only [Act.eval, Array.getD_eq_getD_getElem?, h1, Option.getD_some]; exact h2
  | const c => exact ofV_spec γ h
  | func f => simp [ev] at h; subst h; exact ⟨[], [], rfl, rfl, rfl⟩
  | global g => simp [ev] at h

theorem evs_spec {N : Nat} {r : Regs} {a : Act} (hr : RO γ N r a) : ∀ {xs : List Operand} {l : List AV}, evs r xs = some l → LR γ l (xs.map a.eval)
  | [], l, h => by simp [evs] at h; subst h; rfl
  | x :: xs, l, h => by
    simp only [evs] at h
    cases h1 : ev r x with
    | none => rw [h1] at h; simp at h
    | some v =>
      cases h2 : evs r xs with
      | none => rw [h1, h2] at h; simp at h
      | some l' => rw [h1, h2] at h; simp at h; subst h; exact ⟨_, _, rfl, ev_spec h1 hr, evs_spec hr h2⟩

theorem evParts_spec {N : Nat} {r : Regs} {a : Act} (hr : RO γ N r a) : ∀ {xs : List (Nat × Operand)} {l : List (Nat × AV)}, evParts r xs = some l → PR γ l (xs.map fun (i, x) => (i, a.eval x))
  | [], l, h => by simp [evParts] at h; subst h; rfl
  | (i, x) :: xs, l, h => by
    simp only [evParts] at h
    cases h1 : ev r x with
    | none => rw [h1] at h; simp at h
    | some v =>
      cases h2 : evParts r xs with
      | none => rw [h1, h2] at h; simp at h
      | some l' => rw [h1, h2] at h; simp at h; subst h; exact ⟨_, _, rfl, ev_spec h1 hr, evParts_spec hr h2⟩

theorem evO_spec {N : Nat} {r : Regs} {a : Act} {x : Option Operand} {v : Option AV} (h : evO r x = some v) (hr : RO γ N r a) : BR γ v (x.map a.eval) := by
  cases x with
  | none => simp [evO] at h; subst h; rfl
  | some x =>
    simp only [evO] at h
    cases h1 : ev r x with
    | none => rw [h1] at h; simp at h
    | some y => rw [h1] at h; simp at h; subst h; exact ⟨_, rfl, ev_spec h1 hr⟩

/-- What an operation that is no call of a Go function comes to. -/
def Fine (P : Program) (H : Nat) (x : Oper) (a : Act) (w : World) (γ : Gm) (m : Mem) (v : AV) (m' : Mem) : Prop :=
  ∃ γ' w' N V, (execOp a.eval x).run P w = .ok N w' ∧ (N = .value V ∨ (N = .skip ∧ V = undef)) ∧ VR γ' v V ∧ MemOk H γ' m' w' ∧ SF γ m w γ' m' w'

theorem fine_same {x : Oper} {a : Act} {v : AV} {V : Value} (hm : MemOk H γ m w) (h : (execOp a.eval x).run P w = .ok (.value V) w) (hv : VR γ v V) : Fine P H x a w γ m v m :=
  ⟨γ, w, _, V, h, .inl rfl, hv, hm, SF.refl _ _ _⟩

theorem pure'_some {v : Option AV} {m m' : Mem} {st st' : List Ch} {u : AV} {o : Obs} (h : pure' v m st = some (u, m', st', o)) : v = some u ∧ m' = m := by
  unfold pure' at h
  cases v with
  | none => simp at h
  | some v => simp at h; exact ⟨by rw [h.1], h.2.1.symm⟩

theorem same'_some {v : Option (AV × List Ch × Obs)} {m m' : Mem} {st' : List Ch} {u : AV} {o : Obs} (h : same' v m = some (u, m', st', o)) : v = some (u, st', o) ∧ m' = m := by
  unfold same' at h
  cases v with
  | none => simp at h
  | some v => obtain ⟨a, b, c⟩ := v; simp at h; obtain ⟨rfl, rfl, rfl, rfl⟩ := h; exact ⟨rfl, rfl⟩
end
end Go.XM

namespace Go.XM
open Go
section
variable {P : Program} {H : Nat} {γ : Gm} {m : Mem} {w : World}

theorem shape_cells {b : Nat} {cs : Array Value} {T : TypeId} {fr : Nat × Nat} (hw : w.heap[b]? = some (.cells cs T fr)) : w.shape? b = some (T, cs.size) := by simp [World.shape?, hw]

theorem xunsafe_spec {src dst : TypeId} {x v : AV} {X : Value} (h : xunsafe P src dst x m = some v) (hx : VR γ x X) (hm : MemOk H γ m w) : (convert src dst X).run P w = .ok X w ∧ VR γ v X := by
  unfold xunsafe at h
  split at h
  · rename_i t id off hs hd
    rw [nth_eq] at h
    split at h
    · rename_i T cs n hid hn
      obtain ⟨hb, h⟩ := bif_some h
      simp only [Option.some.injEq] at h; subst h
      simp only [Bool.and_eq_true] at hb
      have h0 := Nat.blt_eq.mp hb.1
      have h1 := Nat.blt_eq.mp hb.2
      rw [len_eq] at h1
      obtain ⟨g, vs, hg, ho, hl, hw⟩ := hm.ent id _ hid
      obtain ⟨g', hg', rfl⟩ := hx
      rw [hg] at hg'; cases hg'
      obtain ⟨j, hj, rfl⟩ := sizeT_spec hn
      exact ⟨Lib.run_to_unsafe w _ hs hd hj (by omega) (shape_cells hw) (by show g.off + off < _; rw [ho]; simp [hl.length]; omega), ⟨g, hg, rfl⟩⟩
    · simp at h
  · rename_i u id off hs hd
    rw [nth_eq] at h
    split at h
    · rename_i T cs n hid hn
      obtain ⟨hb, h⟩ := bif_some h
      simp only [Option.some.injEq] at h; subst h
      obtain ⟨g, vs, hg, ho, hl, hw⟩ := hm.ent id _ hid
      obtain ⟨g', hg', rfl⟩ := hx
      rw [hg] at hg'; cases hg'
      obtain ⟨j, hj, rfl⟩ := sizeT_spec hn
      refine ⟨Lib.run_from_unsafe w _ hs hd hj (shape_cells hw) ?_, ⟨g, hg, rfl⟩⟩
      show liesAt P P.depth T (vs.toArray.size / P.cellsOf T) (g.off + off) u 1 = true
      rw [ho, Nat.zero_add, List.size_toArray, hl.length, ← len_eq]
      exact hb
    · simp at h
  · simp at h

/-- n bytes from a place of a row of bytes on. -/
theorem liesAt_off {e : TypeId} (hc : P.cellsOf e = 1) (count off n : Nat) (hn : off + n ≤ count) : liesAt P P.depth e count off e n = true := by
  have hd : P.depth = (2 * (P.types.size + Made.depth) + 1) + 1 := rfl
  rw [hd]
  simp only [liesAt, Bool.or_eq_true]
  left
  rw [hd]
  simp [rowAt, hc, hn, sameLayout, Nat.mod_one]

theorem run_unsafeString_at {pt it ty e : TypeId} (hp : P.underlying pt = some (.pointer e)) (hc : P.cellsOf e = 1) (g off cells : Nat) (hsh : w.shape? g = some (e, cells)) (l : List UInt8) (h0 : l ≠ []) (hn : off + l.length ≤ cells) (h63 : l.length ≤ 9223372036854775807)
    (hcell : ∀ j x, l[j]? = some x → w.cell? ((⟨g, off, none⟩ : Addr).add j) = some (.int .u8 x.toNat)) :
    (Builtin.unsafeString_ #[pt, it] ty #[.pointer (some ⟨g, off, none⟩), .int .i64 l.length]).run P w = .ok (.string ⟨l.toArray⟩) (w.freeze ⟨g, off, none⟩ l.length) := by
  have hl : l.length ≠ 0 := by simpa using h0
  have hlb := Lib.run_loadBytes (P := P) w l ⟨g, off, none⟩ .empty hcell
  have hlies := liesAt_off (P := P) hc (cells / P.cellsOf e) off l.length (by rw [hc]; simpa using hn)
  have h63' : ¬ (9223372036854775807 : Int) < (l.length : Int) := by omega
  have hdef : ∃ e1 e2 e3, Builtin.unsafeString_ #[pt, it] ty #[.pointer (some ⟨g, off, none⟩), .int .i64 l.length] =
      (do
        let n ← asInt (.int .i64 l.length)
        if n < 0 then runtimePanic e1
        if n > IntKind.i64.max then unsupported e2
        if n = 0 then pure (.string .empty)
        else if ← variablesAt ⟨g, off, none⟩ (← elemOf pt) n.toNat then do
          let s ← loadBytes ⟨g, off, none⟩ .empty n.toNat
          freeze ⟨g, off, none⟩ n.toNat
          pure (.string s)
        else unsupported e3) := ⟨_, _, _, rfl⟩
  obtain ⟨e1, e2, e3, hdef⟩ := hdef
  rw [hdef]
  have hmax : IntKind.i64.max = 9223372036854775807 := rfl
  have hneg : ¬ (l.length : Int) < 0 := by omega
  simp [asInt, asIntOf, hmax, h63', hneg, hl, variablesAt, hsh, elemOf, run_underlying hp, hlies, hlb]

theorem bytes_LR {γ : Gm} : ∀ (l : List UInt8) {V : List Value}, LR γ (l.map fun c => [AV.int true .u8 (c.toNat : Int)]).flatten V → V = l.map fun c => Value.int .u8 (c.toNat : Int)
  | [], V, h => h
  | c :: l, V, h => by
    obtain ⟨v, t, e, h1, h2⟩ := h
    cases h1
    rw [e, bytes_LR l h2]; rfl

theorem freeze_heap {w : World} {g off n : Nat} {cs : Array Value} {T : TypeId} {fr : Nat × Nat} (hn : n ≠ 0) (hw : w.heap[g]? = some (.cells cs T fr)) : ∃ fr', (w.freeze ⟨g, off, none⟩ n).heap[g]? = some (.cells cs T fr') := by
  unfold World.freeze
  rw [if_neg hn]
  simp only [Array.getElem?_modify, if_true, hw]
  exact ⟨_, rfl⟩
theorem freeze_other {w : World} {g off n k : Nat} (hk : k ≠ g) : (w.freeze ⟨g, off, none⟩ n).heap[k]? = w.heap[k]? := by
  unfold World.freeze
  split
  · rfl
  · simp only [Array.getElem?_modify]
    rw [if_neg (fun h => hk h.symm)]
theorem freeze_size (w : World) (a : Addr) (n : Nat) : (w.freeze a n).heap.size = w.heap.size := by
  unfold World.freeze
  split <;> simp

/-- an entry goes on as one that is not written. -/
theorem MemOk.toRo {H : Nat} {γ : Gm} {m : Mem} {w w' : World} (hm : MemOk H γ m w) {id : Nat} {e e' : Ent} {g : G} (hid : m[id]? = some e) (hl : e.live = true) (hg : γ id = some g) (hro : e'.rw = false)
    (hrw : e.rw = true ∨ w' = w)
    (hsz : w'.heap.size = w.heap.size) (hold : ∀ k, k ≠ g.b → w'.heap[k]? = w.heap[k]?) (hos : w'.os = w.os) (htp : w'.tape = w.tape) (hout : w'.output = w.output)
    (he : EntOk γ w' id e') : MemOk H γ (m.set id e') w' ∧ SF γ m w γ (m.set id e') w' := by
  have hlt : id < m.length := (List.getElem?_eq_some_iff.1 hid).1
  have hlook : ∀ k x, (m.set id e')[k]? = some x → (k = id ∧ x = e') ∨ (k ≠ id ∧ m[k]? = some x) := fun k x h => by
    rw [List.getElem?_set] at h
    by_cases hk : id = k
    · subst hk; rw [if_pos rfl, if_pos hlt] at h; cases h; exact .inl ⟨rfl, rfl⟩
    · rw [if_neg hk] at h; exact .inr ⟨fun e => hk e.symm, h⟩
  have hlive : ∀ {x : Ent}, x.rw = true → x.live = true := fun {x} h => by cases x <;> simp_all [Ent.rw, Ent.live]
  refine ⟨⟨?_, ?_, ?_⟩, ⟨Gm.le_refl _, hos, htp, hout, by omega, ?_, ?_, ?_, by simp, fun _ _ => rfl⟩⟩
  · intro k x h
    rcases hlook k x h with ⟨rfl, rfl⟩ | ⟨hk, h⟩
    · exact he
    · cases hx : x.live with
      | false => cases x <;> simp [Ent.live] at hx; trivial
      | true =>
        rcases hrw with hrw | rfl
        · exact (hm.ent k x h).of_heap fun g' hg' => hold _ (fun hb => hm.sep id k e x g g' (fun e => hk e.symm) hid h hrw hx hg hg' hb.symm)
        · exact hm.ent k x h
  · intro k g' h; have := hm.dom k g' h; exact ⟨by simpa using this.1, by omega⟩
  · intro i j ei ej gi gj hij hi hj h1 h2 hgi hgj
    rcases hlook i ei hi with ⟨rfl, rfl⟩ | ⟨_, hi'⟩
    · rw [hro] at h1; cases h1
    · rcases hlook j ej hj with ⟨rfl, rfl⟩ | ⟨_, hj'⟩
      · rw [hg] at hgj; cases hgj
        exact hm.sep i _ ei e gi g hij hi' hid h1 hl hgi hg
      · exact hm.sep i j ei ej gi gj hij hi' hj' h1 h2 hgi hgj
  · intro k hk hf
    rcases hrw with hrw | rfl
    · exact hold k fun hb => hf ⟨id, e, g, hid, hrw, hg, hb.symm⟩
    · rfl
  · intro b hb
    obtain ⟨k, x, g', hk, hx, hg', rfl⟩ := hb
    rcases hlook k x hk with ⟨rfl, rfl⟩ | ⟨_, hk⟩
    · rw [hro] at hx; cases hx
    · exact .inl ⟨k, x, g', hk, hx, hg', rfl⟩
  · intro b hb
    obtain ⟨k, x, g', hk, hx, hg', rfl⟩ := hb
    rcases hlook k x hk with ⟨rfl, rfl⟩ | ⟨_, hk⟩
    · rw [hg] at hg'; cases hg'; exact .inl ⟨_, e, g, hid, hl, hg, rfl⟩
    · exact .inl ⟨k, x, g', hk, hx, hg', rfl⟩

theorem xsliceData_spec {ty : TypeId} {x v : AV} {st st' : List Ch} {o : Obs} {m' : Mem} {X : Value} {ts : Array TypeId} (h : xsliceData P ty x m st = some (v, m', st', o)) (hx : VR γ x X) (hm : MemOk H γ m w) :
    ∃ w' V, (Builtin.unsafeSliceData_ ts ty #[X]).run P w = .ok V w' ∧ VR γ v V ∧ MemOk H γ m' w' ∧ SF γ m w γ m' w' := by
  have real : ∀ (g : G) (ao len lo : Nat) (id : Nat) (T : TypeId) (ro : Bool) (sh : Option (List CK)) (sz : Nat) (xs : List (List AV)) (d : TypeId), m[id]? = some (.row T ro sh sz xs) → P.underlying ty = some (.pointer d) → γ id = some g → lo + len ≤ g.cap → lo = 0 → (lo = 0 ∨ lo < g.cap → ao = g.off + lo * g.sz) →
      ∃ w' V, (Builtin.unsafeSliceData_ ts ty #[.slice (some ⟨g.b, ao, none⟩) len (g.cap - lo)]).run P w = .ok V w' ∧ VR γ (.dptr id len) V ∧ MemOk H γ m w' ∧ SF γ m w γ m w' := by
    intro g ao len lo id T ro sh sz xs d hid hd hg hc hlo hao
    subst hlo
    have hao := hao (.inl rfl)
    simp only [Nat.zero_mul, Nat.add_zero, Nat.sub_zero, Nat.zero_add] at hao hc ⊢
    subst hao
    rcases Nat.eq_zero_or_pos g.cap with h0 | h0
    · have hl : len = 0 := by omega
      subst hl
      rw [h0]
      obtain ⟨_, _, ⟨_, _, hno⟩ | ⟨g', pre, vs, rest, fr, hg', _, _, _, _, _, _, hw, _⟩⟩ := hm.ent id _ hid
      · rw [hno] at hg; cases hg
      rw [hg] at hg'; cases hg'
      have hr := Lib.run_unsafeSliceData_zero (P := P) w ts ty d hd ⟨g.b, g.off, none⟩ 0 _ (shape_cells hw)
      obtain ⟨hm', hf⟩ := hm.beside (w' := w.alloc (.view ⟨g.b, g.off, none⟩ d)) (.view ⟨g.b, g.off, none⟩ d) rfl rfl rfl rfl
      exact ⟨_, _, hr, ⟨_, rfl, .inl rfl⟩, hm', hf⟩
    · exact ⟨w, _, Lib.run_unsafeSliceData_row (P := P) w ts ty ⟨g.b, g.off, none⟩ len g.cap (by omega), ⟨_, rfl, .inr ⟨g, hg, rfl⟩⟩, hm, SF.refl _ _ _⟩
  unfold xsliceData at h
  split at h
  · rename_i id lo len
    rw [nth_eq] at h
    split at h
    · rename_i T ro sh sz xs d hid hd
      simp only [Option.some.injEq, Prod.mk.injEq] at h
      obtain ⟨rfl, rfl, _, _⟩ := h
      rcases hx with ⟨g, ao, hg, rfl, hc, hao, hn0⟩ | ⟨_, _, rfl, a, rfl, ha⟩
      · exact real g ao len lo id T ro sh sz xs d hid hd hg hc (hn0 rfl) hao
      · obtain rfl := ha rfl
        exact ⟨w, _, Lib.run_unsafeSliceData_nil (P := P) w ts ty 0 0, ⟨_, rfl, .inl rfl⟩, hm, SF.refl _ _ _⟩
    · simp at h
  · rename_i id lo len
    rw [nth_eq] at h
    split at h
    · rename_i T ro sh sz xs d hid hd
      split at h
      · simp only [Option.some.injEq, Prod.mk.injEq] at h
        obtain ⟨rfl, rfl, _, _⟩ := h
        rcases hx with ⟨g, ao, hg, rfl, hc, hao, _⟩ | ⟨hs, _⟩
        · exact real g ao len 0 id T ro sh sz xs d hid hd hg hc rfl hao
        · simp [SK.sym] at hs
      · simp at h
    · simp at h
  · simp only [Option.some.injEq, Prod.mk.injEq] at h
    obtain ⟨rfl, rfl, _, _⟩ := h
    cases hx
    exact ⟨w, _, Lib.run_unsafeSliceData_nil (P := P) w ts ty 0 0, rfl, hm, SF.refl _ _ _⟩
  · simp at h

theorem xunsafeString_spec {pt it ty : TypeId} {p v : AV} {n : Int} {st st' : List Ch} {o : Obs} {m' : Mem} {X : Value} (h : xunsafeString P pt p n m st = some (v, m', st', o)) (ho : ∀ q ∈ o, q) (hx : VR γ p X) (hm : MemOk H γ m w) :
    ∃ w' V, (Builtin.unsafeString_ #[pt, it] ty #[X, .int .i64 n]).run P w = .ok V w' ∧ VR γ v V ∧ MemOk H γ m' w' ∧ SF γ m w γ m' w' := by
  unfold xunsafeString at h
  split at h
  · split at h
    · rename_i h0
      have h0 := of_decide_eq_true h0
      subst h0
      simp only [Option.some.injEq, Prod.mk.injEq] at h
      obtain ⟨rfl, rfl, _, _⟩ := h
      cases hx
      exact ⟨w, _, Lib.run_unsafeString_none (P := P) w pt it ty none, rfl, hm, SF.refl _ _ _⟩
    · simp at h
  · rename_i id len
    rw [nth_eq] at h
    split at h
    · rename_i T ks sz xs e hid he
      obtain ⟨hb, h⟩ := bif_some h
      simp only [Bool.and_eq_true] at hb
      simp only [Option.some.injEq, Prod.mk.injEq] at h
      obtain ⟨rfl, rfl, _, rfl⟩ := h
      have hks := cksEq_spec hb.1.1.1; subst hks
      have hsz := Nat.eq_of_beq_eq_true hb.1.1.2; subst hsz
      have hT := Nat.eq_of_beq_eq_true hb.1.2; subst hT
      have hc := Nat.eq_of_beq_eq_true hb.2
      have f1 : n = (len : Int) := ho (.fact _) (by simp)
      have f2 : xs.length = len := ho (.fact _) (by simp)
      have f3 : xs = bytesRow (rowStr xs) := ho (.fact _) (by simp)
      have f4 : (len : Int) ≤ 70368744177664 := ho (.fact _) (by simp)
      subst f1
      rw [upd_eq]
      obtain ⟨hsp, hcan, hent⟩ := hm.ent id _ hid
      obtain ⟨pp, rfl, hpp⟩ := hx
      rcases Nat.eq_zero_or_pos len with h0 | h0
      · subst h0
        have hxs : xs = [] := List.eq_nil_of_length_eq_zero f2
        subst hxs
        have hr := Lib.run_unsafeString_none (P := P) w pt it ty pp
        have hv : VR γ (.str true (rowStr [])) (.string .empty) := rfl
        rcases hent with ⟨h1, h2, h3⟩ | ⟨g, hg⟩
        · have hm' : MemOk H γ (m.set id (.row T true (some [.i .u8]) 1 [])) w ∧ SF γ m w γ (m.set id (.row T true (some [.i .u8]) 1 [])) w := by
            have hlt : id < m.length := (List.getElem?_eq_some_iff.1 hid).1
            have hlook : ∀ k x, (m.set id (.row T true (some [.i .u8]) 1 []))[k]? = some x → (k = id ∧ x = .row T true (some [.i .u8]) 1 []) ∨ (k ≠ id ∧ m[k]? = some x) := fun k x h => by
              rw [List.getElem?_set] at h
              by_cases hk : id = k
              · subst hk; rw [if_pos rfl, if_pos hlt] at h; cases h; exact .inl ⟨rfl, rfl⟩
              · rw [if_neg hk] at h; exact .inr ⟨fun e => hk e.symm, h⟩
            refine ⟨⟨fun k x hk => ?_, fun k g hg => by have := hm.dom k g hg; exact ⟨by simpa using this.1, this.2⟩, fun i j ei ej gi gj hij hi hj q1 q2 hgi hgj => ?_⟩, ⟨Gm.le_refl _, rfl, rfl, rfl, Nat.le_refl _, fun _ _ _ => rfl, ?_, ?_, by simp, fun _ _ => rfl⟩⟩
            · rcases hlook k x hk with ⟨rfl, rfl⟩ | ⟨_, hk⟩
              · exact ⟨hsp, hcan, .inl ⟨h1, rfl, h3⟩⟩
              · exact hm.ent k x hk
            · rcases hlook i ei hi with ⟨rfl, rfl⟩ | ⟨_, hi'⟩
              · rw [h3] at hgi; cases hgi
              · rcases hlook j ej hj with ⟨rfl, rfl⟩ | ⟨_, hj'⟩
                · rw [h3] at hgj; cases hgj
                · exact hm.sep i j ei ej gi gj hij hi' hj' q1 q2 hgi hgj
            · rintro b ⟨k, x, g', hk, q1, q2, rfl⟩
              rcases hlook k x hk with ⟨rfl, rfl⟩ | ⟨_, hk⟩
              · rw [h3] at q2; cases q2
              · exact .inl ⟨k, x, g', hk, q1, q2, rfl⟩
            · rintro b ⟨k, x, g', hk, q1, q2, rfl⟩
              rcases hlook k x hk with ⟨rfl, rfl⟩ | ⟨_, hk⟩
              · rw [h3] at q2; cases q2
              · exact .inl ⟨k, x, g', hk, q1, q2, rfl⟩
          exact ⟨w, _, hr, hv, hm'.1, hm'.2⟩
        · obtain ⟨pre, vs, rest, fr, q1, q2, q3, q4, q5, q6, q7, q8, q9, q10⟩ := hg
          obtain ⟨hm', hf⟩ := hm.toRo (w' := w) hid rfl q1 (e' := .row T true (some [.i .u8]) 1 []) rfl (.inr rfl) rfl (fun _ _ => rfl) rfl rfl rfl ⟨hsp, hcan, .inr ⟨g, pre, vs, rest, fr, q1, q2, q3, q4, q5, q6, q7, q8, fun h => by (cases h), q10⟩⟩
          exact ⟨w, _, hr, hv, hm', hf⟩
      · obtain ⟨g, hg, rfl⟩ := hpp.resolve_left (by omega)
        rcases hent with ⟨_, h2, _⟩ | ⟨g', pre, vs, rest, fr, q1, q2, q3, q4, q5, q6, q7, q8, q9, q10⟩
        · rw [h2] at f2; simp at f2; omega
        rw [hg] at q1; cases q1
        have hvs : vs = (rowStr xs).data.toList.map fun c => Value.int .u8 (c.toNat : Int) := bytes_LR _ (by rw [f3] at q5; exact q5)
        have hrl : (rowStr xs).data.toList.length = len := by
          have := congrArg List.length f3
          rw [f2] at this
          simpa [bytesRow] using this.symm
        have hr := run_unsafeString_at (P := P) (w := w) (it := it) (ty := ty) he hc g.b g.off (pre ++ vs ++ rest).toArray.size (shape_cells q8) (rowStr xs).data.toList (fun e => by rw [e] at hrl; simp at hrl; omega) (by
            rw [hrl]
            have : vs.length = len := by rw [hvs]; simpa using hrl
            simp; omega) (by omega) (fun j x hj => by
            rw [addr_add, cell_of_row w g.b _ _ T fr q8]
            have hjl : j < vs.length := by rw [hvs]; simpa using (List.getElem?_eq_some_iff.1 hj).1
            simp only [List.getElem?_toArray, List.append_assoc]
            rw [List.getElem?_append_right (by omega), List.getElem?_append_left (by omega), show g.off + j - pre.length = j by omega, hvs]
            simp [hj])
        rw [hrl] at hr
        obtain ⟨fr', hfr'⟩ := freeze_heap (off := g.off) (n := len) (by omega) q8
        obtain ⟨hm', hf⟩ := hm.toRo (w' := w.freeze ⟨g.b, g.off, none⟩ len) hid rfl hg (e' := .row T true (some [.i .u8]) 1 xs) rfl (.inl rfl) (freeze_size _ _ _) (fun k hk => freeze_other hk) (by unfold World.freeze; split <;> rfl) (by unfold World.freeze; split <;> rfl) (by unfold World.freeze; split <;> rfl)
          ⟨hsp, hcan, .inr ⟨g, pre, vs, rest, fr', hg, q2, q3, q4, q5, q6, q7, hfr', fun h => by (cases h), q10⟩⟩
        exact ⟨_, _, hr, rfl, hm', hf⟩
    · simp at h
  · simp at h

/-- a builtin that writes, or makes memory. -/
theorem xmore_spec {ty : TypeId} {b : Builtin} {ts : List TypeId} {l : List AV} {v : AV} {st st' : List Ch} {o : Obs} {m' : Mem} {L : List Value} (h : xmore P ty b ts l m st = some (v, m', st', o)) (ho : ∀ q ∈ o, q) (hl : LR γ l L) (hm : MemOk H γ m w) (hH : m'.length ≤ H) (cs : Array Bool) :
    ∃ γ' w' V, (builtin b ts.toArray ty cs L.toArray).run P w = .ok (.value V) w' ∧ VR γ' v V ∧ MemOk H γ' m' w' ∧ SF γ m w γ' m' w' := by
  unfold xmore at h
  split at h
  · split at h
    · obtain ⟨X, _, rfl, hx, hn⟩ := hl
      cases hn
      obtain ⟨w', V, h1, h2, h3, h4⟩ := xsliceData_spec (ts := ts.toArray) h hx hm
      exact ⟨γ, w', V, by simp only [builtin, Sem.run_bind]; rw [h1]; rfl, h2, h3, h4⟩
    · simp at h
  · split at h
    · split at h
      · obtain ⟨X, _, rfl, hx, Y, _, rfl, hy, hn⟩ := hl
        cases hn; cases intV hy
        obtain ⟨w', V, h1, h2, h3, h4⟩ := xunsafeString_spec (it := _) (ty := ty) h ho hx hm
        exact ⟨γ, w', V, by simp only [builtin, Sem.run_bind]; rw [h1]; rfl, h2, h3, h4⟩
      · simp at h
    · simp at h
  · simp at h

theorem xmore_len {ty : TypeId} {b : Builtin} {ts : List TypeId} {l : List AV} {v : AV} {st st' : List Ch} {o : Obs} {m' : Mem} (h : xmore P ty b ts l m st = some (v, m', st', o)) : m.length ≤ m'.length := by
  unfold xmore at h
  split at h
  · split at h
    · unfold xsliceData at h
      split at h
      · split at h
        · simp only [Option.some.injEq, Prod.mk.injEq] at h; rw [h.2.1]; exact Nat.le_refl _
        · simp at h
      · split at h
        · split at h
          · simp only [Option.some.injEq, Prod.mk.injEq] at h; rw [h.2.1]; exact Nat.le_refl _
          · simp at h
        · simp at h
      · simp only [Option.some.injEq, Prod.mk.injEq] at h; rw [h.2.1]; exact Nat.le_refl _
      · simp at h
    · simp at h
  · split at h
    · split at h
      · unfold xunsafeString at h
        split at h
        · split at h
          · simp only [Option.some.injEq, Prod.mk.injEq] at h; rw [h.2.1]; exact Nat.le_refl _
          · simp at h
        · split at h
          · obtain ⟨_, h⟩ := bif_some h
            simp only [Option.some.injEq, Prod.mk.injEq] at h; rw [← h.2.1, upd_eq]; simp
          · simp at h
        · simp at h
      · simp at h
    · simp at h
  · simp at h
end
end Go.XM

namespace Go.XM
open Go
section
variable {P : Program} {H : Nat} {γ : Gm} {m : Mem} {w : World}

/-- an operation gives no entry's number back. -/
theorem xappend_len {e : TypeId} {bytes sz : Nat} {s v : AV} {ys : List (List AV)} {n : Nat} {sh' : Option (List CK)} {st st' : List Ch} {o : Obs} {m m' : Mem} (h : xappend e bytes sz s ys n sh' m st = some (v, m', st', o)) : m.length ≤ m'.length := by
  unfold xappend at h
  split at h
  · split at h
    · obtain ⟨_, h⟩ := bif_some h
      split at h
      · simp at h; obtain ⟨_, rfl, _⟩ := h; simp [upd_eq]
      · simp at h
    · simp at h
  · split at h
    · simp at h; obtain ⟨_, rfl, _⟩ := h; simp
    · simp at h
  · split at h
    · simp at h; obtain ⟨_, rfl, _⟩ := h; simp
    · simp at h
  · simp at h

theorem xappendN_len {e : TypeId} {bytes sz : Nat} {s v : AV} {ys : List (List AV)} {n : Nat} {sh' : Option (List CK)} {st st' : List Ch} {o : Obs} {m m' : Mem} (h : xappendN e bytes sz s ys n sh' m st = some (v, m', st', o)) : m.length ≤ m'.length := by
  unfold xappendN at h
  split at h
  · exact xappend_len h
  · split at h
    · obtain ⟨_, h⟩ := bif_some h
      simp at h; obtain ⟨_, rfl, _⟩ := h; exact Nat.le_refl _
    · exact xappend_len h

theorem xappendOp_len {t : TypeId} {s x v : AV} {st st' : List Ch} {o : Obs} {m m' : Mem} (h : xappendOp P t s x m st = some (v, m', st', o)) : m.length ≤ m'.length := by
  unfold xappendOp at h
  split at h
  · split at h
    · obtain ⟨_, h⟩ := bif_some h
      split at h
      · exact xappendN_len h
      · exact xappendN_len h
      · split at h
        · obtain ⟨_, h⟩ := bif_some h
          split at h
          · split at h
            · rename_i hap
              simp at h; obtain ⟨_, rfl, _⟩ := h
              exact xappendN_len hap
            · simp at h
          · simp at h
        · simp at h
      · obtain ⟨_, h⟩ := bif_some h
        exact xappendN_len h
      · simp at h
    · simp at h
  · simp at h

theorem xop_len {ty : TypeId} {op : Op} {r : Regs} {st st' : List Ch} {v : AV} {m m' : Mem} {o : Obs} (h : xop P ty op r m st = some (v, m', st', o)) : m.length ≤ m'.length := by
  have pu : ∀ {x : Option AV}, pure' x m st = some (v, m', st', o) → m.length ≤ m'.length := fun h => by rw [(pure'_some h).2]; exact Nat.le_refl _
  have sa : ∀ {x : Option (AV × List Ch × Obs)}, same' x m = some (v, m', st', o) → m.length ≤ m'.length := fun h => by rw [(same'_some h).2]; exact Nat.le_refl _
  cases op <;> simp only [xop] at h
  case move => exact pu h
  case assign => exact pu h
  case pick =>
    split at h
    · exact pu h
    · exact pu h
    · split at h
      · split at h <;> simp at h; obtain ⟨_, rfl, _⟩ := h; exact Nat.le_refl _
      · split at h <;> simp at h; obtain ⟨_, rfl, _⟩ := h; exact Nat.le_refl _
      · simp at h
    · simp at h
  case alloc => split at h <;> simp at h; obtain ⟨_, rfl, _⟩ := h; simp
  case box =>
    split at h
    · obtain ⟨_, h⟩ := bif_some h; simp at h; obtain ⟨_, rfl, _⟩ := h; simp
    · simp at h
  case build => split at h <;> first | exact pu h | simp at h
  case buildSlice =>
    split at h
    · split at h
      · rename_i hb
        simp at h; obtain ⟨_, rfl, _⟩ := h
        unfold xbuildSlice at hb
        split at hb
        · split at hb
          · obtain ⟨_, hb⟩ := bif_some hb
            split at hb
            · simp at hb; obtain ⟨_, rfl⟩ := hb; simp
            · simp at hb
          · simp at hb
        · simp at hb
      · simp at h
    · simp at h
  case load => split at h <;> first | exact sa h | simp at h
  case store =>
    split at h
    · split at h
      · rename_i hs
        simp at h; obtain ⟨_, rfl, _⟩ := h
        unfold xstore at hs
        split at hs
        · simp at hs
        · obtain ⟨_, hs⟩ := bif_some hs
          split at hs
          · split at hs
            · split at hs
              · simp at hs; obtain ⟨rfl, _⟩ := hs; simp [upd_eq]
              · simp at hs
            · simp at hs
          · split at hs
            · split at hs
              · split at hs
                · split at hs
                  · simp at hs; obtain ⟨rfl, _⟩ := hs; simp [upd_eq]
                  · simp at hs
                · simp at hs
              · simp at hs
            · simp at hs
          · simp at hs
      · simp at h
    · simp at h
  case nilCheck => split at h <;> simp at h <;> (obtain ⟨_, rfl, _⟩ := h; exact Nat.le_refl _)
  case binOp => split at h <;> first | exact sa h | simp at h
  case unOp => split at h <;> first | exact pu h | simp at h
  case convert =>
    split at h
    · split at h
      · simp at h; obtain ⟨_, rfl, _⟩ := h; exact Nat.le_refl _
      · split at h
        · simp at h; obtain ⟨_, rfl, _⟩ := h; exact Nat.le_refl _
        · simp at h
    · simp at h
  case makeInterface =>
    split at h
    · split at h
      · simp at h; obtain ⟨_, rfl, _⟩ := h; exact Nat.le_refl _
      · simp at h
    · simp at h
  case makeFunc => split at h <;> simp at h; obtain ⟨_, rfl, _⟩ := h; exact Nat.le_refl _
  case slice => split at h <;> first | exact sa h | simp at h
  case fieldAddr => split at h <;> first | exact pu h | simp at h
  case field =>
    split at h
    · split at h <;> first | exact pu h | simp at h
    · simp at h
  case indexAddr => split at h <;> first | exact sa h | simp at h
  case index => split at h <;> first | exact sa h | simp at h
  case extract => split at h <;> first | exact pu h | simp at h
  case call =>
    split at h
    · split at h
      · unfold xbuiltin at h
        split at h
        · split at h
          · split at h
            · obtain ⟨_, h⟩ := bif_some h; exact pu h
            · simp at h
          · simp at h
        · exact pu h
        · exact pu h
        · split at h
          · split at h
            · obtain ⟨_, h⟩ := bif_some h; exact xappendOp_len h
            · simp at h
          · simp at h
        · exact xmore_len h
      · simp at h
    · simp at h
  all_goals simp at h

theorem xop_spec {N : Nat} {x : Oper} {r : Regs} {a : Act} {st st' : List Ch} {v : AV} {m' : Mem} {o : Obs} (h : xop P x.type x.op r m st = some (v, m', st', o)) (ho : ∀ q ∈ o, q) (hr : RO γ N r a) (hm : MemOk H γ m w) (hH : m'.length ≤ H) : Fine P H x a w γ m v m' := by
  obtain ⟨dst, op, ty, pos, after, guard⟩ := x
  simp only at h
  cases op with
  | move x =>
    obtain ⟨hq, rfl⟩ := pure'_some h; have h := hq
    exact fine_same hm (by simp [execOp]) (ev_spec h hr)
  | assign x =>
    obtain ⟨hq, rfl⟩ := pure'_some h; have h := hq
    exact fine_same hm (by simp [execOp]) (ev_spec h hr)
  | pick c x y =>
    simp only [xop] at h
    split at h
    · rename_i hc
      obtain ⟨hq, rfl⟩ := pure'_some h; have h := hq
      have hcv : a.eval c = .bool true := ev_spec hc hr
      exact fine_same hm (by simp [execOp, hcv, asBool]) (ev_spec h hr)
    · rename_i hc
      obtain ⟨hq, rfl⟩ := pure'_some h; have h := hq
      have hcv : a.eval c = .bool false := ev_spec hc hr
      exact fine_same hm (by simp [execOp, hcv, asBool]) (ev_spec h hr)
    · rename_i b hc
      have hcv : a.eval c = .bool b := ev_spec hc hr
      split at h
      · split at h
        · rename_i hv
          simp at h; obtain ⟨rfl, rfl, _, rfl⟩ := h
          have hb : b = true := ho (.fact _) (List.mem_singleton.2 rfl)
          exact fine_same hm (by simp [execOp, hcv, asBool, hb]) (ev_spec hv hr)
        · simp at h
      · split at h
        · rename_i hv
          simp at h; obtain ⟨rfl, rfl, _, rfl⟩ := h
          have hb : b = false := ho (.fact _) (List.mem_singleton.2 rfl)
          exact fine_same hm (by simp [execOp, hcv, asBool, hb]) (ev_spec hv hr)
        · simp at h
      · simp at h
    · simp at h
  | alloc t =>
    simp only [xop] at h
    cases hz : zeroT P t with
    | none => rw [hz] at h; simp at h
    | some z =>
      rw [hz] at h; simp at h; obtain ⟨rfl, rfl, _, _⟩ := h
      obtain ⟨Z, hZ, hzr⟩ := zero_run (P := P) hz w
      have hones : ones z.cells = true := by
        unfold zeroT at hz
        cases hi : P.info? t with
        | none => rw [hi] at hz; simp at hz
        | some i =>
          rw [hi] at hz
          cases hzz : i.zero with
          | none => simp [hzz] at hz
          | some Z' => simp only [hzz] at hz; exact ofV_ones hz
      obtain ⟨γ', w', hw, hv, hm', hf⟩ := newVar_spec (P := P) hm (by simpa using hH) hones (hzr γ) t
      rw [len_eq]
      exact ⟨γ', w', _, _, by simp [execOp, Instr.alloc, hZ, hw], .inl rfl, hv, hm', hf⟩
  | box t x =>
    simp only [xop] at h
    cases hx : ev r x with
    | none => rw [hx] at h; simp at h
    | some y =>
      rw [hx] at h; simp only at h
      obtain ⟨hones, h1⟩ := bif_some h
      simp at h1; obtain ⟨rfl, rfl, _, _⟩ := h1
      obtain ⟨γ', w', hw, hv, hm', hf⟩ := newVar_spec (P := P) hm (by simpa using hH) hones (ev_spec hx hr) t
      rw [len_eq]
      exact ⟨γ', w', _, _, by simp [execOp, Instr.box, hw], .inl rfl, hv, hm', hf⟩
  | build t ps =>
    simp only [xop] at h
    cases hp : evParts r ps.toList with
    | none => rw [hp] at h; simp at h
    | some l =>
      rw [hp] at h; simp only at h
      obtain ⟨hq, rfl⟩ := pure'_some h; have h := hq
      have hpr := evParts_spec hr hp
      obtain ⟨V, hV, hv⟩ := xbuild_spec (Ps := ps.map fun (i, x) => (i, a.eval x)) h (by simpa using hpr) w
      exact fine_same hm (by simp only [execOp, Sem.run_bind, hV, Result.andThen_ok, Sem.run_pure]) hv
  | buildSlice t n ps =>
    simp only [xop] at h
    cases hp : evParts r ps.toList with
    | none => rw [hp] at h; simp at h
    | some l =>
      rw [hp] at h; simp only at h
      cases hb : xbuildSlice P t n l m with
      | none => rw [hb] at h; simp at h
      | some q =>
        obtain ⟨v1, m1⟩ := q
        rw [hb] at h; simp at h; obtain ⟨rfl, rfl, _, _⟩ := h
        have hpr := evParts_spec hr hp
        obtain ⟨γ', w', V, hV, hv, hm', hf⟩ := xbuildSlice_spec (Ps := ps.map fun (i, x) => (i, a.eval x)) hb (by simpa using hpr) hm hH
        exact ⟨γ', w', _, V, by simp only [execOp, Sem.run_bind, hV, Result.andThen_ok, Sem.run_pure], .inl rfl, hv, hm', hf⟩
  | load t x =>
    simp only [xop] at h
    cases hx : ev r x with
    | none => rw [hx] at h; simp at h
    | some y =>
      rw [hx] at h; simp only at h
      obtain ⟨hq, rfl⟩ := same'_some h; have h := hq
      obtain ⟨V, hV, hv⟩ := xload_spec h ho (ev_spec hx hr) hm
      exact fine_same hm (by simp [execOp, hV]) hv
  | store t x y =>
    simp only [xop] at h
    cases hx : ev r x with
    | none => rw [hx] at h; simp at h
    | some u =>
      cases hy : ev r y with
      | none => rw [hx, hy] at h; simp at h
      | some z =>
        rw [hx, hy] at h; simp only at h
        cases hs : xstore P t u z m st with
        | none => rw [hs] at h; simp at h
        | some q =>
          obtain ⟨m1, st1, o1⟩ := q
          rw [hs] at h; simp at h; obtain ⟨rfl, rfl, _, rfl⟩ := h
          obtain ⟨w', hw, hm', hf⟩ := xstore_spec hs ho (ev_spec hx hr) (ev_spec hy hr) hm
          exact ⟨γ, w', .skip, undef, by simp [execOp, hw], .inr ⟨rfl, rfl⟩, ⟨[], rfl, rfl⟩, hm', hf⟩
  | nilCheck x =>
    simp only [xop] at h
    split at h
    · rename_i id off hx
      simp at h; obtain ⟨rfl, rfl, _, _⟩ := h
      obtain ⟨g, hg, he⟩ := ev_spec hx hr
      exact fine_same hm (by simp [execOp, he]) ⟨g, hg, rfl⟩
    · rename_i id i j hx
      simp at h; obtain ⟨rfl, rfl, _, _⟩ := h
      obtain ⟨g, hg, he⟩ := ev_spec hx hr
      exact fine_same hm (by simp [execOp, he]) ⟨g, hg, rfl⟩
    · simp at h
  | binOp op t x y ty' =>
    simp only [xop] at h
    cases hx : ev r x with
    | none => rw [hx] at h; simp at h
    | some u =>
      cases hy : ev r y with
      | none => rw [hx, hy] at h; simp at h
      | some z =>
        rw [hx, hy] at h; simp only at h
        obtain ⟨hq, rfl⟩ := same'_some h; have h := hq
        obtain ⟨V, hV, hv⟩ := xbin_spec h ho (ev_spec hx hr) (ev_spec hy hr) x y w
        unfold guarded at hV
        exact fine_same hm (by simp only [execOp]; rw [Sem.run_bind, hV]; rfl) hv
  | unOp op t x =>
    simp only [xop] at h
    cases hx : ev r x with
    | none => rw [hx] at h; simp at h
    | some u =>
      rw [hx] at h; simp only at h
      obtain ⟨hq, rfl⟩ := pure'_some h; have h := hq
      obtain ⟨V, hV, hv⟩ := xun_spec (P := P) h (ev_spec hx hr) w
      exact fine_same hm (by simp [execOp, hV]) hv
  | convert src dst' x =>
    simp only [xop] at h
    cases hx : ev r x with
    | none => rw [hx] at h; simp at h
    | some u =>
      rw [hx] at h; simp only at h
      cases hc : xconvert P src dst' u with
      | none =>
        rw [hc] at h; simp only at h
        cases hc2 : xunsafe P src dst' u m with
        | none => rw [hc2] at h; simp at h
        | some v1 =>
          rw [hc2] at h; simp at h; obtain ⟨rfl, rfl, _, rfl⟩ := h
          obtain ⟨hV, hv⟩ := xunsafe_spec (P := P) hc2 (ev_spec hx hr) hm
          exact fine_same hm (by simp [execOp, hV]) hv
      | some q =>
        obtain ⟨v1, o1⟩ := q
        rw [hc] at h; simp at h; obtain ⟨rfl, rfl, _, rfl⟩ := h
        obtain ⟨V, hV, hv⟩ := xconvert_spec hc ho (ev_spec hx hr) w
        exact fine_same hm (by simp [execOp, hV]) hv
  | makeInterface t x =>
    simp only [xop] at h
    cases hx : ev r x with
    | none => rw [hx] at h; simp at h
    | some u =>
      rw [hx] at h; simp only at h
      split at h
      · rename_i hc
        simp at h; obtain ⟨rfl, rfl, _, _⟩ := h
        have hV : (Instr.makeInterface t (a.eval x)).run P w = .ok (.iface t (a.eval x)) w := run_makeInterface (P := P) w t (a.eval x) hc
        exact fine_same hm (by simp [execOp, hV]) ⟨_, rfl, ev_spec hx hr⟩
      · simp at h
  | makeFunc f first cap =>
    simp only [xop] at h
    cases h1 : evs r first.toList with
    | none => rw [h1] at h; simp at h
    | some l1 =>
      cases h2 : evs r cap.toList with
      | none => rw [h1, h2] at h; simp at h
      | some l2 =>
        rw [h1, h2] at h; simp at h; obtain ⟨rfl, rfl, _, _⟩ := h
        have e1 := evs_spec hr h1
        have e2 := evs_spec hr h2
        exact fine_same hm (V := .func f (first.map a.eval) (cap.map a.eval)) (by simp [execOp, Instr.makeFunc]) ⟨first.toList.map a.eval, cap.toList.map a.eval, by congr 1 <;> (apply Array.toList_inj.1; simp), e1, e2⟩
  | slice t x lo hi mx =>
    simp only [xop] at h
    split at h
    · rename_i y l hh xx h1 h2 h3 h4
      obtain ⟨hq, rfl⟩ := same'_some h; have h := hq
      obtain ⟨V, hV, hv⟩ := xslice_spec h ho (ev_spec h1 hr) (evO_spec h2 hr) (evO_spec h3 hr) (evO_spec h4 hr) hm
      exact fine_same hm (by simp [execOp, hV]) hv
    · simp at h
  | fieldAddr t x i =>
    simp only [xop] at h
    cases hx : ev r x with
    | none => rw [hx] at h; simp at h
    | some u =>
      rw [hx] at h; simp only at h
      obtain ⟨hq, rfl⟩ := pure'_some h; have h := hq
      obtain ⟨V, hV, hv⟩ := xfieldAddr_spec (P := P) h (ev_spec hx hr) w
      exact fine_same hm (by simp [execOp, hV]) hv
  | field t x i =>
    simp only [xop] at h
    split at h
    · rename_i cs fs h1 h2
      rw [nth_eq] at h
      cases hf : fs.toList[i]? with
      | none => rw [hf] at h; simp at h
      | some f =>
        rw [hf] at h; simp only at h
        obtain ⟨hq, rfl⟩ := pure'_some h; have h := hq
        obtain ⟨l, hl, hlr⟩ := ev_spec h1 hr
        obtain ⟨V, hV, hv⟩ := part_spec (P := P) h hlr w
        have hf' : fs[i]? = some f := by simpa using hf
        exact fine_same hm (by simp [execOp, Instr.field, run_underlying h2, hf', hl, asAgg, hV]) hv
    · simp at h
  | indexAddr t x i =>
    simp only [xop] at h
    cases hx : ev r x with
    | none => rw [hx] at h; simp at h
    | some u =>
      cases hy : ev r i with
      | none => rw [hx, hy] at h; simp at h
      | some z =>
        rw [hx, hy] at h; simp only at h
        obtain ⟨hq, rfl⟩ := same'_some h; have h := hq
        obtain ⟨V, hV, hv⟩ := xindexAddr_spec h ho (ev_spec hx hr) (ev_spec hy hr) hm
        exact fine_same hm (by simp [execOp, hV]) hv
  | index t x i =>
    simp only [xop] at h
    cases hx : ev r x with
    | none => rw [hx] at h; simp at h
    | some u =>
      cases hy : ev r i with
      | none => rw [hx, hy] at h; simp at h
      | some z =>
        rw [hx, hy] at h; simp only at h
        obtain ⟨hq, rfl⟩ := same'_some h; have h := hq
        obtain ⟨V, hV, hv⟩ := xindex_spec (P := P) h ho (ev_spec hx hr) (ev_spec hy hr) w
        exact fine_same hm (by simp [execOp, hV]) hv
  | extract x i =>
    simp only [xop] at h
    split at h
    · rename_i vs hx
      obtain ⟨hq, rfl⟩ := pure'_some h; have h := hq
      rw [nth_eq] at h
      obtain ⟨l, hl, hlr⟩ := ev_spec hx hr
      obtain ⟨V, hV, hv⟩ := LR.get hlr h
      exact fine_same hm (by simp [execOp, Instr.extract, hl, hV]) hv
    · simp at h
  | call c =>
    obtain ⟨callee, args, argTypes⟩ := c
    cases callee with
    | builtin b =>
      simp only [xop] at h
      cases hl : evs r args.toList with
      | none => rw [hl] at h; simp at h
      | some l =>
        have hargs := evs_spec hr hl
        have hmap : args.map a.eval = (args.toList.map a.eval).toArray := by apply Array.toList_inj.1; simp
        rw [hl] at h
        simp only at h
        generalize args.toList.map a.eval = L at hargs hmap
        obtain ⟨cs, hrun⟩ : ∃ cs, (execOp a.eval ⟨dst, .call ⟨.builtin b, args, argTypes⟩, ty, pos, after, guard⟩).run P w = (builtin b argTypes ty cs L.toArray).run P w := ⟨_, by
          simp only [execOp, resolve, hmap, Sem.run_bind, Sem.run_pure, Result.andThen_ok, invoke]; rfl⟩
        unfold xbuiltin at h
        have more : ∀ {b' : Builtin}, b' = b → xmore P ty b' argTypes.toList l m st = some (v, m', st', o) → Fine P H ⟨dst, .call ⟨.builtin b, args, argTypes⟩, ty, pos, after, guard⟩ a w γ m v m' := by
          rintro _ rfl h
          obtain ⟨γ', w', V, h1, h2, h3, h4⟩ := xmore_spec h ho hargs hm hH cs
          exact ⟨γ', w', .value V, V, by rw [hrun]; simpa using h1, .inl rfl, h2, h3, h4⟩
        cases b <;> try (exact more rfl h)
        case len =>
          simp only at h
          split at h
          · rename_i x
            split at h
            · rename_i t ht
              obtain ⟨hlt, h1⟩ := bif_some h
              obtain ⟨hq, rfl⟩ := pure'_some h1
              obtain ⟨X, _, rfl, hx, e2⟩ := hargs
              cases e2
              have hat : argTypes = #[t] := by apply Array.toList_inj.1; simpa using ht
              obtain ⟨V, hV, hv⟩ := xlen_spec (P := P) (t := t) (ty := ty) hq hx hlt w
              refine fine_same hm ?_ hv
              rw [hrun, hat]
              simp only [builtin, Sem.run_bind]
              rw [hV]; rfl
            · simp at h
          · simp at h
        case min =>
          obtain ⟨hq, rfl⟩ := pure'_some h
          obtain ⟨V, hV, hv⟩ := minI_spec (P := P) (ts := argTypes) (ty := ty) hq hargs w
          refine fine_same hm ?_ hv
          rw [hrun]
          simp only [builtin, Sem.run_bind]
          rw [hV]; rfl
        case max =>
          obtain ⟨hq, rfl⟩ := pure'_some h
          obtain ⟨V, hV, hv⟩ := maxI_spec (P := P) (ts := argTypes) (ty := ty) hq hargs w
          refine fine_same hm ?_ hv
          rw [hrun]
          simp only [builtin, Sem.run_bind]
          rw [hV]; rfl
        case append =>
          simp only at h
          split at h
          · rename_i s x
            split at h
            · rename_i t t' ht
              obtain ⟨hni, h1⟩ := bif_some h
              obtain ⟨S, _, rfl, hs, X, _, e2, hx, e3⟩ := hargs
              cases e3; subst e2
              have hat : argTypes = #[t, t'] := by apply Array.toList_inj.1; simpa using ht
              obtain ⟨γ', w', V, hV, hv, hm', hf⟩ := xappendOp_spec (ty := ty) h1 ho hs hx hm hH hni
              refine ⟨γ', w', .value V, V, ?_, .inl rfl, hv, hm', hf⟩
              rw [hrun, hat]
              simp only [builtin, Sem.run_bind]
              rw [hV]; rfl
            · simp at h
          · simp at h
    | _ => simp [xop] at h
  | _ => simp [xop] at h
end
end Go.XM

