/- The operations, one by one. -/
import Derived.Test.YtamdjlpobonmiaaDoorShD
namespace Go.Proofs.YtamdjlpobonmiaaDoor
namespace Sh
open Go.RowKit

section
variable {P : Program} {k : Nat} {I I' I'' : Addr → Prop} {ρ ρ' ρ'' : List (Option Nat)} {M M' M'' : List B} {w w' w'' : World}

theorem ofC_ok : ∀ {v : Value}, v.oneCell' = true → CR w I ρ M (ofC v) v
  | .int _ _, _ | .bool _, _ | .string _, _ => rfl
  | .slice none 0 0, _ => rfl
  | .slice none 0 (_ + 1), h | .slice none (_ + 1) _, h | .slice (some _) _ _, h => h
  | .float _ _, h | .complex _ _ _, h | .pointer _, h | .map _, h | .chan _, h | .func _ _ _, h | .nilFunc, h | .iface _ _, h | .nilIface, h => h

theorem opnd_ok {ts : List V} {a : Act} (hT : F2 (VR w I ρ M) ts a.tmps.toList) : ∀ x : Operand, VR w I ρ M (opnd ts x) (a.eval x)
  | .tmp t => by
    have hl : ts.length = a.tmps.size := by rw [F2.length hT]; simp
    simp only [opnd, Act.eval]
    by_cases h : t < ts.length
    · obtain ⟨v, hv, hr⟩ := F2.get hT (List.getElem?_eq_getElem h)
      have h1 : ts.getD t (.tup []) = ts[t] := by simp [List.getD, h]
      have h2 : a.tmps.getD t undef = v := by
        rw [Array.getD_eq_getD_getElem?]
        simp at hv
        rw [hv]; rfl
      rw [h1, h2]; exact hr
    · have h1 : ts.getD t (.tup []) = .tup [] := by simp [List.getD, h]
      have h2 : a.tmps.getD t undef = undef := by
        have h3 : a.tmps.size ≤ t := by rw [← hl]; exact Nat.not_lt.1 h
        rw [Array.getD_eq_getD_getElem?, Array.getElem?_eq_none h3]; rfl
      rw [h1, h2]; exact ⟨#[], rfl, trivial⟩
  | .const v => by
    simp only [opnd, Act.eval]
    cases h : v.oneCell' with
    | false => exact trivial
    | true => exact ofC_ok h
  | .global _ => rfl
  | .func _ => ⟨#[], #[], rfl, trivial, trivial⟩

/-- What an operation leads to. -/
def Leads (P : Program) (o : Oper) (a : Act) (k : Nat) (I : Addr → Prop) (ρ : List (Option Nat)) (M : List B) (w : World) (v : V) (M' : List B) : Prop :=
  ∀ (next : Act → World → Prop) (Q : Exit → Act → World → Prop),
    (∀ w' I' ρ' u, Sat I' ρ' M' w' → VR w' I' ρ' M' v u → Ext k I ρ M w I' ρ' M' w' → next (a.put o.dst u) w') → o.wp P a w next Q

theorem Leads.value {o : Oper} {a : Act} {v : V} {u : Value} (h : (execOp a.eval o).run P w = .ok (.value u) w') (hS : Sat I' ρ' M' w') (hv : VR w' I' ρ' M' v u) (hE : Ext k I ρ M w I' ρ' M' w') :
    Leads P o a k I ρ M w v M' := fun next Q hn => by
  unfold Oper.wp
  rw [h]
  exact hn w' I' ρ' u hS hv hE

theorem Leads.pure {o : Oper} {a : Act} {v : V} {u : Value} (hS : Sat I ρ M w) (h : (execOp a.eval o).run P w = .ok (.value u) w) (hv : VR w I ρ M v u) : Leads P o a k I ρ M w v M :=
  .value h hS hv .refl

theorem Leads.skip {o : Oper} {a : Act} (h : (execOp a.eval o).run P w = .ok .skip w') (hS : Sat I' ρ' M' w') (hE : Ext k I ρ M w I' ρ' M' w') :
    Leads P o a k I ρ M w (.tup []) M' := fun next Q hn => by
  unfold Oper.wp
  rw [h]
  exact hn w' I' ρ' undef hS ⟨#[], rfl, trivial⟩ hE

theorem setAll_set_comm (bs : List B) : ∀ (M : List B) (s j : Nat) (x : B), j < s → setAll (M.set j x) s bs = (setAll M s bs).set j x := by
  induction bs with
  | nil => intro M s j x _; rfl
  | cons b bs ih =>
    intro M s j x h
    simp only [setAll]
    rw [List.set_comm _ _ (by omega), ih _ _ _ _ (by omega)]

theorem zeroC_ok {t : TypeId} {cs : List C} (h : zeroC P t = some cs) : ∃ v, (∀ w, (zeroValue t).run P w = .ok v w) ∧ F2 (CR w I ρ M) cs v.cells.toList ∧ (∃ i, P.info? t = some i ∧ i.zero = some v) := by
  unfold zeroC at h
  cases hi : P.info? t with
  | none => simp [hi] at h
  | some i =>
    cases hz : i.zero with
    | none => simp [hi, hz] at h
    | some v =>
      simp only [hi, hz] at h
      cases ho : v.cells.toList.all Value.oneCell' with
      | false => simp [ho] at h
      | true =>
        simp only [ho, cond_true, Option.some.injEq] at h
        subst h
        refine ⟨v, fun w => by simp [zeroValue, run_typeInfo hi, hz], ?_, i, rfl, hz⟩
        have : ∀ l : List Value, l.all Value.oneCell' = true → F2 (CR w I ρ M) (l.map ofC) l := by
          intro l
          induction l with
          | nil => intro _; trivial
          | cons x l ih => intro h; simp at h; exact ⟨ofC_ok h.1, ih (by simpa using h.2)⟩
        exact this _ ho

/-- The places of a block and of the rows behind it. -/
theorem allocNil {s : Nat} {cs : List C} {es : List Nat} {arr : Array Value} {T : TypeId} (hS : Sat I ρ M w) (hf : F2 (CR w I ρ M) cs arr.toList)
    (hg : ∀ j, j < ((B.var (nilOwn es cs (s + 1)).1) :: (nilOwn es cs (s + 1)).2).length → M[s + j]? = some .gone) :
    ∃ ρ', Sat I ρ' (setAll M s ((B.var (nilOwn es cs (s + 1)).1) :: (nilOwn es cs (s + 1)).2)) (w.alloc (.cells arr T)) ∧
      Ext k I ρ M w I ρ' (setAll M s ((B.var (nilOwn es cs (s + 1)).1) :: (nilOwn es cs (s + 1)).2)) (w.alloc (.cells arr T)) ∧
      CR (w.alloc (.cells arr T)) I ρ' (setAll M s ((B.var (nilOwn es cs (s + 1)).1) :: (nilOwn es cs (s + 1)).2)) (.ptr s 0) (.pointer (some ⟨w.heap.size, 0, none⟩)) := by
  obtain ⟨h1, h2, h3, h4⟩ := nilOwn_ok (k := k) hS es cs arr.toList (s + 1) hf (fun j hj => by
    have := hg (j + 1) (by simpa using hj)
    rwa [show s + 1 + j = s + (j + 1) from by omega])
  have hs : (setAll M (s + 1) (nilOwn es cs (s + 1)).2)[s]? = some .gone := by
    rw [setAll_get _ _ _ _ (by omega)]
    exact hg 0 (by simp)
  obtain ⟨h5, h6, h7⟩ := allocVar (k := k) (T := T) h1 hs h4
  have he : setAll M s ((B.var (nilOwn es cs (s + 1)).1) :: (nilOwn es cs (s + 1)).2) = (setAll M (s + 1) (nilOwn es cs (s + 1)).2).set s (.var (nilOwn es cs (s + 1)).1) := by
    simp only [setAll]
    rw [setAll_set_comm _ _ _ _ _ (by omega)]
  rw [he]
  exact ⟨_, h5, h2.trans h6, h7⟩

theorem core_alloc {o : Oper} {a : Act} {t : TypeId} {cs : List C} {es : List Nat} {s : Nat} (hS : Sat I ρ M w) (ho : o.op = .alloc t) (hz : zeroC P t = some cs)
    (hg : ∀ j, j < ((B.var (nilOwn es cs (s + 1)).1) :: (nilOwn es cs (s + 1)).2).length → M[s + j]? = some .gone) :
    Leads P o a k I ρ M w (.w (.one (.ptr s 0))) (setAll M s ((B.var (nilOwn es cs (s + 1)).1) :: (nilOwn es cs (s + 1)).2)) := by
  obtain ⟨v, h1, h2, _⟩ := zeroC_ok (w := w) (I := I) (ρ := ρ) (M := M) hz
  obtain ⟨ρ', h3, h4, h5⟩ := allocNil (k := k) (T := t) hS h2 hg
  refine .value (u := .pointer (some ⟨w.heap.size, 0, none⟩)) ?_ h3 h5 h4
  simp [execOp, ho, Instr.alloc, h1, newVar, newRow]

theorem core_box {o : Oper} {a : Act} {t : TypeId} {x : Operand} {u : U} {s : Nat} (hS : Sat I ρ M w) (ho : o.op = .box t x) (hx : UR w I ρ M u (a.eval x)) (hg : M[s]? = some .gone) :
    Leads P o a k I ρ M w (.w (.one (.ptr s 0))) (M.set s (.var (ucells u))) := by
  obtain ⟨h5, h6, h7⟩ := allocVar (k := k) (T := t) hS hg (UR.cells hx)
  refine .value (u := .pointer (some ⟨w.heap.size, 0, none⟩)) ?_ h5 h7 h6
  simp [execOp, ho, Instr.box, newVar, newRow]

theorem core_nil {o : Oper} {a : Act} {x : Operand} {e s : Nat} (hS : Sat I ρ M w) (ho : o.op = .move x ∨ o.op = .assign x) (hx : VR w I ρ M (.w (.one (.d .nil))) (a.eval x)) (hg : M[s]? = some .gone) :
    Leads P o a k I ρ M w (.w (.one (.own s 0 e dg))) (M.set s (.tick 0 e)) := by
  have hx' : a.eval x = .slice none 0 0 := hx
  obtain ⟨h1, h2, h3, _⟩ := tick0 (k := k) (e := e) hS hg
  refine .value (u := .slice none 0 0) ?_ h1 h3 h2
  rcases ho with ho | ho <;> simp [execOp, ho, hx']

theorem core_move {o : Oper} {a : Act} {x : Operand} {v : V} (hS : Sat I ρ M w) (ho : o.op = .move x ∨ o.op = .assign x) (hx : VR w I ρ M v (a.eval x)) : Leads P o a k I ρ M w v M := by
  refine .pure hS (u := a.eval x) ?_ hx
  rcases ho with ho | ho <;> simp [execOp, ho]

theorem vb_eq {b : Bool} {v : Value} (h : VR w I ρ M (vb b) v) : v = .bool b := h
theorem vi_eq {n : Int} {v : Value} (h : VR w I ρ M (vi n) v) : v = .int .i64 n := h

theorem core_pick {o : Oper} {a : Act} {c x y : Operand} {b : Bool} {v : V} (hS : Sat I ρ M w) (ho : o.op = .pick c x y) (hc : VR w I ρ M (vb b) (a.eval c)) (hv : VR w I ρ M v (bif b then a.eval x else a.eval y)) :
    Leads P o a k I ρ M w v M := by
  refine .pure hS (u := bif b then a.eval x else a.eval y) ?_ hv
  have := vb_eq hc
  cases b <;> simp [execOp, ho, this, asBool]

/-- Parts. -/
def PartsR (w : World) (I : Addr → Prop) (ρ : List (Option Nat)) (M : List B) : List (Nat × U) → List (Nat × Value) → Prop := F2 fun p q => p.1 = q.1 ∧ UR w I ρ M p.2 q.2

theorem foldl_set (vs : List Value) : ∀ (cells : Array Value) (off n : Nat), off + n + vs.length ≤ cells.size →
    ((vs.zipIdx n).foldl (fun (cs : Array Value) (p : Value × Nat) => cs.setIfInBounds (off + p.2) p.1) cells).toList = setAt cells.toList (off + n) vs := by
  induction vs with
  | nil => intro cells off n _; simp [setAt]
  | cons v vs ih =>
    intro cells off n h
    simp only [List.zipIdx_cons, List.foldl_cons]
    simp only [List.length_cons] at h
    rw [ih _ _ _ (by simp; omega), Array.toList_setIfInBounds, ← Nat.add_assoc, set_setAt _ _ _ _ (by simp; omega)]

theorem fillU_ok {place : Nat → Option (Nat × Nat)} : ∀ (us : List (Nat × U)) (ps : List (Nat × Value)) (cs cs' : List C) (cells : Array Value), PartsR w I ρ M us ps → F2 (CR w I ρ M) cs cells.toList → fillU place us cs = some cs' →
    ∃ cells', Instr.fill place cells ps = some cells' ∧ F2 (CR w I ρ M) cs' cells'.toList := by
  intro us
  induction us with
  | nil =>
    intro ps cs cs' cells hp hc h
    obtain rfl := F2.nil_left hp
    simp [fillU] at h; subst h
    exact ⟨cells, rfl, hc⟩
  | cons u us ih =>
    intro ps cs cs' cells hp hc h
    obtain ⟨q, ps, rfl, ⟨hq1, hq2⟩, hp'⟩ := F2.cons_left hp
    obtain ⟨i, u⟩ := u
    obtain ⟨i', v⟩ := q
    simp only at hq1 hq2
    subst hq1
    simp only [fillU] at h
    cases hpl : place i with
    | none => simp [hpl] at h
    | some x =>
      obtain ⟨off, size⟩ := x
      simp only [hpl] at h
      cases hb : Nat.beq (ucells u).length size && Nat.ble (off + size) cs.length with
      | false => simp [hb] at h
      | true =>
        simp only [hb, cond_true] at h
        simp only [Bool.and_eq_true, Nat.beq_eq, Nat.ble_eq] at hb
        have hcells := UR.cells hq2
        have hl1 := F2.length hcells
        have hl2 := F2.length hc
        have hsz : v.cells.size = size := by rw [← hb.1, hl1]; simp
        have hcs : cells.size = cs.length := by rw [hl2]; simp
        have hbd : ¬ (v.cells.size ≠ size ∨ off + v.cells.size > cells.size) := by omega
        have hset : (v.cells.zipIdx.foldl (fun (cs : Array Value) (p : Value × Nat) => cs.setIfInBounds (off + p.2) p.1) cells).toList = setAt cells.toList off v.cells.toList := by
          rw [← Array.foldl_toList, Array.toList_zipIdx, foldl_set _ _ _ _ (by simp; omega)]
          simp
        obtain ⟨cells', h1, h2⟩ := ih ps (setAt cs off (ucells u)) cs' (v.cells.zipIdx.foldl (fun (cs : Array Value) (p : Value × Nat) => cs.setIfInBounds (off + p.2) p.1) cells) hp' (by rw [hset]; exact F2.setAt off hc hcells) h
        refine ⟨cells', ?_, h2⟩
        simp only [Instr.fill, hpl]
        rw [if_neg (by simpa using hbd)]
        exact h1

theorem partsU_ok {ts : List V} {a : Act} (hT : F2 (VR w I ρ M) ts a.tmps.toList) : ∀ (ps : List (Nat × Operand)) (us : List (Nat × U)), partsU (opnd ts) ps = some us → PartsR w I ρ M us (ps.map fun p => (p.1, a.eval p.2)) := by
  intro ps
  induction ps with
  | nil => intro us h; simp [partsU] at h; subst h; trivial
  | cons p ps ih =>
    intro us h
    obtain ⟨i, x⟩ := p
    simp only [partsU] at h
    have hx := opnd_ok hT x
    cases ho : opnd ts x with
    | w u =>
      cases hr : partsU (opnd ts) ps with
      | none => simp [ho, hr] at h
      | some l =>
        simp [ho, hr] at h; subst h
        rw [ho] at hx
        exact ⟨⟨rfl, hx⟩, ih l hr⟩
    | tup us => simp [ho] at h
    | any => simp [ho] at h

theorem argsU_ok {ts : List V} {a : Act} (hT : F2 (VR w I ρ M) ts a.tmps.toList) : ∀ (ps : List Operand) (us : List U), argsU (opnd ts) ps = some us → F2 (UR w I ρ M) us (ps.map a.eval) := by
  intro ps
  induction ps with
  | nil => intro us h; simp [argsU] at h; subst h; trivial
  | cons x ps ih =>
    intro us h
    simp only [argsU] at h
    have hx := opnd_ok hT x
    cases ho : opnd ts x with
    | w u =>
      cases hr : argsU (opnd ts) ps with
      | none => simp [ho, hr] at h
      | some l =>
        simp [ho, hr] at h; subst h
        rw [ho] at hx
        exact ⟨hx, ih l hr⟩
    | tup us => simp [ho] at h
    | any => simp [ho] at h

theorem ptrsOf_ok {ts : List V} {a : Act} (hT : F2 (VR w I ρ M) ts a.tmps.toList) : ∀ (ps : List Operand) (us : List (Nat × Nat)), ptrsOf (opnd ts) ps = some us → F2 (PtrR ρ M) us (ps.map a.eval) := by
  intro ps
  induction ps with
  | nil => intro us h; simp [ptrsOf] at h; subst h; trivial
  | cons x ps ih =>
    intro us h
    simp only [ptrsOf] at h
    have hx := opnd_ok hT x
    split at h
    · rename_i b o' l h1 h2
      simp at h; subst h
      rw [h1] at hx
      exact ⟨hx, ih l h2⟩
    · cases h

theorem builtC_ok {t : TypeId} {us : List (Nat × U)} {ps : List (Nat × Value)} {cs : List C} (hp : PartsR w I ρ M us ps) (h : builtC P t us = some cs) : ∃ cells, P.built t ps = some cells ∧ F2 (CR w I ρ M) cs cells.toList := by
  unfold builtC at h
  unfold Program.built
  split at h
  · rename_i it n e hi hu
    split at h
    · rename_i z ie hz hie
      obtain ⟨v, _, h2, i, h3, h4⟩ := zeroC_ok (w := w) (I := I) (ρ := ρ) (M := M) hz
      rw [hi] at h3; cases h3
      obtain ⟨cells, h5, h6⟩ := fillU_ok us ps z cs v.cells hp h2 h
      exact ⟨cells, by simp only [hi, hu, h4, hie]; exact h5, h6⟩
    · cases h
  · rename_i it fields hi hu
    split at h
    · rename_i z places hz hpl
      obtain ⟨v, _, h2, i, h3, h4⟩ := zeroC_ok (w := w) (I := I) (ρ := ρ) (M := M) hz
      rw [hi] at h3; cases h3
      obtain ⟨cells, h5, h6⟩ := fillU_ok us ps z cs v.cells hp h2 h
      exact ⟨cells, by simp only [hi, hu, h4, hpl]; exact h5, h6⟩
    · cases h
  · cases h

theorem core_build {o : Oper} {a : Act} {ts : List V} {t : TypeId} {ps : Array (Nat × Operand)} {us : List (Nat × U)} {cs : List C} {es : List Nat} {s : Nat} (hS : Sat I ρ M w) (hT : F2 (VR w I ρ M) ts a.tmps.toList) (ho : o.op = .build t ps)
    (hp : partsU (opnd ts) ps.toList = some us) (hb : builtC P t us = some cs) (hg : ∀ j, j < (nilOwn es cs s).2.length → M[s + j]? = some .gone) :
    Leads P o a k I ρ M w (.w (.agg (nilOwn es cs s).1)) (setAll M s (nilOwn es cs s).2) := by
  obtain ⟨cells, h1, h2⟩ := builtC_ok (partsU_ok hT _ _ hp) hb
  obtain ⟨h3, h4, h5, h6⟩ := nilOwn_ok (k := k) hS es cs cells.toList s h2 hg
  refine .value (u := .agg cells) ?_ h3 ⟨cells, rfl, h6⟩ h4
  have h1' : P.built t (ps.map fun x => (x.1, a.eval x.2)).toList = some cells := by rw [Array.toList_map]; exact h1
  simp only [execOp, ho, Sem.run_bind, run_build w t _ cells h1', Result.andThen_ok, Sem.run_pure]

end
end Sh
end Go.Proofs.YtamdjlpobonmiaaDoor
