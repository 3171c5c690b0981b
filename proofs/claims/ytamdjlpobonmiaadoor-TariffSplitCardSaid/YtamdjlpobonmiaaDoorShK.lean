/- Calls by contracts; what an operation does to a state. -/
import Derived.Test.YtamdjlpobonmiaaDoorShJ
namespace Go.Proofs.YtamdjlpobonmiaaDoor
namespace Sh
open Go.RowKit

def Enters (P : Program) (f : FuncId) : Prop := ∃ fn c, P.funcs[f]? = some fn ∧ fn.body = some c ∧ (fn.name == "runtime.NumGoroutine") = false

/-- What a contract says: for whatever memory the call is made in. -/
def TSpec (P : Program) (f : FuncId) (us : List U) (m : List (Nat × B)) (r : V) (m' : List (Nat × B)) : Prop :=
  Enters P f ∧ ∀ (k : Nat) (I : Addr → Prop) (ρ : List (Option Nat)) (M : List B) (w : World) (vs : List Value), Sat I ρ M w → (∀ p ∈ m, p.2 ≠ .gone → M[p.1]? = some p.2) → F2 (UR w I ρ M) us vs →
    Calls P f vs.toArray w fun e w' => ∃ v I' ρ', e = .returned v ∧ Sat I' ρ' (upd M m') w' ∧ VR w' I' ρ' (upd M m') r v ∧ Ext k I ρ M w I' ρ' (upd M m') w'

def GOK (P : Program) (G : Tab) : Prop := ∀ f us m v m', G.fn f us m = some (true, v, m') → TSpec P f us m v m'

section
variable {P : Program} {G : Tab} {k : Nat} {I I' I'' : Addr → Prop} {ρ ρ' ρ'' : List (Option Nat)} {M M' M'' : List B} {w w' w'' : World}

theorem argC_ok : ∀ {c : C} {v : Value}, CR w I ρ M c v → CR w I ρ M (argC c) v
  | .d .nil, v, h => by rw [show v = _ from h]; exact ⟨none, 0, rfl, Nat.le_refl _, fun i hi => by omega⟩
  | .d (.int _ _), _, h | .d (.bool _), _, h | .d (.str _), _, h | .d (.slc _ _ _), _, h => h
  | .own _ _ _ _, _, h => h.1
  | .ptr _ _, _, h | .ref _ _, _, h | .fn _ _ _, _, h | .unk, _, h => h
theorem argU_ok : ∀ {u : U} {v : Value}, UR w I ρ M u v → UR w I ρ M (argU u) v
  | .one _, _, h => argC_ok h
  | .agg _, _, ⟨arr, h1, h2⟩ => ⟨arr, h1, F2.map (fun _ _ h => argC_ok h) h2⟩
theorem argUs_ok {us : List U} {vs : List Value} (h : F2 (UR w I ρ M) us vs) : F2 (UR w I ρ M) (us.map argU) vs := F2.map (fun _ _ h => argU_ok h) h
theorem argV_ok : ∀ {x : V} {v : Value}, VR w I ρ M x v → VR w I ρ M (argV x) v
  | .w _, _, h => argU_ok h
  | .tup _, _, ⟨arr, h1, h2⟩ => ⟨arr, h1, F2.map (fun _ _ h => argU_ok h) h2⟩
  | .any, _, _ => trivial

theorem restrict_mem {M : List B} : ∀ {l : List Nat} {p : Nat × B}, p ∈ restrict M l → p.2 ≠ .gone → M[p.1]? = some p.2
  | b :: l, p, h, hp => by
    rcases List.mem_cons.1 h with rfl | h
    · simp only at hp ⊢
      by_cases hl : b < M.length
      · simp [List.getD, hl]
      · simp [List.getD, hl] at hp
    · exact restrict_mem h hp

theorem callOf_ok {ts : List V} {a : Act} (hT : F2 (VR w I ρ M) ts a.tmps.toList) {f : Operand} {args : List Operand} {g : FuncId} {us : List U} (h : callOf (opnd ts) f args = some (g, us)) :
    ∃ vf vc, a.eval f = .func (.func g) vf vc ∧ F2 (UR w I ρ M) us (vf.toList ++ args.map a.eval ++ vc.toList) := by
  have hf := opnd_ok hT f
  unfold callOf at h
  split at h
  · rename_i g' fs cs us' he ha
    rw [he] at hf
    obtain ⟨vf, vc, h1, h2, h3⟩ := hf
    simp only [Option.some.injEq, Prod.mk.injEq] at h
    obtain ⟨rfl, rfl⟩ := h
    exact ⟨vf, vc, h1, F2.append (F2.append (F2.map (f := ptrU) (R := UR w I ρ M) (Q := PtrR ρ M) (fun _ _ h => h) h2) (argsU_ok hT _ _ ha)) (F2.map (f := ptrU) (R := UR w I ρ M) (Q := PtrR ρ M) (fun _ _ h => h) h3)⟩
  · cases h

theorem call_run {o : Oper} {a : Act} {f : Operand} {args : Array Operand} {argTypes : Array TypeId} {g : FuncId} {vf vc : Array Value} (ho : o.op = .call { callee := .value f, args := args, argTypes := argTypes }) (hf : a.eval f = .func (.func g) vf vc) (he : Enters P g) :
    (execOp a.eval o).run P w = .ok (.enter g (vf.toList ++ args.toList.map a.eval ++ vc.toList).toArray) w := by
  obtain ⟨fn, c, h1, h2, h3⟩ := he
  have hargs : vf ++ Array.map a.eval args ++ vc = (vf.toList ++ args.toList.map a.eval ++ vc.toList).toArray := by
    apply Array.ext'; simp
  simp only [execOp, ho, resolve, hf, Deferred.ofValue, pure_bind, invoke, callFunc, Sem.run_bind, run_program, Result.andThen_ok, h1, h3, Bool.false_eq_true, if_false, h2, Option.isNone_some, Sem.run_pure, hargs]

theorem core_box_ro {o : Oper} {a : Act} {t : TypeId} {x : Operand} {u : U} {ds : List D} {s : Nat} (hS : Sat I ρ M w) (ho : o.op = .box t x) (hx : UR w I ρ M u (a.eval x)) (hd : toDs (ucells u) = some ds) (h0 : 0 < ds.length) (hg : M[s]? = some .gone) :
    Leads P o a k I ρ M w (.w (.one (.ref ds.length fun j => ds.getD j .nil))) (M.set s (.tick 1 ds.length)) := by
  have hdr := toDs_ok hd (UR.cells hx)
  have hsz : (a.eval x).cells.size = 1 * ds.length := by have := F2.length hdr; simp at this; omega
  obtain ⟨I', r1, r2, r3⟩ := allocRow (k := k) (T := t) (s := s) (n := 1) (e := ds.length) (cap := 1) (g := fun _ j => ds.getD j .nil) (arr := (a.eval x).cells) hS (.inl hg) h0 (Nat.le_refl _) hsz (fun i hi j hj => by
    obtain rfl : i = 0 := by omega
    obtain ⟨y, hy1, hy2⟩ := F2.get hdr (List.getElem?_eq_getElem hj)
    refine ⟨y, by simpa using hy1, ?_⟩
    have : ds.getD j .nil = ds[j] := by simp [List.getD, hj]
    rw [this]; exact hy2)
  refine .value (u := .pointer (some ⟨w.heap.size, 0, none⟩)) ?_ r1 ?_ r2
  · simp [execOp, ho, Instr.box, newVar, newRow]
  · obtain ⟨A, cap, e1, _, e2⟩ := r3.1
    injection e1 with e1 _ _
    refine ⟨_, rfl, fun j hj => ?_⟩
    obtain ⟨ad, y, q1, q2, q3, q4⟩ := e2 0 (by omega) j hj
    rw [← e1] at q1
    injection q1 with q1; subst q1
    rw [show 0 * ds.length + j = j by omega] at q2 q3
    exact ⟨y, q2, q3, q4⟩

theorem coreT_ok (hG : GOK P G) {o : Oper} {a : Act} {ts : List V} {slot : Nat} {out : Out} (hS : Sat I ρ M w) (hT : F2 (VR w I ρ M) ts a.tmps.toList)
    (h : coreT P G o (opnd ts) (restrict M (foot o.op (opnd ts))) slot = some out) (hok : out.ok = true) (hg : ∀ j, j < out.al.length → M[slot + j]? = some .gone) :
    Leads P o a k I ρ M w out.v (setAll (upd M out.m) slot out.al) := by
  unfold coreT at h
  split at h
  · rename_i f args argTypes ho
    split at h
    · rename_i g us hc
      split at h
      · rename_i ok v m' ht
        simp only [Option.some.injEq] at h; subst h
        simp only at hok; subst hok
        obtain ⟨vf, vc, h1, h2⟩ := callOf_ok hT hc
        intro next Q hn
        obtain ⟨us', hus, hT'⟩ : ∃ us', F2 (UR w I ρ M) us' (vf.toList ++ args.toList.map a.eval ++ vc.toList) ∧ TSpec P g us' (restrict M (foot o.op (opnd ts))) v m' := by
          unfold tabOf at ht
          cases hown : G.own g with
          | true => rw [hown] at ht; exact ⟨us, h2, hG _ _ _ _ _ ht⟩
          | false => rw [hown] at ht; exact ⟨_, argUs_ok h2, hG _ _ _ _ _ ht⟩
        unfold Oper.wp
        rw [call_run ho h1 hT'.1]
        refine (hT'.2 k I ρ M w _ hS (fun p hp => restrict_mem hp) hus).mono ?_
        rintro e w' ⟨u, I', ρ', rfl, s1, s2, s3⟩
        exact hn w' I' ρ' u s1 s2 s3
      · cases h
    · cases h
  · rename_i t x ho
    cases hr : G.ro o with
    | false =>
      rw [hr] at h
      simp only [cond_false] at h
      exact core_ok hS hT h hok hg
    | true =>
      rw [hr] at h
      simp only [cond_true] at h
      have hx := opnd_ok hT x
      split at h
      · rename_i u he
        rw [he] at hx
        split at h
        · rename_i ds hd
          cases hb : Nat.blt 0 ds.length with
          | false => rw [hb] at h; cases h
          | true =>
            rw [hb] at h
            rw [Nat.blt_eq] at hb
            simp only [cond_true, Option.some.injEq] at h; subst h
            rw [show foot o.op (opnd ts) = [] by rw [ho]; rfl]
            exact core_box_ro hS ho hx hd hb (hg 0 (by simp))
        · cases h
      · cases h
  · exact core_ok hS hT h hok hg

end

/-- What a state says of an activation: from what it began with. -/
structure Sim (k : Nat) (I0 : Addr → Prop) (ρ0 : List (Option Nat)) (M0 : List B) (w0 : World) (st : St) (a : Act) (w : World) : Prop where
  ex : ∃ I ρ, Sat I ρ st.mem w ∧ F2 (VR w I ρ st.mem) st.tmps a.tmps.toList ∧ Ext k I0 ρ0 M0 w0 I ρ st.mem w
  defers : a.defers = []

section
variable {P : Program} {G : Tab} {k : Nat} {I0 : Addr → Prop} {ρ0 : List (Option Nat)} {M0 : List B} {w0 w : World}

theorem below_of_cr {I : Addr → Prop} {ρ : List (Option Nat)} {M : List B} {c : C} {v : Value} (h : CR w I ρ M c v) : belowC M.length c = true := by
  have hp : ∀ (ps : List (Nat × Nat)) (vs : List Value), F2 (PtrR ρ M) ps vs → ps.all (fun p => Nat.blt p.1 M.length) = true := by
    intro ps
    induction ps with
    | nil => intro vs _; rfl
    | cons p ps ih =>
      intro vs h
      obtain ⟨v, vs, rfl, ⟨rb, cs, h1, _⟩, h2⟩ := F2.cons_left h
      simp only [List.all_cons, ih _ h2, Bool.and_true, Nat.blt_eq]
      exact lt_of_getElem? h1
  cases c with
  | d x => rfl
  | own r n e g => obtain ⟨_, m, e', h1, _⟩ := h; simp only [belowC, Nat.blt_eq]; exact lt_of_getElem? h1
  | ptr b o => obtain ⟨rb, cs, h1, _⟩ := h; simp only [belowC, Nat.blt_eq]; exact lt_of_getElem? h1
  | ref sz g => rfl
  | fn f fs cs => obtain ⟨_, _, _, h1, h2⟩ := h; simp only [belowC, hp _ _ h1, hp _ _ h2, Bool.and_true]
  | unk => rfl

theorem VR.step {I I' : Addr → Prop} {ρ ρ' : List (Option Nat)} {M M' : List B} {w' : World} (h : Ext M.length I ρ M w I' ρ' M' w') : ∀ {x : V} {v : Value}, VR w I ρ M x v → VR w' I' ρ' M' x v := by
  have hU : ∀ {u : U} {v : Value}, UR w I ρ M u v → UR w' I' ρ' M' u v := by
    intro u v hu
    cases u with
    | one c => exact h.cr c v (below_of_cr hu) hu
    | agg cs => obtain ⟨arr, h1, h2⟩ := hu; exact ⟨arr, h1, F2.mono (fun c v hc => h.cr c v (below_of_cr hc) hc) h2⟩
  intro x v hx
  cases x with
  | w u => exact hU hx
  | tup us => obtain ⟨arr, h1, h2⟩ := hx; exact ⟨arr, h1, F2.mono (fun _ _ hc => hU hc) h2⟩
  | any => trivial

theorem belowC_mono {j l : Nat} (h : j ≤ l) : ∀ {c : C}, belowC j c = true → belowC l c = true := by
  have hp : ∀ ps : List (Nat × Nat), ps.all (fun p => Nat.blt p.1 j) = true → ps.all (fun p => Nat.blt p.1 l) = true := by
    intro ps hps
    rw [List.all_eq_true] at hps ⊢
    intro p hpp
    have := hps p hpp
    rw [Nat.blt_eq] at this ⊢
    omega
  intro c hc
  cases c with
  | d x => rfl
  | own r n e g => simp only [belowC, Nat.blt_eq] at hc ⊢; omega
  | ptr b o => simp only [belowC, Nat.blt_eq] at hc ⊢; omega
  | ref sz g => rfl
  | fn f fs cs => simp only [belowC, Bool.and_eq_true] at hc ⊢; exact ⟨hp _ hc.1, hp _ hc.2⟩
  | unk => rfl

theorem Ext.weaken {I I' : Addr → Prop} {ρ ρ' : List (Option Nat)} {M M' : List B} {w' : World} {j l : Nat} (h : Ext l I ρ M w I' ρ' M' w') (hjl : j ≤ l) : Ext j I ρ M w I' ρ' M' w' :=
  ⟨h.os, h.tape, h.output, h.size, h.imm, h.keep, h.frame, h.inew, h.img, fun c v hb hc => h.cr c v (belowC_mono hjl hb) hc⟩

theorem put_ok {R : V → Value → Prop} {ts : List V} {a : Act} (hT : F2 R ts a.tmps.toList) {d : Option Tmp} {x : V} {v : Value} (h : R x v) : F2 R (setTmp ts d x) (a.put d v).tmps.toList := by
  cases d with
  | none => exact hT
  | some d => simp only [setTmp, Act.put, Array.toList_setIfInBounds]; exact F2.set d hT h

theorem goneExt {I : Addr → Prop} {ρ : List (Option Nat)} {M : List B} (n : Nat) (hS : Sat I ρ M w) :
    Sat I (ρ ++ List.replicate n none) (M ++ List.replicate n .gone) w ∧ ∀ j, Ext j I ρ M w I (ρ ++ List.replicate n none) (M ++ List.replicate n .gone) w := by
  have hM : ∀ {r : Nat} {b : B}, M[r]? = some b → (M ++ List.replicate n .gone)[r]? = some b := fun h => by rw [List.getElem?_append_left (lt_of_getElem? h)]; exact h
  have hρ : ∀ {r : Nat} {b : Option Nat}, ρ[r]? = some b → (ρ ++ List.replicate n none)[r]? = some b := fun h => by rw [List.getElem?_append_left (lt_of_getElem? h)]; exact h
  have hM' : ∀ {r : Nat} {b : B}, (M ++ List.replicate n .gone)[r]? = some b → M[r]? = some b ∨ (b = .gone ∧ M.length ≤ r) := by
    intro r b h
    rw [List.getElem?_append] at h
    split at h
    · exact .inl h
    · rw [List.getElem?_replicate] at h
      split at h
      · simp at h; exact .inr ⟨h.symm, by omega⟩
      · cases h
  have hρ' : ∀ {r b : Nat}, (ρ ++ List.replicate n none)[r]? = some (some b) → ρ[r]? = some (some b) := by
    intro r b h
    rw [List.getElem?_append] at h
    split at h
    · exact h
    · rw [List.getElem?_replicate] at h
      split at h
      · cases h
      · cases h
  have hcr : ∀ c v, CR w I ρ M c v → CR w I (ρ ++ List.replicate n none) (M ++ List.replicate n .gone) c v := fun c v =>
    CR.step (fun _ h => h) (fun _ _ => rfl) (fun b cs rb h1 h2 => ⟨⟨cs, hM h1⟩, hρ h2⟩) (fun r m e h => ⟨m, e, hM h, Nat.le_refl _, fun _ rb arr T h1 h2 => ⟨hρ h1, arr, h2, rfl⟩⟩)
  refine ⟨⟨by simp [hS.len], fun r cs h => ?_, fun r n' e rb h1 h2 => ?_, fun r h => ?_, fun r r' rb h1 h2 => hS.inj r r' rb (hρ' h1) (hρ' h2), hS.imm, hS.glob⟩, fun j => ⟨rfl, rfl, rfl, Nat.le_refl _, fun _ h => h, fun _ _ => rfl, fun _ _ _ => rfl, fun _ h => .inl h, fun r b h => .inr ⟨r, hρ' h⟩, fun c v _ => hcr c v⟩⟩
  · rcases hM' h with h | ⟨h, _⟩
    · obtain ⟨rb, arr, T, h1, h2, h3, h4⟩ := hS.var r cs h
      exact ⟨rb, arr, T, hρ h1, h2, F2.mono hcr h3, h4⟩
    · cases h
  · rcases hM' h1 with h | ⟨h, _⟩
    · exact hS.tick r n' e rb h (hρ' h2)
    · cases h
  · rcases hM' h with h1 | ⟨_, h1⟩
    · exact hρ (hS.gone r h1)
    · have hl := lt_of_getElem? h
      simp at hl
      rw [List.getElem?_append_right (by rw [hS.len]; exact h1), List.getElem?_replicate, if_pos (by rw [hS.len]; omega)]

theorem restrict_gone {M : List B} {n : Nat} : ∀ l : List Nat, restrict (M ++ List.replicate n .gone) l = restrict M l
  | [] => rfl
  | b :: l => by
    simp only [restrict, restrict_gone l]
    congr 2
    simp only [List.getD]
    by_cases h : b < M.length
    · rw [List.getElem?_append_left h]
    · rw [List.getElem?_append_right (by omega), List.getElem?_replicate, List.getElem?_eq_none (by omega)]
      split <;> rfl

end
end Sh
end Go.Proofs.YtamdjlpobonmiaaDoor
