/- Texts joined: what the proof of this law needs. -/
import Derived.Test.YtamdjlpobonmiaaDoorMb
/- Calls by contracts; what an operation does to a state. -/
namespace Go.Proofs.YtamdjlpobonmiaaDoor
namespace Sh
open Go.RowKit

def Enters (P : Program) (f : FuncId) : Prop := ∃ fn c, P.funcs[f]? = some fn ∧ fn.body = some c ∧ (fn.name == "runtime.NumGoroutine") = false

/-- What a contract says: for whatever memory the call is made in. -/
def TSpec (P : Program) (f : FuncId) (us : List U) (m : List (Nat × B)) (r : V) (m' : List (Nat × B)) : Prop :=
  Enters P f ∧ ∀ (k : Nat) (I : Addr → Prop) (ρ : List (Option Nat)) (M : List B) (w : World) (vs : List Value), Sat I ρ M w → (∀ p ∈ m, p.2 ≠ .gone → M[p.1]? = some p.2) → F2 (UR w I ρ M) us vs →
    Calls P f vs.toArray w fun e w' => ∃ v I' ρ', e = .returned v ∧ Sat I' ρ' (upd M m') w' ∧ VR w' I' ρ' (upd M m') r v ∧ Ext k I ρ M w I' ρ' (upd M m') w'

def GOK (P : Program) (G : Tab) : Prop := ∀ f us m v m', G.fn f us m = some (true, v, m') → TSpec P f us m v m'

section
variable {P : Program} {G : Tab} {k : Nat} {I I' I'' : Addr → Prop} {ρ ρ' ρ'' : List (Option Nat)} {M M' M'' : List B} {w w' w'' : World}

theorem argC_ok : ∀ {c : C} {v : Value}, CR w I ρ M c v → CR w I ρ M (argC c) v
  | .d .nil, v, h => by rw [show v = _ from h]; exact ⟨none, 0, rfl, Nat.le_refl _, fun i hi => by omega⟩
  | .d (.int _ _), _, h | .d (.bool _), _, h | .d (.str _), _, h | .d (.slc _ _ _), _, h => h
  | .own _ _ _ _, _, h => h.1
  | .ptr _ _, _, h | .ref _ _, _, h | .fn _ _ _, _, h | .unk, _, h => h
theorem argU_ok : ∀ {u : U} {v : Value}, UR w I ρ M u v → UR w I ρ M (argU u) v
  | .one _, _, h => argC_ok h
  | .agg _, _, ⟨arr, h1, h2⟩ => ⟨arr, h1, F2.map (fun _ _ h => argC_ok h) h2⟩
theorem argUs_ok {us : List U} {vs : List Value} (h : F2 (UR w I ρ M) us vs) : F2 (UR w I ρ M) (us.map argU) vs := F2.map (fun _ _ h => argU_ok h) h
theorem argV_ok : ∀ {x : V} {v : Value}, VR w I ρ M x v → VR w I ρ M (argV x) v
  | .w _, _, h => argU_ok h
  | .tup _, _, ⟨arr, h1, h2⟩ => ⟨arr, h1, F2.map (fun _ _ h => argU_ok h) h2⟩
  | .any, _, _ => trivial

theorem restrict_mem {M : List B} : ∀ {l : List Nat} {p : Nat × B}, p ∈ restrict M l → p.2 ≠ .gone → M[p.1]? = some p.2
  | b :: l, p, h, hp => by
    rcases List.mem_cons.1 h with rfl | h
    · simp only at hp ⊢
      by_cases hl : b < M.length
      · simp [List.getD, hl]
      · simp [List.getD, hl] at hp
    · exact restrict_mem h hp

theorem callOf_ok {ts : List V} {a : Act} (hT : F2 (VR w I ρ M) ts a.tmps.toList) {f : Operand} {args : List Operand} {g : FuncId} {us : List U} (h : callOf (opnd ts) f args = some (g, us)) :
    ∃ vf vc, a.eval f = .func (.func g) vf vc ∧ F2 (UR w I ρ M) us (vf.toList ++ args.map a.eval ++ vc.toList) := by
  have hf := opnd_ok hT f
  unfold callOf at h
  split at h
  · rename_i g' fs cs us' he ha
    rw [he] at hf
    obtain ⟨vf, vc, h1, h2, h3⟩ := hf
    simp only [Option.some.injEq, Prod.mk.injEq] at h
    obtain ⟨rfl, rfl⟩ := h
    exact ⟨vf, vc, h1, F2.append (F2.append (F2.map (f := ptrU) (R := UR w I ρ M) (Q := PtrR ρ M) (fun _ _ h => h) h2) (argsU_ok hT _ _ ha)) (F2.map (f := ptrU) (R := UR w I ρ M) (Q := PtrR ρ M) (fun _ _ h => h) h3)⟩
  · cases h

theorem call_run {o : Oper} {a : Act} {f : Operand} {args : Array Operand} {argTypes : Array TypeId} {g : FuncId} {vf vc : Array Value} (ho : o.op = .call { callee := .value f, args := args, argTypes := argTypes }) (hf : a.eval f = .func (.func g) vf vc) (he : Enters P g) :
    (execOp a.eval o).run P w = .ok (.enter g (vf.toList ++ args.toList.map a.eval ++ vc.toList).toArray) w := by
  obtain ⟨fn, c, h1, h2, h3⟩ := he
  have hargs : vf ++ Array.map a.eval args ++ vc = (vf.toList ++ args.toList.map a.eval ++ vc.toList).toArray := by
    apply Array.ext'; simp
  simp only [execOp, ho, resolve, hf, Deferred.ofValue, pure_bind, invoke, callFunc, Sem.run_bind, run_program, Result.andThen_ok, h1, h3, Bool.false_eq_true, if_false, h2, Option.isNone_some, Sem.run_pure, hargs]

theorem core_box_ro {o : Oper} {a : Act} {t : TypeId} {x : Operand} {u : U} {ds : List D} {s : Nat} (hS : Sat I ρ M w) (ho : o.op = .box t x) (hx : UR w I ρ M u (a.eval x)) (hd : toDs (ucells u) = some ds) (h0 : 0 < ds.length) (hg : M[s]? = some .gone) :
    Leads P o a k I ρ M w (.w (.one (.ref ds.length fun j => ds.getD j .nil))) (M.set s (.tick 1 ds.length)) := by
  have hdr := toDs_ok hd (UR.cells hx)
  have hsz : (a.eval x).cells.size = 1 * ds.length := by have := F2.length hdr; simp at this; omega
  obtain ⟨I', r1, r2, r3⟩ := allocRow (k := k) (T := t) (s := s) (n := 1) (e := ds.length) (cap := 1) (g := fun _ j => ds.getD j .nil) (arr := (a.eval x).cells) hS (.inl hg) h0 (Nat.le_refl _) hsz (fun i hi j hj => by
    obtain rfl : i = 0 := by omega
    obtain ⟨y, hy1, hy2⟩ := F2.get hdr (List.getElem?_eq_getElem hj)
    refine ⟨y, by simpa using hy1, ?_⟩
    have : ds.getD j .nil = ds[j] := by simp [List.getD, hj]
    rw [this]; exact hy2)
  refine .value (u := .pointer (some ⟨w.heap.size, 0, none⟩)) ?_ r1 ?_ r2
  · simp [execOp, ho, Instr.box, newVar, newRow]
  · obtain ⟨A, cap, e1, _, e2⟩ := r3.1
    injection e1 with e1 _ _
    refine ⟨_, rfl, fun j hj => ?_⟩
    obtain ⟨ad, y, q1, q2, q3, q4⟩ := e2 0 (by omega) j hj
    rw [← e1] at q1
    injection q1 with q1; subst q1
    rw [show 0 * ds.length + j = j by omega] at q2 q3
    exact ⟨y, q2, q3, q4⟩

theorem coreT_ok (hG : GOK P G) {o : Oper} {a : Act} {ts : List V} {slot : Nat} {out : Out} (hS : Sat I ρ M w) (hT : F2 (VR w I ρ M) ts a.tmps.toList)
    (h : coreT P G o (opnd ts) (restrict M (foot o.op (opnd ts))) slot = some out) (hok : out.ok = true) (hg : ∀ j, j < out.al.length → M[slot + j]? = some .gone) :
    Leads P o a k I ρ M w out.v (setAll (upd M out.m) slot out.al) := by
  unfold coreT at h
  split at h
  · rename_i f args argTypes ho
    split at h
    · rename_i g us hc
      split at h
      · rename_i ok v m' ht
        simp only [Option.some.injEq] at h; subst h
        simp only at hok; subst hok
        obtain ⟨vf, vc, h1, h2⟩ := callOf_ok hT hc
        intro next Q hn
        obtain ⟨us', hus, hT'⟩ : ∃ us', F2 (UR w I ρ M) us' (vf.toList ++ args.toList.map a.eval ++ vc.toList) ∧ TSpec P g us' (restrict M (foot o.op (opnd ts))) v m' := by
          unfold tabOf at ht
          cases hown : G.own g with
          | true => rw [hown] at ht; exact ⟨us, h2, hG _ _ _ _ _ ht⟩
          | false => rw [hown] at ht; exact ⟨_, argUs_ok h2, hG _ _ _ _ _ ht⟩
        unfold Oper.wp
        rw [call_run ho h1 hT'.1]
        refine (hT'.2 k I ρ M w _ hS (fun p hp => restrict_mem hp) hus).mono ?_
        rintro e w' ⟨u, I', ρ', rfl, s1, s2, s3⟩
        exact hn w' I' ρ' u s1 s2 s3
      · cases h
    · cases h
  · rename_i t x ho
    cases hr : G.ro o with
    | false =>
      rw [hr] at h
      simp only [cond_false] at h
      exact core_ok hS hT h hok hg
    | true =>
      rw [hr] at h
      simp only [cond_true] at h
      have hx := opnd_ok hT x
      split at h
      · rename_i u he
        rw [he] at hx
        split at h
        · rename_i ds hd
          cases hb : Nat.blt 0 ds.length with
          | false => rw [hb] at h; cases h
          | true =>
            rw [hb] at h
            rw [Nat.blt_eq] at hb
            simp only [cond_true, Option.some.injEq] at h; subst h
            rw [show foot o.op (opnd ts) = [] by rw [ho]; rfl]
            exact core_box_ro hS ho hx hd hb (hg 0 (by simp))
        · cases h
      · cases h
  · exact core_ok hS hT h hok hg

end

/-- What a state says of an activation: from what it began with. -/
structure Sim (k : Nat) (I0 : Addr → Prop) (ρ0 : List (Option Nat)) (M0 : List B) (w0 : World) (st : St) (a : Act) (w : World) : Prop where
  ex : ∃ I ρ, Sat I ρ st.mem w ∧ F2 (VR w I ρ st.mem) st.tmps a.tmps.toList ∧ Ext k I0 ρ0 M0 w0 I ρ st.mem w
  defers : a.defers = []

section
variable {P : Program} {G : Tab} {k : Nat} {I0 : Addr → Prop} {ρ0 : List (Option Nat)} {M0 : List B} {w0 w : World}

theorem below_of_cr {I : Addr → Prop} {ρ : List (Option Nat)} {M : List B} {c : C} {v : Value} (h : CR w I ρ M c v) : belowC M.length c = true := by
  have hp : ∀ (ps : List (Nat × Nat)) (vs : List Value), F2 (PtrR ρ M) ps vs → ps.all (fun p => Nat.blt p.1 M.length) = true := by
    intro ps
    induction ps with
    | nil => intro vs _; rfl
    | cons p ps ih =>
      intro vs h
      obtain ⟨v, vs, rfl, ⟨rb, cs, h1, _⟩, h2⟩ := F2.cons_left h
      simp only [List.all_cons, ih _ h2, Bool.and_true, Nat.blt_eq]
      exact lt_of_getElem? h1
  cases c with
  | d x => rfl
  | own r n e g => obtain ⟨_, m, e', h1, _⟩ := h; simp only [belowC, Nat.blt_eq]; exact lt_of_getElem? h1
  | ptr b o => obtain ⟨rb, cs, h1, _⟩ := h; simp only [belowC, Nat.blt_eq]; exact lt_of_getElem? h1
  | ref sz g => rfl
  | fn f fs cs => obtain ⟨_, _, _, h1, h2⟩ := h; simp only [belowC, hp _ _ h1, hp _ _ h2, Bool.and_true]
  | unk => rfl

theorem VR.step {I I' : Addr → Prop} {ρ ρ' : List (Option Nat)} {M M' : List B} {w' : World} (h : Ext M.length I ρ M w I' ρ' M' w') : ∀ {x : V} {v : Value}, VR w I ρ M x v → VR w' I' ρ' M' x v := by
  have hU : ∀ {u : U} {v : Value}, UR w I ρ M u v → UR w' I' ρ' M' u v := by
    intro u v hu
    cases u with
    | one c => exact h.cr c v (below_of_cr hu) hu
    | agg cs => obtain ⟨arr, h1, h2⟩ := hu; exact ⟨arr, h1, F2.mono (fun c v hc => h.cr c v (below_of_cr hc) hc) h2⟩
  intro x v hx
  cases x with
  | w u => exact hU hx
  | tup us => obtain ⟨arr, h1, h2⟩ := hx; exact ⟨arr, h1, F2.mono (fun _ _ hc => hU hc) h2⟩
  | any => trivial

theorem belowC_mono {j l : Nat} (h : j ≤ l) : ∀ {c : C}, belowC j c = true → belowC l c = true := by
  have hp : ∀ ps : List (Nat × Nat), ps.all (fun p => Nat.blt p.1 j) = true → ps.all (fun p => Nat.blt p.1 l) = true := by
    intro ps hps
    rw [List.all_eq_true] at hps ⊢
    intro p hpp
    have := hps p hpp
    rw [Nat.blt_eq] at this ⊢
    omega
  intro c hc
  cases c with
  | d x => rfl
  | own r n e g => simp only [belowC, Nat.blt_eq] at hc ⊢; omega
  | ptr b o => simp only [belowC, Nat.blt_eq] at hc ⊢; omega
  | ref sz g => rfl
  | fn f fs cs => simp only [belowC, Bool.and_eq_true] at hc ⊢; exact ⟨hp _ hc.1, hp _ hc.2⟩
  | unk => rfl

theorem Ext.weaken {I I' : Addr → Prop} {ρ ρ' : List (Option Nat)} {M M' : List B} {w' : World} {j l : Nat} (h : Ext l I ρ M w I' ρ' M' w') (hjl : j ≤ l) : Ext j I ρ M w I' ρ' M' w' :=
  ⟨h.os, h.tape, h.output, h.size, h.imm, h.keep, h.frame, h.inew, h.img, fun c v hb hc => h.cr c v (belowC_mono hjl hb) hc⟩

theorem put_ok {R : V → Value → Prop} {ts : List V} {a : Act} (hT : F2 R ts a.tmps.toList) {d : Option Tmp} {x : V} {v : Value} (h : R x v) : F2 R (setTmp ts d x) (a.put d v).tmps.toList := by
  cases d with
  | none => exact hT
  | some d => simp only [setTmp, Act.put, Array.toList_setIfInBounds]; exact F2.set d hT h

theorem goneExt {I : Addr → Prop} {ρ : List (Option Nat)} {M : List B} (n : Nat) (hS : Sat I ρ M w) :
    Sat I (ρ ++ List.replicate n none) (M ++ List.replicate n .gone) w ∧ ∀ j, Ext j I ρ M w I (ρ ++ List.replicate n none) (M ++ List.replicate n .gone) w := by
  have hM : ∀ {r : Nat} {b : B}, M[r]? = some b → (M ++ List.replicate n .gone)[r]? = some b := fun h => by rw [List.getElem?_append_left (lt_of_getElem? h)]; exact h
  have hρ : ∀ {r : Nat} {b : Option Nat}, ρ[r]? = some b → (ρ ++ List.replicate n none)[r]? = some b := fun h => by rw [List.getElem?_append_left (lt_of_getElem? h)]; exact h
  have hM' : ∀ {r : Nat} {b : B}, (M ++ List.replicate n .gone)[r]? = some b → M[r]? = some b ∨ (b = .gone ∧ M.length ≤ r) := by
    intro r b h
    rw [List.getElem?_append] at h
    split at h
    · exact .inl h
    · rw [List.getElem?_replicate] at h
      split at h
      · simp at h; exact .inr ⟨h.symm, by omega⟩
      · cases h
  have hρ' : ∀ {r b : Nat}, (ρ ++ List.replicate n none)[r]? = some (some b) → ρ[r]? = some (some b) := by
    intro r b h
    rw [List.getElem?_append] at h
    split at h
    · exact h
    · rw [List.getElem?_replicate] at h
      split at h
      · cases h
      · cases h
  have hcr : ∀ c v, CR w I ρ M c v → CR w I (ρ ++ List.replicate n none) (M ++ List.replicate n .gone) c v := fun c v =>
    CR.step (fun _ h => h) (fun _ _ => rfl) (fun b cs rb h1 h2 => ⟨⟨cs, hM h1⟩, hρ h2⟩) (fun r m e h => ⟨m, e, hM h, Nat.le_refl _, fun _ rb arr T h1 h2 => ⟨hρ h1, arr, h2, rfl⟩⟩)
  refine ⟨⟨by simp [hS.len], fun r cs h => ?_, fun r n' e rb h1 h2 => ?_, fun r h => ?_, fun r r' rb h1 h2 => hS.inj r r' rb (hρ' h1) (hρ' h2), hS.imm, hS.glob⟩, fun j => ⟨rfl, rfl, rfl, Nat.le_refl _, fun _ h => h, fun _ _ => rfl, fun _ _ _ => rfl, fun _ h => .inl h, fun r b h => .inr ⟨r, hρ' h⟩, fun c v _ => hcr c v⟩⟩
  · rcases hM' h with h | ⟨h, _⟩
    · obtain ⟨rb, arr, T, h1, h2, h3, h4⟩ := hS.var r cs h
      exact ⟨rb, arr, T, hρ h1, h2, F2.mono hcr h3, h4⟩
    · cases h
  · rcases hM' h1 with h | ⟨h, _⟩
    · exact hS.tick r n' e rb h (hρ' h2)
    · cases h
  · rcases hM' h with h1 | ⟨_, h1⟩
    · exact hρ (hS.gone r h1)
    · have hl := lt_of_getElem? h
      simp at hl
      rw [List.getElem?_append_right (by rw [hS.len]; exact h1), List.getElem?_replicate, if_pos (by rw [hS.len]; omega)]

theorem restrict_gone {M : List B} {n : Nat} : ∀ l : List Nat, restrict (M ++ List.replicate n .gone) l = restrict M l
  | [] => rfl
  | b :: l => by
    simp only [restrict, restrict_gone l]
    congr 2
    simp only [List.getD]
    by_cases h : b < M.length
    · rw [List.getElem?_append_left h]
    · rw [List.getElem?_append_right (by omega), List.getElem?_replicate, List.getElem?_eq_none (by omega)]
      split <;> rfl

end
end Sh
end Go.Proofs.YtamdjlpobonmiaaDoor

/- The evaluator tells the truth: regions in the order of the text, code, calls. -/
namespace Go.Proofs.YtamdjlpobonmiaaDoor
namespace Sh
open Go.RowKit

section
variable {P : Program} {G : Tab} {k : Nat} {I0 : Addr → Prop} {ρ0 : List (Option Nat)} {M0 : List B} {w0 w : World}

theorem upd_length : ∀ (m : List (Nat × B)) (M : List B), (upd M m).length = M.length
  | [], _ => rfl
  | (b, x) :: m, M => by rw [upd, upd_length m]; simp

def CallOK (P : Program) (call : CallF) : Prop := ∀ f us mem v mem', call f us mem = some (v, mem') → Enters P f ∧
  ∀ (I : Addr → Prop) (ρ : List (Option Nat)) (w : World) (vs : List Value), Sat I ρ mem w → F2 (UR w I ρ mem) us vs →
    Calls P f vs.toArray w fun e w' => ∃ u I' ρ', e = .returned u ∧ Sat I' ρ' mem' w' ∧ VR w' I' ρ' mem' v u ∧ Ext mem.length I ρ mem w I' ρ' mem' w' ∧ mem.length ≤ mem'.length

theorem Sim.next {st st' : St} {a : Act} {I I' : Addr → Prop} {ρ ρ' : List (Option Nat)} {w' : World} {x : V} {u : Value} {d : Option Tmp} (hd : a.defers = []) (hk : k ≤ st.mem.length)
    (hT : F2 (VR w I ρ st.mem) st.tmps a.tmps.toList) (hE : Ext k I0 ρ0 M0 w0 I ρ st.mem w)
    (hS' : Sat I' ρ' st'.mem w') (hv : VR w' I' ρ' st'.mem x u) (hE' : Ext st.mem.length I ρ st.mem w I' ρ' st'.mem w') (ht : st'.tmps = setTmp st.tmps d x) : Sim k I0 ρ0 M0 w0 st' (a.put d u) w' := by
  refine ⟨⟨I', ρ', hS', ?_, hE.trans (hE'.weaken hk)⟩, by cases d <;> exact hd⟩
  rw [ht]
  exact put_ok (F2.mono (fun _ _ h => VR.step hE' h) hT) hv

theorem exR_ok (hG : GOK P G) {call : CallF} (hC : CallOK P call) {o : Oper} {st st' : St} {a : Act} (h : exR P G call o st = some st') (hs : Sim k I0 ρ0 M0 w0 st a w) (hk : k ≤ st.mem.length)
    (next : Act → World → Prop) (Q : Exit → Act → World → Prop) (hn : ∀ a' w', Sim k I0 ρ0 M0 w0 st' a' w' → st.mem.length ≤ st'.mem.length → next a' w') : o.wp P a w next Q := by
  obtain ⟨⟨I, ρ, hS, hT, hE⟩, hd⟩ := hs
  unfold exR at h
  split at h
  · rename_i ok v m al hc
    cases ok with
    | false => cases h
    | true =>
      simp only [cond_true, Option.some.injEq] at h
      subst h
      obtain ⟨hS1, hE1⟩ := goneExt al.length hS
      have hT1 : F2 (VR w I (ρ ++ List.replicate al.length none) (st.mem ++ List.replicate al.length .gone)) st.tmps a.tmps.toList := F2.mono (fun _ _ h => VR.step (hE1 _) h) hT
      have hc1 : coreT P G o (opnd st.tmps) (restrict (st.mem ++ List.replicate al.length .gone) (foot o.op (opnd st.tmps))) st.mem.length = some ⟨true, v, m, al⟩ := by rw [restrict_gone]; exact hc
      refine coreT_ok (k := st.mem.length) hG hS1 hT1 hc1 rfl (fun j hj => ?_) next Q ?_
      · simp only at hj; rw [List.getElem?_append_right (by omega), List.getElem?_replicate, if_pos (by omega)]
      · intro w' I' ρ' u s1 s2 s3
        refine hn _ _ (Sim.next hd hk hT hE s1 s2 ((hE1 _).trans s3) rfl) ?_
        simp only [putOut, setAll_length, upd_length, List.length_append]
        omega
  · split at h
    · rename_i f args argTypes ho
      split at h
      · rename_i g us hcall
        split at h
        · rename_i v mem' hcc
          simp only [Option.some.injEq] at h; subst h
          obtain ⟨vf, vc, h1, h2⟩ := callOf_ok hT hcall
          obtain ⟨he, hcs⟩ := hC _ _ _ _ _ hcc
          unfold Oper.wp
          rw [call_run ho h1 he]
          refine (hcs I ρ w _ hS h2).mono ?_
          rintro e w' ⟨u, I', ρ', rfl, s1, s2, s3, hl⟩
          exact hn _ _ (Sim.next (st' := ⟨_, _⟩) hd hk hT hE s1 s2 s3 rfl) hl
        · cases h
      · cases h
    · cases h

theorem gd_ok {I : Addr → Prop} {ρ : List (Option Nat)} {M : List B} {ops : Array Oper} {o : Oper} {ts : List V} {a : Act} (hT : F2 (VR w I ρ M) ts a.tmps.toList) :
    match gd ops ts o with
    | .run => Region.wanted o (yielded ops a.tmps) = true
    | .skip => Region.wanted o (yielded ops a.tmps) = false
    | .test d b want => Region.wanted o (yielded ops a.tmps) = (b == want) ∧ ts[d]? = some (vb b)
    | .bad => True := by
  cases hg : o.guard with
  | none => simp only [gd, hg, Region.wanted]
  | some p =>
    obtain ⟨j, want⟩ := p
    cases hd : (ops[j]?).bind (·.dst) with
    | none => simp only [gd, hg, hd, Region.wanted, yielded, Option.bind_none]; rfl
    | some d =>
      cases ht : ts[d]? with
      | none =>
        have hn : a.tmps[d]? = none := by
          have hl : ts.length = a.tmps.size := by rw [F2.length hT]; simp
          refine Array.getElem?_eq_none ?_
          rw [← hl]
          exact Nat.not_lt.1 fun h => by rw [List.getElem?_eq_getElem h] at ht; cases ht
        simp only [gd, hg, hd, ht, Region.wanted, yielded, Option.bind_some, hn]; rfl
      | some x =>
        obtain ⟨v, hv, hr⟩ := F2.get hT ht
        have hv' : a.tmps[d]? = some v := by rw [← Array.getElem?_toList]; exact hv
        have hbad : (∀ b, x ≠ vb b) → x ≠ .tup [] → gd ops ts o = .bad := by
          intro h1 h2
          simp only [gd, hg, hd, ht]
          split
          · rename_i h; cases h
          · rename_i b h; injection h with h; exact absurd h (h1 b)
          · rename_i h; injection h with h; exact absurd h h2
          · rfl
        by_cases h1 : ∃ b, x = vb b
        · obtain ⟨b, rfl⟩ := h1
          have hvb : v = .bool b := hr
          subst hvb
          simp only [gd, hg, hd, ht, Region.wanted, yielded, Option.bind_some, hv', and_true]
          cases b <;> cases want <;> rfl
        · by_cases h2 : x = .tup []
          · subst h2
            obtain ⟨arr, h3, h4⟩ := hr
            subst h3
            simp only [gd, hg, hd, ht, Region.wanted, yielded, Option.bind_some, hv']; rfl
          · rw [hbad (fun b h => h1 ⟨b, h⟩) h2]; trivial

theorem Sim.know {st : St} {a : Act} {d : Nat} {b : Bool} (hs : Sim k I0 ρ0 M0 w0 st a w) (h : st.tmps[d]? = some (vb b)) : Sim k I0 ρ0 M0 w0 ⟨st.tmps.set d (vb b), st.mem⟩ a w := by
  rw [set_self h]; exact hs

theorem Sim.skip {st : St} {a : Act} {o : Oper} (hs : Sim k I0 ρ0 M0 w0 st a w) : Sim k I0 ρ0 M0 w0 (skipO o st) (a.put o.dst undef) w := by
  obtain ⟨⟨I, ρ, hS, hT, hE⟩, hd⟩ := hs
  refine ⟨⟨I, ρ, hS, put_ok hT ⟨#[], rfl, trivial⟩, hE⟩, ?_⟩
  cases o.dst <;> exact hd

theorem stepR_ok (hG : GOK P G) {call : CallF} (hC : CallOK P call) {ops : Array Oper} {i : Nat} {o : Oper} {st st' : St} {a : Act} (hi : ops[i]? = some o) (h : stepR P G call ops o st = some st') (hs : Sim k I0 ρ0 M0 w0 st a w) (hk : k ≤ st.mem.length)
    (K : Act → World → Prop) (Q : Exit → Act → World → Prop) (hn : ∀ a' w', Sim k I0 ρ0 M0 w0 st' a' w' → st.mem.length ≤ st'.mem.length → K a' w') : wpOp P ops Q i K a w := by
  unfold wpOp
  rw [hi]
  simp only
  obtain ⟨I, ρ, hS, hT, hE⟩ := hs.ex
  have hg := gd_ok (ops := ops) (o := o) hT
  unfold stepR at h
  split at h
  · rename_i he
    rw [he] at hg
    rw [hg]
    simp only [if_true]
    exact .inl (exR_ok hG hC h hs hk K Q hn)
  · rename_i he
    rw [he] at hg
    rw [hg]
    simp only [Bool.false_eq_true, if_false]
    simp only [Option.some.injEq] at h; subst h
    exact hn _ _ hs.skip (Nat.le_refl _)
  · rename_i d b want he
    rw [he] at hg
    obtain ⟨h1, h2⟩ := hg
    rw [h1]
    have hs' := hs.know h2
    cases b <;> cases want <;> simp only [cond_true, cond_false, Option.some.injEq] at h
    · exact .inl (exR_ok hG hC h hs' hk K Q hn)
    · subst h; exact hn _ _ hs'.skip (Nat.le_refl _)
    · subst h; exact hn _ _ hs'.skip (Nat.le_refl _)
    · exact .inl (exR_ok hG hC h hs' hk K Q hn)
  · cases h

theorem regR_ok (hG : GOK P G) {call : CallF} (hC : CallOK P call) {ops : Array Oper} (Q : Exit → Act → World → Prop) : ∀ (os : List Oper) (i : Nat) (st st' : St) (a : Act) (w : World), ops.toList.drop i = os → regR P G call ops os st = some st' → Sim k I0 ρ0 M0 w0 st a w → k ≤ st.mem.length →
    (∀ a' w', Sim k I0 ρ0 M0 w0 st' a' w' → st.mem.length ≤ st'.mem.length → Q .normal a' w') → wpOps P ops Q (List.range' i os.length) a w := by
  intro os
  induction os with
  | nil =>
    intro i st st' a w _ h hs hk hn
    simp only [regR, Option.some.injEq] at h; subst h
    exact hn a w hs (Nat.le_refl _)
  | cons o os ih =>
    intro i st st' a w hd h hs hk hn
    simp only [regR] at h
    have hi : ops[i]? = some o := by
      have h0 : (ops.toList.drop i)[0]? = some o := by rw [hd]; rfl
      rw [List.getElem?_drop] at h0
      simpa using h0
    have hd' : ops.toList.drop (i + 1) = os := by
      rw [← List.drop_drop, hd]; rfl
    split at h
    · rename_i st1 h1
      simp only [List.length_cons, List.range'_succ]
      rw [wpOps_cons]
      refine stepR_ok hG hC hi h1 hs hk _ Q ?_
      intro a' w' hs1 hl1
      exact ih (i + 1) st1 st' a' w' hd' h hs1 (by omega) (fun a2 w2 h2 hl2 => hn a2 w2 h2 (by omega))
    · cases h

theorem trunc_ok {st : St} {a : Act} {n : Nat} (hs : Sim k I0 ρ0 M0 w0 st a w) (hk : k ≤ n) : Sim k I0 ρ0 M0 w0 (trunc n st) a w := by
  unfold trunc
  cases hb : (st.mem.take n).all (belowB n) with
  | false => exact hs
  | true =>
    simp only [cond_true]
    obtain ⟨⟨I, ρ, hS, hT, hE⟩, hd⟩ := hs
    have hM : ∀ {r : Nat} {b : B}, r < n → st.mem[r]? = some b → (st.mem.take n)[r]? = some b := fun hr h => by rw [List.getElem?_take_of_lt hr]; exact h
    have hρ : ∀ {r : Nat} {b : Option Nat}, r < n → ρ[r]? = some b → (ρ.take n)[r]? = some b := fun hr h => by rw [List.getElem?_take_of_lt hr]; exact h
    have hM' : ∀ {r : Nat} {b : B}, (st.mem.take n)[r]? = some b → st.mem[r]? = some b ∧ r < n := by
      intro r b h
      rw [List.getElem?_take] at h
      split at h
      · exact ⟨h, by assumption⟩
      · cases h
    have hρ' : ∀ {r : Nat} {b : Option Nat}, (ρ.take n)[r]? = some b → ρ[r]? = some b ∧ r < n := by
      intro r b h
      rw [List.getElem?_take] at h
      split at h
      · exact ⟨h, by assumption⟩
      · cases h
    have hp : ∀ (ps : List (Nat × Nat)) (vs : List Value), ps.all (fun p => Nat.blt p.1 n) = true → F2 (PtrR ρ st.mem) ps vs → F2 (PtrR (ρ.take n) (st.mem.take n)) ps vs := by
      intro ps vs hall hf
      refine F2.mono_mem (fun p hp v ⟨rb, cs, h1, h2, h3⟩ => ?_) hf
      have hlt := List.all_eq_true.1 hall p hp
      rw [Nat.blt_eq] at hlt
      exact ⟨rb, cs, hM hlt h1, hρ hlt h2, h3⟩
    have hcr : ∀ c v, belowC n c = true → CR w I ρ st.mem c v → CR w I (ρ.take n) (st.mem.take n) c v := by
      intro c v hb hc
      cases c with
      | d x => exact hc
      | own r m e g =>
        simp only [belowC, Nat.blt_eq] at hb
        obtain ⟨h1, m', e', h2, h3, h4⟩ := hc
        refine ⟨h1, m', e', hM hb h2, h3, fun hm => ?_⟩
        obtain ⟨A, cap, h5, h6⟩ := h4 hm
        refine ⟨A, cap, h5, h6.imp id ?_⟩
        rintro ⟨rb, arr, T, h7, h8, h9⟩
        exact ⟨rb, arr, T, h7, hρ hb h8, h9⟩
      | ptr b o =>
        simp only [belowC, Nat.blt_eq] at hb
        obtain ⟨rb, cs, h1, h2, h3⟩ := hc
        exact ⟨rb, cs, hM hb h1, hρ hb h2, h3⟩
      | ref sz g => exact hc
      | fn f fs cs =>
        simp only [belowC, Bool.and_eq_true] at hb
        obtain ⟨vf, vc, h1, h2, h3⟩ := hc
        exact ⟨vf, vc, h1, hp _ _ hb.1 h2, hp _ _ hb.2 h3⟩
      | unk => exact hc
    have hur : ∀ u v, belowU n u = true → UR w I ρ st.mem u v → UR w I (ρ.take n) (st.mem.take n) u v := by
      intro u v hb hu
      cases u with
      | one c => exact hcr c v (by simpa [belowU, ucells] using hb) hu
      | agg cs => obtain ⟨arr, h1, h2⟩ := hu; exact ⟨arr, h1, F2.mono_mem (fun c hc y hy => hcr c y (List.all_eq_true.1 hb c hc) hy) h2⟩
    have hvr : ∀ x v, VR w I ρ st.mem x v → VR w I (ρ.take n) (st.mem.take n) (clearV n x) v := by
      intro x v hx
      unfold clearV
      cases hb : belowV n x with
      | false => exact trivial
      | true =>
        simp only [cond_true]
        cases x with
        | w u => exact hur u v hb hx
        | tup us => obtain ⟨arr, h1, h2⟩ := hx; exact ⟨arr, h1, F2.mono_mem (fun u hu y hy => hur u y (List.all_eq_true.1 hb u hu) hy) h2⟩
        | any => exact trivial
    refine ⟨⟨I, ρ.take n, ⟨by simp [hS.len], fun r cs h => ?_, fun r n' e rb h1 h2 => ?_, fun r h => ?_, fun r r' rb h1 h2 => hS.inj r r' rb (hρ' h1).1 (hρ' h2).1, hS.imm, hS.glob⟩, F2.map (fun _ _ h => hvr _ _ h) hT, ?_⟩, hd⟩
    · obtain ⟨h1, h2⟩ := hM' h
      obtain ⟨rb, arr, T, h3, h4, h5, h6⟩ := hS.var r cs h1
      have hbb := List.all_eq_true.1 hb _ (List.mem_of_getElem? h)
      exact ⟨rb, arr, T, hρ h2 h3, h4, F2.mono_mem (fun c hc y hy => hcr c y (List.all_eq_true.1 hbb c hc) hy) h5, h6⟩
    · exact hS.tick r n' e rb (hM' h1).1 (hρ' h2).1
    · exact hρ (hM' h).2 (hS.gone r (hM' h).1)
    · exact hE.trans ⟨rfl, rfl, rfl, Nat.le_refl _, fun _ h => h, fun _ _ => rfl, fun _ _ _ => rfl, fun _ h => .inl h, fun r b h => .inr ⟨r, (hρ' h).1⟩, fun c v hc h => hcr c v (belowC_mono hk hc) h⟩

theorem trunc_length {st : St} {n : Nat} (h : n ≤ st.mem.length) : n ≤ (trunc n st).mem.length := by
  unfold trunc
  cases (st.mem.take n).all (belowB n) with
  | false => exact h
  | true => simp only [cond_true, List.length_take]; omega

def exitOf : Ex → Exit
  | .norm => .normal
  | .exit id => .exit id
  | .ret => .ret

/-- What code comes to. -/
def Ends (k : Nat) (I0 : Addr → Prop) (ρ0 : List (Option Nat)) (M0 : List B) (w0 : World) (x : Ex) (st : St) (n : Nat) (e : Exit) (a : Act) (w : World) : Prop := e = exitOf x ∧ Sim k I0 ρ0 M0 w0 st a w ∧ n ≤ st.mem.length

def LoopOK (P : Program) (m : Nat) (loop : LoopF) : Prop := ∀ c st x st', loop (.loop c) st = some (x, st') → ∀ (k : Nat) (I0 : Addr → Prop) (ρ0 : List (Option Nat)) (M0 : List B) (w0 : World) (n : Nat) (a : Act) (w : World), Sim k I0 ρ0 M0 w0 st a w → k ≤ st.mem.length → n ≤ st.mem.length → Code.rounds P c (Ends k I0 ρ0 M0 w0 x st' n) m a w

def RegDOK (P : Program) (G : Tab) : Prop := ∀ (id : Nat) ops st st', regD P G ops st = some st' → ∀ (k : Nat) (I0 : Addr → Prop) (ρ0 : List (Option Nat)) (M0 : List B) (w0 : World) (n : Nat) (a : Act) (w : World), Sim k I0 ρ0 M0 w0 st a w → k ≤ st.mem.length → n ≤ st.mem.length → (Code.region id ops true).wp P (Ends k I0 ρ0 M0 w0 .norm st' n) a w

theorem know_ok {st : St} {a : Act} {c : Operand} {b : Bool} (hs : Sim k I0 ρ0 M0 w0 st a w) (h : opnd st.tmps c = vb b) : Sim k I0 ρ0 M0 w0 ⟨know st.tmps c b, st.mem⟩ a w := by
  cases c with
  | tmp t =>
    simp only [know]
    simp only [opnd] at h
    by_cases hl : t < st.tmps.length
    · have : st.tmps[t]? = some (vb b) := by
        rw [← h]; simp [List.getD, hl]
      exact hs.know this
    · rw [List.set_eq_of_length_le (Nat.not_lt.1 hl)]; exact hs
  | _ => exact hs

/-- Code, and the rounds of a loop. -/
theorem evC_ok (hG : GOK P G) (hD : RegDOK P G) {call : CallF} {loop : LoopF} {m : Nat} (hC : CallOK P call) (hL : LoopOK P m loop) : ∀ (c : Code) (st : St) (x : Ex) (st' : St), evC P G loop call c st = some (x, st') →
    ∀ (k : Nat) (I0 : Addr → Prop) (ρ0 : List (Option Nat)) (M0 : List B) (w0 : World) (n : Nat) (a : Act) (w : World), Sim k I0 ρ0 M0 w0 st a w → k ≤ st.mem.length → n ≤ st.mem.length →
      c.wp P (Ends k I0 ρ0 M0 w0 x st' n) a w ∧ (∀ y, c = .loop y → Code.rounds P y (Ends k I0 ρ0 M0 w0 x st' n) (m + 1) a w) := by
  intro c
  induction c with
  | skip =>
    intro st x st' h k I0 ρ0 M0 w0 n a w hs hk hn
    simp only [evC, Option.some.injEq, Prod.mk.injEq] at h
    obtain ⟨rfl, rfl⟩ := h
    exact ⟨wp_skip ⟨rfl, hs, hn⟩, fun y h => by cases h⟩
  | label l =>
    intro st x st' h k I0 ρ0 M0 w0 n a w hs hk hn
    simp only [evC, Option.some.injEq, Prod.mk.injEq] at h
    obtain ⟨rfl, rfl⟩ := h
    exact ⟨wp_label ⟨rfl, hs, hn⟩, fun y h => by cases h⟩
  | region id ops draw =>
    intro st x st' h k I0 ρ0 M0 w0 n a w hs hk hn
    refine ⟨?_, fun y h => by cases h⟩
    cases draw with
    | true =>
      simp only [evC, cond_true] at h
      split at h
      · rename_i st1 h1
        simp only [Option.some.injEq, Prod.mk.injEq] at h
        obtain ⟨rfl, rfl⟩ := h
        exact hD id ops st st1 h1 k I0 ρ0 M0 w0 n a w hs hk hn
      · cases h
    | false =>
      simp only [evC, cond_false] at h
      split at h
      · rename_i st1 h1
        simp only [Option.some.injEq, Prod.mk.injEq] at h
        obtain ⟨rfl, rfl⟩ := h
        refine wp_region ?_
        have := regR_ok hG hC (Ends k I0 ρ0 M0 w0 .norm st1 n) ops.toList 0 st st1 a w rfl h1 hs hk (fun a' w' h2 h3 => ⟨rfl, h2, by omega⟩)
        rwa [← List.range_eq_range', Array.length_toList] at this
      · cases h
  | seq y z ihy ihz =>
    intro st x st' h k I0 ρ0 M0 w0 n a w hs hk hn
    refine ⟨wp_seq ?_, fun y h => by cases h⟩
    simp only [evC] at h
    split at h
    · rename_i st1 h1
      refine wp_mono (ihy st .norm st1 h1 k I0 ρ0 M0 w0 st.mem.length a w hs hk (Nat.le_refl _)).1 ?_
      rintro e a' w' ⟨rfl, h2, h3⟩
      exact (ihz st1 x st' h k I0 ρ0 M0 w0 n a' w' h2 (by omega) (by omega)).1
    · rename_i hr
      refine wp_mono (ihy st x st' h k I0 ρ0 M0 w0 n a w hs hk hn).1 ?_
      rintro e a' w' ⟨rfl, h2, h3⟩
      cases x with
      | norm => exact absurd h (hr st')
      | exit i => exact ⟨rfl, h2, h3⟩
      | ret => exact ⟨rfl, h2, h3⟩
  | cond c y z ihy ihz =>
    intro st x st' h k I0 ρ0 M0 w0 n a w hs hk hn
    refine ⟨?_, fun y h => by cases h⟩
    simp only [evC] at h
    split at h
    · rename_i b hc
      have hev : a.eval c = .bool b := by
        obtain ⟨I, ρ, hS, hT, hE⟩ := hs.ex
        have := opnd_ok hT c
        rw [hc] at this
        exact this
      cases b with
      | true => exact wp_cond hev (ihy _ x st' h k I0 ρ0 M0 w0 n a w (know_ok hs hc) hk hn).1
      | false => exact wp_cond hev (ihz _ x st' h k I0 ρ0 M0 w0 n a w (know_ok hs hc) hk hn).1
    · cases h
  | block id y ihy =>
    intro st x st' h k I0 ρ0 M0 w0 n a w hs hk hn
    refine ⟨wp_block ?_, fun y h => by cases h⟩
    simp only [evC] at h
    split at h
    · rename_i i st1 h1
      refine wp_mono (ihy st _ st1 h1 k I0 ρ0 M0 w0 n a w hs hk hn).1 ?_
      rintro e a' w' ⟨rfl, h2, h3⟩
      cases hb : Nat.beq i id with
      | true =>
        simp only [hb, cond_true, Option.some.injEq, Prod.mk.injEq] at h
        obtain ⟨rfl, rfl⟩ := h
        rw [Nat.beq_eq] at hb; subst hb
        simp only [exitOf, Exit.inBlock, if_true]
        exact ⟨rfl, h2, h3⟩
      | false =>
        simp only [hb, cond_false, Option.some.injEq, Prod.mk.injEq] at h
        obtain ⟨rfl, rfl⟩ := h
        have hne : ¬ i = id := fun e => by rw [e, Nat.beq_refl] at hb; cases hb
        simp only [exitOf, Exit.inBlock, if_neg hne]
        exact ⟨rfl, h2, h3⟩
    · rename_i hr
      refine wp_mono (ihy st x st' h k I0 ρ0 M0 w0 n a w hs hk hn).1 ?_
      rintro e a' w' ⟨rfl, h2, h3⟩
      cases x with
      | norm => exact ⟨rfl, h2, h3⟩
      | exit i => exact absurd h (hr i st')
      | ret => exact ⟨rfl, h2, h3⟩
  | loop y ihy =>
    intro st x st' h k I0 ρ0 M0 w0 n a w hs hk hn
    have key : Code.rounds P y (Ends k I0 ρ0 M0 w0 x st' n) (m + 1) a w := by
      rw [rounds_succ]
      simp only [evC] at h
      split at h
      · rename_i st1 h1
        refine wp_mono (ihy st .norm st1 h1 k I0 ρ0 M0 w0 st.mem.length a w hs hk (Nat.le_refl _)).1 ?_
        rintro e a' w' ⟨rfl, h2, h3⟩
        have hl := trunc_length (st := st1) h3
        exact hL y _ x st' h k I0 ρ0 M0 w0 n a' w' (trunc_ok h2 hk) (by omega) (by omega)
      · rename_i hr
        refine wp_mono (ihy st x st' h k I0 ρ0 M0 w0 n a w hs hk hn).1 ?_
        rintro e a' w' ⟨rfl, h2, h3⟩
        cases x with
        | norm => exact absurd h (hr st')
        | exit i => exact ⟨rfl, h2, h3⟩
        | ret => exact ⟨rfl, h2, h3⟩
    exact ⟨wp_loop_rounds (m + 1) key, fun z hz => by injection hz with hz; subst hz; exact key⟩
  | exit id =>
    intro st x st' h k I0 ρ0 M0 w0 n a w hs hk hn
    simp only [evC, Option.some.injEq, Prod.mk.injEq] at h
    obtain ⟨rfl, rfl⟩ := h
    exact ⟨wp_exit ⟨rfl, hs, hn⟩, fun y h => by cases h⟩
  | ret =>
    intro st x st' h k I0 ρ0 M0 w0 n a w hs hk hn
    simp only [evC, Option.some.injEq, Prod.mk.injEq] at h
    obtain ⟨rfl, rfl⟩ := h
    exact ⟨wp_ret ⟨rfl, hs, hn⟩, fun y h => by cases h⟩
  | _ =>
    intro st x st' h
    simp [evC] at h

end
end Sh
end Go.Proofs.YtamdjlpobonmiaaDoor

/- The evaluator tells the truth: calls and runs. -/
namespace Go.Proofs.YtamdjlpobonmiaaDoor
namespace Sh
open Go.RowKit

section
variable {P : Program} {G : Tab} {k : Nat} {I0 : Addr → Prop} {ρ0 : List (Option Nat)} {M0 : List B} {w0 w : World}

def resSem (tmps : Array Value) : ResultVar → Sem Value
  | .tmp t => pure (tmps.getD t undef)
  | .cell q t => do loadVar t (← asAddr (tmps.getD q undef))

theorem results_eq (fn : Func) (tmps : Array Value) : results fn tmps = (do let vs ← fn.results.mapM (resSem tmps); pure (if h : vs.size = 1 then vs[0] else .tuple vs)) := by
  unfold results
  exact congrArg (fun f => (do let vs ← fn.results.mapM f; pure (if h : vs.size = 1 then vs[0] else .tuple vs) : Sem Value)) (funext fun x => by cases x <;> rfl)

theorem resOne_ok {I : Addr → Prop} {ρ : List (Option Nat)} {st : St} {a : Act} (hS : Sat I ρ st.mem w) (hT : F2 (VR w I ρ st.mem) st.tmps a.tmps.toList) {r : ResultVar} {u : U} (h : resOne P st r = some u) :
    ∃ v, (resSem a.tmps r).run P w = .ok v w ∧ UR w I ρ st.mem u v := by
  cases r with
  | tmp t =>
    simp only [resOne] at h
    have ht := opnd_ok hT (.tmp t)
    split at h
    · rename_i u' he
      rw [he] at ht
      simp only [Option.some.injEq] at h; subst h
      exact ⟨_, rfl, ht⟩
    · cases h
  | cell q t =>
    simp only [resOne] at h
    have hq := opnd_ok hT (.tmp q)
    split at h
    · rename_i b off he hk
      rw [he] at hq
      split at h
      · rename_i cs hM
        cases hb : Nat.ble (off + P.cellsOf t) cs.length with
        | false => simp [hb] at h
        | true =>
          simp only [hb, cond_true, Option.some.injEq] at h; subst h
          rw [Nat.ble_eq] at hb
          obtain ⟨rb, cs0, h1, h2, h3⟩ := hq
          obtain ⟨arr, T, h4, h5, _⟩ := heap_of_var hS hM h2
          have hsz : arr.size = cs.length := by rw [F2.length h5]; simp
          refine ⟨.agg ((arr.toList.drop off).take (P.cellsOf t)).toArray, ?_, ⟨_, rfl, by simpa using F2.take _ (F2.drop _ h5)⟩⟩
          have hr := run_loadVar_agg (P := P) (w := w) (t := t) (a := ⟨rb, off, none⟩) hk ((arr.toList.drop off).take (P.cellsOf t)) (by simp; omega) (fun j v hv => by
            rw [ptr_cell (b := b) (cs := cs) h4 j]
            rw [List.getElem?_take] at hv
            split at hv
            · simpa using hv
            · cases hv)
          have h3' : a.tmps.getD q undef = .pointer (some ⟨rb, off, none⟩) := h3
          simp only [resSem, h3', asAddr, Sem.run_bind, Sem.run_pure, Result.andThen_ok, hr]
      · cases h
    · rename_i b off he hk
      rw [he] at hq
      split at h
      · rename_i cs hM
        split at h
        · rename_i c hc
          simp only [Option.some.injEq] at h; subst h
          obtain ⟨rb, cs0, h1, h2, h3⟩ := hq
          obtain ⟨arr, T, h4, h5, _⟩ := heap_of_var hS hM h2
          obtain ⟨v, hv, hcr⟩ := F2.get h5 hc
          have hr := run_loadVar_one (P := P) (w := w) (t := t) (a := ⟨rb, off, none⟩) (v := v) hk (by rw [cell_of_row w rb off arr T (0, 0) h4]; simpa using hv)
          have h3' : a.tmps.getD q undef = .pointer (some ⟨rb, off, none⟩) := h3
          exact ⟨v, by simp only [resSem, h3', asAddr, Sem.run_bind, Sem.run_pure, Result.andThen_ok, hr], hcr⟩
        · cases h
      · cases h
    · cases h

theorem resAll_ok {I : Addr → Prop} {ρ : List (Option Nat)} {st : St} {a : Act} (hS : Sat I ρ st.mem w) (hT : F2 (VR w I ρ st.mem) st.tmps a.tmps.toList) : ∀ (rs : List ResultVar) (us : List U), resAll P st rs = some us →
    ∃ vs, (rs.mapM (resSem a.tmps)).run P w = .ok vs w ∧ F2 (UR w I ρ st.mem) us vs := by
  intro rs
  induction rs with
  | nil => intro us h; simp only [resAll, Option.some.injEq] at h; subst h; exact ⟨[], rfl, trivial⟩
  | cons r rs ih =>
    intro us h
    simp only [resAll] at h
    split at h
    · rename_i u us' h1 h2
      simp only [Option.some.injEq] at h; subst h
      obtain ⟨v, hv, hr⟩ := resOne_ok hS hT h1
      obtain ⟨vs, hvs, hrs⟩ := ih us' h2
      refine ⟨v :: vs, ?_, hr, hrs⟩
      rw [List.mapM_cons, Sem.run_bind]
      rw [hv]
      simp only [Result.andThen_ok, Sem.run_bind]
      rw [hvs]
      rfl
    · cases h

theorem resV_ok {I : Addr → Prop} {ρ : List (Option Nat)} {st : St} {a : Act} {fn : Func} {v : V} (hS : Sat I ρ st.mem w) (hT : F2 (VR w I ρ st.mem) st.tmps a.tmps.toList) (h : resV P fn st = some v) :
    ∃ u, (results fn a.tmps).run P w = .ok u w ∧ VR w I ρ st.mem v u := by
  unfold resV at h
  have key : ∀ us, resAll P st fn.results.toList = some us → ∃ vs, (results fn a.tmps).run P w = .ok (if h : vs.length = 1 then vs[0]'(by omega) else .tuple vs.toArray) w ∧ F2 (UR w I ρ st.mem) us vs := by
    intro us hus
    obtain ⟨vs, h1, h2⟩ := resAll_ok hS hT _ _ hus
    refine ⟨vs, ?_, h2⟩
    rw [results_eq, Sem.run_bind, Array.mapM_eq_mapM_toList, Sem.run_map, h1]
    simp only [Result.andThen_ok, Sem.run_pure]
    congr 1
  split at h
  · rename_i u hr
    obtain ⟨vs, h1, h2⟩ := key _ hr
    simp only [Option.some.injEq] at h; subst h
    obtain ⟨v, vs', rfl, h3, h4⟩ := F2.cons_left h2
    obtain rfl := F2.nil_left h4
    exact ⟨v, h1, h3⟩
  · rename_i us hne hr
    obtain ⟨vs, h1, h2⟩ := key _ hr
    simp only [Option.some.injEq] at h; subst h
    have hl : ¬ vs.length = 1 := by
      rw [← F2.length h2]
      intro hl
      obtain ⟨u, hu⟩ := List.length_eq_one_iff.1 hl
      exact hne u hu
    rw [dif_neg hl] at h1
    exact ⟨_, h1, vs.toArray, rfl, h2⟩
  · cases h

def RunOK (P : Program) (loop : LoopF) : Prop := ∀ c st x st', loop c st = some (x, st') → ∀ (k : Nat) (I0 : Addr → Prop) (ρ0 : List (Option Nat)) (M0 : List B) (w0 : World) (n : Nat) (a : Act) (w : World), Sim k I0 ρ0 M0 w0 st a w → k ≤ st.mem.length → n ≤ st.mem.length →
  c.wp P (Ends k I0 ρ0 M0 w0 x st' n) a w

theorem shrink_ok {v : V} {u : Value} {M : List B} {I : Addr → Prop} {ρ : List (Option Nat)} {n : Nat} (hk : k ≤ n) (hS : Sat I ρ M w) (hv : VR w I ρ M v u) (hE : Ext k I0 ρ0 M0 w0 I ρ M w) :
    ∃ I' ρ', Sat I' ρ' (shrink n v M) w ∧ VR w I' ρ' (shrink n v M) v u ∧ Ext k I0 ρ0 M0 w0 I' ρ' (shrink n v M) w := by
  unfold shrink
  cases hb : belowV n v && (M.take n).all (belowB n) with
  | false => exact ⟨I, ρ, hS, hv, hE⟩
  | true =>
    simp only [Bool.and_eq_true] at hb
    simp only [cond_true]
    have hs : Sim k I0 ρ0 M0 w0 ⟨[v], M⟩ ⟨#[u], []⟩ w := ⟨⟨I, ρ, hS, ⟨hv, trivial⟩, hE⟩, rfl⟩
    obtain ⟨⟨I', ρ', h1, h2, h3⟩, _⟩ := trunc_ok hs hk
    simp only [trunc, hb.2, cond_true, List.map_cons, List.map_nil, clearV, hb.1] at h1 h2 h3
    exact ⟨I', ρ', h1, h2.1, h3⟩

theorem shrink_length {n : Nat} {v : V} {M : List B} (h : n ≤ M.length) : n ≤ (shrink n v M).length := by
  unfold shrink
  cases belowV n v && (M.take n).all (belowB n) with
  | false => exact h
  | true => simp only [cond_true, List.length_take]; omega

def RunC (P : Program) (loop : LoopF) (c : Code) : Prop := ∀ st x st', loop c st = some (x, st') → ∀ (k : Nat) (I0 : Addr → Prop) (ρ0 : List (Option Nat)) (M0 : List B) (w0 : World) (n : Nat) (a : Act) (w : World), Sim k I0 ρ0 M0 w0 st a w → k ≤ st.mem.length → n ≤ st.mem.length →
  c.wp P (Ends k I0 ρ0 M0 w0 x st' n) a w

theorem callF_ok1 {loop : LoopF} {f : FuncId} (hR : ∀ fn c, P.funcs[f]? = some fn → fn.body = some c → RunC P loop c) : ∀ us mem v mem', callF P loop f us mem = some (v, mem') → Enters P f ∧
  ∀ (I : Addr → Prop) (ρ : List (Option Nat)) (w : World) (vs : List Value), Sat I ρ mem w → F2 (UR w I ρ mem) us vs →
    Calls P f vs.toArray w fun e w' => ∃ u I' ρ', e = .returned u ∧ Sat I' ρ' mem' w' ∧ VR w' I' ρ' mem' v u ∧ Ext mem.length I ρ mem w I' ρ' mem' w' ∧ mem.length ≤ mem'.length := by
  intro us mem v mem' h
  unfold callF at h
  split at h
  · rename_i fn hf
    split at h
    · rename_i c hb
      cases hname : fn.name == "runtime.NumGoroutine" with
      | true => simp [hname] at h
      | false =>
        simp only [hname, cond_false] at h
        have main : ∀ x st, loop c (startF fn us mem) = some (x, st) → (x = .norm ∨ x = .ret) → (match resV P fn st with | some v => some (v, shrink mem.length v st.mem) | none => none) = some (v, mem') →
            Enters P f ∧ ∀ (I : Addr → Prop) (ρ : List (Option Nat)) (w : World) (vs : List Value), Sat I ρ mem w → F2 (UR w I ρ mem) us vs →
              Calls P f vs.toArray w fun e w' => ∃ u I' ρ', e = .returned u ∧ Sat I' ρ' mem' w' ∧ VR w' I' ρ' mem' v u ∧ Ext mem.length I ρ mem w I' ρ' mem' w' ∧ mem.length ≤ mem'.length := by
          intro x st hrun hx hres
          split at hres
          case h_2 => cases hres
          rename_i v' hv'
          simp only [Option.some.injEq, Prod.mk.injEq] at hres
          obtain ⟨rfl, rfl⟩ := hres
          have hend : ∀ (I : Addr → Prop) (ρ : List (Option Nat)) (w : World) (vs : List Value), Sat I ρ mem w → F2 (UR w I ρ mem) us vs →
              c.wp P (Ends mem.length I ρ mem w x st mem.length) { tmps := vs.toArray ++ Array.replicate (fn.ntmps - vs.toArray.size) undef, defers := [] } w := by
            intro I ρ w vs hS hus
            refine hR fn c hf hb (startF fn us mem) x st hrun mem.length I ρ mem w mem.length _ w ⟨⟨I, ρ, hS, ?_, .refl⟩, rfl⟩ (Nat.le_refl _) (Nat.le_refl _)
            simp only [startF, Array.toList_append, Array.toList_replicate]
            refine F2.append (F2.map (f := V.w) (Q := UR w I ρ mem) (fun _ _ h => h) hus) ?_
            have : us.length = vs.toArray.size := by rw [F2.length hus]; simp
            rw [this]
            exact F2.replicate ⟨#[], rfl, trivial⟩ _
          refine ⟨⟨fn, c, hf, hb, hname⟩, ?_⟩
          · intro I ρ w vs hS hus
            refine calls_of_wp hf hb (wp_mono (hend I ρ w vs hS hus) ?_)
            rintro e a' w' ⟨rfl, ⟨⟨I', ρ', s1, s2, s3⟩, hd⟩, hl⟩
            obtain ⟨u, hu, hvr⟩ := resV_ok s1 s2 hv'
            obtain ⟨I2, ρ2, t1, t2, t3⟩ := shrink_ok (Nat.le_refl _) s1 hvr s3
            rcases hx with rfl | rfl
            · exact ⟨hd, u, hu, u, I2, ρ2, rfl, t1, t2, t3, shrink_length hl⟩
            · exact ⟨hd, u, hu, u, I2, ρ2, rfl, t1, t2, t3, shrink_length hl⟩
        split at h
        · rename_i st hrun; exact main _ st hrun (.inl rfl) h
        · rename_i st hrun; exact main _ st hrun (.inr rfl) h
        · cases h
    · cases h
  · cases h

theorem callF_ok {loop : LoopF} (hR : RunOK P loop) : CallOK P (callF P loop) := fun f us mem v mem' h => callF_ok1 (f := f) (fun _ c _ _ => hR c) us mem v mem' h

theorem run_ok (hG : GOK P G) (hD : RegDOK P G) : ∀ n, RunOK P (run P G n) ∧ LoopOK P n (run P G n) := by
  intro n
  induction n with
  | zero => exact ⟨(fun c st x st' h => by cases h), (fun c st x st' h => by cases h)⟩
  | succ n ih =>
    have hC := callF_ok ih.1
    refine ⟨fun c st x st' h k I0 ρ0 M0 w0 m a w hs hk hm => (evC_ok hG hD hC ih.2 c st x st' h k I0 ρ0 M0 w0 m a w hs hk hm).1,
      fun c st x st' h k I0 ρ0 M0 w0 m a w hs hk hm => (evC_ok hG hD hC ih.2 (.loop c) st x st' h k I0 ρ0 M0 w0 m a w hs hk hm).2 c rfl⟩

end
end Sh
end Go.Proofs.YtamdjlpobonmiaaDoor

/- The evaluator that hands on what comes behind is the evaluator. -/
namespace Go.Proofs.YtamdjlpobonmiaaDoor
namespace Sh

section
variable {P : Program} {G : Tab} {R : Type}

theorem bind_cond {α β : Type} (b : Bool) (x y : Option α) (f : α → Option β) : (bif b then x else y).bind f = bif b then x.bind f else y.bind f := by cases b <;> rfl

def CallEq (call : CallF) (cK : CallK R) : Prop := ∀ f us m k, cK f us m k = (call f us m).bind fun p => k p.1 p.2
def LoopEq (loop : LoopF) (lK : LoopK R) : Prop := ∀ c st k, lK c st k = (loop c st).bind fun p => k p.1 p.2

theorem exRK_eq {call : CallF} {cK : CallK R} (hc : CallEq call cK) (o : Oper) (st : St) (k : St → Option R) : exRK P G cK o st k = (exR P G call o st).bind k := by
  unfold exRK exR
  split
  · rw [bind_cond]; rfl
  · split
    · split
      · rw [hc]
        split
        · rename_i h; rw [h]; rfl
        · rename_i h; rw [h]; rfl
      · rfl
    · rfl

theorem stepRK_eq {call : CallF} {cK : CallK R} (hc : CallEq call cK) (ops : Array Oper) (o : Oper) (st : St) (k : St → Option R) : stepRK P G cK ops o st k = (stepR P G call ops o st).bind k := by
  unfold stepRK stepR
  split
  · exact exRK_eq hc o st k
  · rfl
  · rename_i d b want _
    cases b <;> cases want <;> simp only [cond_true, cond_false]
    · exact exRK_eq hc _ _ _
    · rfl
    · rfl
    · exact exRK_eq hc _ _ _
  · rfl

theorem regRK_eq {call : CallF} {cK : CallK R} (hc : CallEq call cK) (ops : Array Oper) : ∀ (os : List Oper) (st : St) (k : St → Option R), regRK P G cK ops os st k = (regR P G call ops os st).bind k
  | [], _, _ => rfl
  | o :: os, st, k => by
    simp only [regRK, regR]
    rw [stepRK_eq hc]
    cases stepR P G call ops o st with
    | none => rfl
    | some st' => exact regRK_eq hc ops os st' k

theorem gd_test {ops : Array Oper} {ts : List V} {o : Oper} {d : Nat} {b want : Bool} (h : gd ops ts o = .test d b want) : ts[d]? = some (vb b) := by
  unfold gd at h
  split at h
  · cases h
  · split at h
    · cases h
    · split at h
      · cases h
      · rename_i b' h1
        injection h with e1 e2 e3
        subst e1; subst e2
        exact h1
      · cases h
      · cases h

theorem stepDK_eq (ops : Array Oper) (slot : Nat) (o : Oper) (st : St) (k : St → Rec → Option R) :
    stepDK P G ops slot o st k = match stepD P G ops slot o st with
      | some (true, st', r) => k st' r
      | _ => none := by
  have hex : (match exD P G ops slot o st with
      | some (ok, st', r) => bif ok then k st' r else none
      | none => none) = match exD P G ops slot o st with
      | some (true, st', r) => k st' r
      | _ => none := by
    cases exD P G ops slot o st with
    | none => rfl
    | some p => obtain ⟨ok, st', r⟩ := p; cases ok <;> rfl
  unfold stepDK stepD
  split
  · exact hex
  · rfl
  · rename_i d b want hg
    have ht := gd_test hg
    cases b <;> cases want <;> simp only [cond_true, cond_false, set_self ht] <;> first | exact hex | rfl
  · rfl

theorem goDK_eq (ops : Array Oper) (base : Nat) : ∀ (os : List Oper) (i : Nat) (st : St) (rs : List Rec) (k : St → List Rec → Option R),
    goDK P G ops base i os st rs k = (goD P G ops base i os st rs).bind fun p => k p.1 p.2
  | [], _, _, _, _ => rfl
  | o :: os, i, st, rs, k => by
    simp only [goDK, goD]
    rw [stepDK_eq]
    cases stepD P G ops (base + i * stride) o st with
    | none => rfl
    | some p =>
      obtain ⟨ok, st', r⟩ := p
      cases ok with
      | true => exact goDK_eq ops base os (i + 1) st' (rs ++ [r]) k
      | false => rfl

theorem regDK_eq (ops : Array Oper) (st : St) (k : St → Option R) : regDK P G ops st k = (regD P G ops st).bind k := by
  unfold regDK regD
  rw [goDK_eq]
  cases goD P G ops st.mem.length 0 ops.toList (startD st ops) [] with
  | none => rfl
  | some p =>
    obtain ⟨st', rs⟩ := p
    show (bif drawOk P ops rs then k (trimD st.mem.length st') else none) = (bif drawOk P ops rs then some (trimD st.mem.length st') else none).bind k
    rw [bind_cond]; rfl

theorem evK_eq {call : CallF} {cK : CallK R} {loop : LoopF} {lK : LoopK R} (hc : CallEq call cK) (hl : LoopEq loop lK) : ∀ (c : Code) (st : St) (k : Ex → St → Option R), evK P G lK cK c st k = (evC P G loop call c st).bind fun p => k p.1 p.2 := by
  intro c
  induction c with
  | skip => intro st k; rfl
  | label l => intro st k; rfl
  | region id ops draw =>
    intro st k
    simp only [evK, evC]
    cases draw with
    | true =>
      simp only [cond_true]
      rw [regDK_eq]
      cases regD P G ops st <;> rfl
    | false =>
      simp only [cond_false]
      rw [regRK_eq hc]
      cases regR P G call ops ops.toList st <;> rfl
  | seq x y ihx ihy =>
    intro st k
    simp only [evK, evC]
    rw [ihx]
    cases hx : evC P G loop call x st with
    | none => rfl
    | some p =>
      obtain ⟨e, st'⟩ := p
      cases e with
      | norm => exact ihy st' k
      | exit i => rfl
      | ret => rfl
  | cond c x y ihx ihy =>
    intro st k
    simp only [evK, evC]
    split
    · rename_i b _
      cases b with
      | true => exact ihx _ k
      | false => exact ihy _ k
    · rfl
  | block id x ihx =>
    intro st k
    simp only [evK, evC]
    rw [ihx]
    cases hx : evC P G loop call x st with
    | none => rfl
    | some p =>
      obtain ⟨e, st'⟩ := p
      cases e with
      | norm => rfl
      | exit i =>
        show (bif Nat.beq i id then k .norm st' else k (.exit i) st') = (bif Nat.beq i id then some (.norm, st') else some (.exit i, st')).bind fun p => k p.1 p.2
        rw [bind_cond]; rfl
      | ret => rfl
  | loop x ihx =>
    intro st k
    simp only [evK, evC]
    rw [ihx]
    cases hx : evC P G loop call x st with
    | none => rfl
    | some p =>
      obtain ⟨e, st'⟩ := p
      cases e with
      | norm => exact hl _ _ _
      | exit i => rfl
      | ret => rfl
  | exit id => intro st k; rfl
  | ret => intro st k; rfl
  | _ => intro st k; rfl

theorem callK_eq {loop : LoopF} {lK : LoopK R} (hl : LoopEq loop lK) : CallEq (callF P loop) (callK P lK) := by
  intro f us m k
  unfold callF callK
  cases P.funcs[f]? with
  | none => rfl
  | some fn =>
    simp only
    cases fn.body with
    | none => rfl
    | some c =>
      simp only
      rw [bind_cond]
      cases fn.name == "runtime.NumGoroutine" with
      | true => rfl
      | false =>
        simp only [cond_false]
        rw [hl]
        cases loop c (startF fn us m) with
        | none => rfl
        | some p =>
          obtain ⟨e, st⟩ := p
          cases e with
          | exit i => rfl
          | norm =>
            simp only [Option.bind_some]
            cases resV P fn st <;> rfl
          | ret =>
            simp only [Option.bind_some]
            cases resV P fn st <;> rfl

theorem runK_eq : ∀ n, LoopEq (run P G n) (runK (R := R) P G n)
  | 0 => fun _ _ _ => rfl
  | n + 1 => fun c st k => evK_eq (callK_eq (runK_eq n)) (runK_eq n) c st k

/-- A function on shadow arguments in shadow memory: its result and the memory behind it. -/
def fnK (P : Program) (G : Tab) (n : Nat) (fn : Func) (us : List U) (mem : List B) : Option (V × List B) :=
  match fn.body with
  | some c => runK P G n c (startF fn us mem) fun e st => match e with
    | .exit _ => none
    | _ => match resV P fn st with
      | some v => some (v, st.mem)
      | none => none
  | none => none

end
end Sh
end Go.Proofs.YtamdjlpobonmiaaDoor

/- Regions that draw their order: what an operation leans on. -/
namespace Go.Proofs.YtamdjlpobonmiaaDoor
namespace Sh
open Go.RowKit

section
variable {P : Program} {G : Tab}

theorem partsU_congr {ev ev' : Operand → V} : ∀ {ps : List (Nat × Operand)}, (∀ p ∈ ps, ev p.2 = ev' p.2) → partsU ev ps = partsU ev' ps
  | [], _ => rfl
  | p :: ps, h => by
    obtain ⟨i, x⟩ := p
    simp only [partsU, h (i, x) (by simp), partsU_congr (fun q hq => h q (List.mem_cons_of_mem _ hq))]
theorem argsU_congr {ev ev' : Operand → V} : ∀ {ps : List Operand}, (∀ p ∈ ps, ev p = ev' p) → argsU ev ps = argsU ev' ps
  | [], _ => rfl
  | p :: ps, h => by simp only [argsU, h p (by simp), argsU_congr (fun q hq => h q (List.mem_cons_of_mem _ hq))]
theorem ptrsOf_congr {ev ev' : Operand → V} : ∀ {ps : List Operand}, (∀ p ∈ ps, ev p = ev' p) → ptrsOf ev ps = ptrsOf ev' ps
  | [], _ => rfl
  | p :: ps, h => by simp only [ptrsOf, h p (by simp), ptrsOf_congr (fun q hq => h q (List.mem_cons_of_mem _ hq))]
theorem flatMap_congr' {ev ev' : Operand → V} : ∀ {ps : List Operand}, (∀ p ∈ ps, ev p = ev' p) → (ps.flatMap fun x => vblocks (ev x)) = ps.flatMap fun x => vblocks (ev' x)
  | [], _ => rfl
  | p :: ps, h => by simp only [List.flatMap_cons, h p (by simp), flatMap_congr' (fun q hq => h q (List.mem_cons_of_mem _ hq))]

theorem boundOf_congr {ev ev' : Operand → V} {x : Option Operand} (h : ∀ p ∈ x.toArray, ev p = ev' p) : boundOf ev x = boundOf ev' x := by
  cases x with
  | none => rfl
  | some y => simp only [boundOf, h y (by simp)]

theorem core_congr {o : Oper} {ev ev' : Operand → V} {m : List (Nat × B)} {slot : Nat} (h : ∀ x ∈ o.op.operands, ev x = ev' x) : core P o ev m slot = core P o ev' m slot := by
  cases ho : o.op with
  | build t ps =>
    rw [ho] at h
    simp only [core, ho, partsU_congr (ev := ev) (ev' := ev') (ps := ps.toList) (fun p hp => h _ (by simp only [Op.operands, List.mem_toArray, List.mem_map]; exact ⟨p, hp, rfl⟩))]
  | buildSlice t len ps =>
    rw [ho] at h
    simp only [core, ho, partsU_congr (ev := ev) (ev' := ev') (ps := ps.toList) (fun p hp => h _ (by simp only [Op.operands, List.mem_toArray, List.mem_map]; exact ⟨p, hp, rfl⟩))]
  | makeFunc fn fs cs =>
    rw [ho] at h
    cases fn with
    | func g =>
      simp only [core, ho, ptrsOf_congr (ev := ev) (ev' := ev') (ps := fs.toList) (fun p hp => h _ (by simp only [Op.operands, Array.mem_append]; exact .inl (by simpa using hp))),
        ptrsOf_congr (ev := ev) (ev' := ev') (ps := cs.toList) (fun p hp => h _ (by simp only [Op.operands, Array.mem_append]; exact .inr (by simpa using hp)))]
    | _ => simp [core, ho]
  | slice t x lo hi mx =>
    rw [ho] at h
    cases mx with
    | some m => simp [core, ho]
    | none =>
      simp only [core, ho, boundOf_congr (ev := ev) (ev' := ev') (x := lo) (fun p hp => h p (by simp only [Op.operands, Array.mem_append]; exact .inl (.inl (.inr hp)))),
        boundOf_congr (ev := ev) (ev' := ev') (x := hi) (fun p hp => h p (by simp only [Op.operands, Array.mem_append]; exact .inl (.inr hp))), h x (by simp [Op.operands])]
  | call c =>
    rw [ho] at h
    obtain ⟨callee, args, argTypes⟩ := c
    cases callee with
    | value f => simp [core, ho]
    | invoke r mm => simp [core, ho]
    | builtin b =>
      have ha : ∀ x ∈ args.toList, ev x = ev' x := fun x hx => h x (by simp only [Op.operands, Call.operands]; simpa using hx)
      have hev : ∀ l : List Operand, (∀ x ∈ l, ev x = ev' x) → ∀ (bb : Builtin) (tl : List TypeId), True := fun _ _ _ _ => trivial
      simp only [core, ho]
      clear hev
      split
      · rename_i x t h1 _; rw [ha x (by rw [h1]; simp)]
      · rename_i x y h1; rw [ha x (by rw [h1]; simp), ha y (by rw [h1]; simp)]
      · rename_i x y h1; rw [ha x (by rw [h1]; simp), ha y (by rw [h1]; simp)]
      · rename_i x y z u h1; rw [ha x (by rw [h1]; simp), ha y (by rw [h1]; simp), ha z (by rw [h1]; simp), ha u (by rw [h1]; simp)]
      · rename_i x y z u h1; rw [ha x (by rw [h1]; simp), ha y (by rw [h1]; simp), ha z (by rw [h1]; simp), ha u (by rw [h1]; simp)]
      · rename_i x y t t' h1 _; rw [ha x (by rw [h1]; simp), ha y (by rw [h1]; simp)]
      · rfl
  | move x => rw [ho] at h; simp only [core, ho, h x (by simp [Op.operands])]
  | assign x => rw [ho] at h; simp only [core, ho, h x (by simp [Op.operands])]
  | pick c x y => rw [ho] at h; simp only [core, ho, h c (by simp [Op.operands]), h x (by simp [Op.operands]), h y (by simp [Op.operands])]
  | box t x => rw [ho] at h; simp only [core, ho, h x (by simp [Op.operands])]
  | load t x => rw [ho] at h; simp only [core, ho, h x (by simp [Op.operands])]
  | store t x y => rw [ho] at h; simp only [core, ho, h x (by simp [Op.operands]), h y (by simp [Op.operands])]
  | nilCheck x => rw [ho] at h; simp only [core, ho, h x (by simp [Op.operands])]
  | binOp op t x y yt => rw [ho] at h; simp only [core, ho, h x (by simp [Op.operands]), h y (by simp [Op.operands])]
  | unOp op t x => rw [ho] at h; simp only [core, ho, h x (by simp [Op.operands])]
  | convert s d x => rw [ho] at h; simp only [core, ho, h x (by simp [Op.operands])]
  | fieldAddr s x f => rw [ho] at h; simp only [core, ho, h x (by simp [Op.operands])]
  | field s x f => rw [ho] at h; simp only [core, ho, h x (by simp [Op.operands])]
  | indexAddr t x ix => rw [ho] at h; simp only [core, ho, h x (by simp [Op.operands]), h ix (by simp [Op.operands])]
  | index t x ix => rw [ho] at h; simp only [core, ho, h x (by simp [Op.operands]), h ix (by simp [Op.operands])]
  | extract x i => rw [ho] at h; simp only [core, ho, h x (by simp [Op.operands])]
  | _ => simp [core, ho]

theorem callOf_congr {ev ev' : Operand → V} {f : Operand} {args : List Operand} (hf : ev f = ev' f) (h : ∀ x ∈ args, ev x = ev' x) : callOf ev f args = callOf ev' f args := by
  simp only [callOf, hf, argsU_congr h]

theorem coreT_congr {o : Oper} {ev ev' : Operand → V} {m : List (Nat × B)} {slot : Nat} (h : ∀ x ∈ o.op.operands, ev x = ev' x) : coreT P G o ev m slot = coreT P G o ev' m slot := by
  unfold coreT
  split
  · rename_i f args argTypes ho
    rw [ho] at h
    rw [callOf_congr (ev := ev) (ev' := ev') (h f (by simp [Op.operands, Call.operands])) (fun x hx => h x (by simp only [Op.operands, Call.operands, Array.mem_append]; exact .inr (by simpa using hx)))]
  · rename_i t x ho
    rw [core_congr (ev := ev) (ev' := ev') h]
    rw [ho] at h
    rw [h x (by simp [Op.operands])]
  · exact core_congr h

theorem foot_congr {op : Op} {ev ev' : Operand → V} (h : ∀ x ∈ op.operands, ev x = ev' x) : foot op ev = foot op ev' := by
  cases op with
  | load t a => simp only [foot, h a (by simp [Op.operands])]
  | store t a x => simp only [foot, h a (by simp [Op.operands])]
  | call c =>
    obtain ⟨callee, args, argTypes⟩ := c
    cases callee with
    | builtin b =>
      simp only [foot]
      split
      · rename_i x l hx; rw [h x (by simp only [Op.operands, Call.operands, Array.mem_append]; right; rw [← Array.mem_toList_iff, hx]; simp)]
      · rfl
    | value f =>
      simp only [foot, h f (by simp [Op.operands, Call.operands]), flatMap_congr' (ev := ev) (ev' := ev') (ps := args.toList) (fun x hx => h x (by simp only [Op.operands, Call.operands, Array.mem_append]; exact .inr (by simpa using hx)))]
    | invoke r m => rfl
  | _ => rfl

theorem opnd_congr {ops : Array Oper} {o : Oper} {ts ts' : List V} (h : ∀ t ∈ o.looksAt ops, ts[t]? = ts'[t]?) : ∀ x ∈ o.op.operands, opnd ts x = opnd ts' x := by
  intro x hx
  cases x with
  | tmp t =>
    simp only [opnd, List.getD]
    rw [h t ?_]
    unfold Oper.looksAt
    refine List.mem_append_left _ (List.mem_filterMap.2 ⟨.tmp t, by simpa using hx, rfl⟩)
  | _ => rfl

theorem gd_congr {ops : Array Oper} {o : Oper} {ts ts' : List V} (h : ∀ t ∈ o.looksAt ops, ts[t]? = ts'[t]?) : gd ops ts o = gd ops ts' o := by
  unfold gd
  cases hg : o.guard with
  | none => rfl
  | some p =>
    obtain ⟨j, want⟩ := p
    simp only
    cases hd : (ops[j]?).bind (·.dst) with
    | none => rfl
    | some d =>
      simp only
      rw [h d ?_]
      unfold Oper.looksAt
      refine List.mem_append_right _ ?_
      rw [hg]
      simp only [hd]
      simp

theorem restrict_congr {M M' : List B} : ∀ {l : List Nat}, (∀ b ∈ l, M[b]? = M'[b]?) → restrict M l = restrict M' l
  | [], _ => rfl
  | b :: l, h => by
    simp only [restrict, List.getD, h b (by simp), restrict_congr (fun c hc => h c (List.mem_cons_of_mem _ hc))]

/-- What a step writes in memory. -/
def setMany : List B → List Nat → List B → List B
  | M, [], _ => M
  | M, b :: bs, src => setMany (M.set b (src.getD b .gone)) bs src

theorem setMany_length : ∀ (bs : List Nat) (M src : List B), (setMany M bs src).length = M.length
  | [], _, _ => rfl
  | b :: bs, M, src => by rw [setMany, setMany_length]; simp

theorem setMany_out : ∀ (bs : List Nat) (M src : List B) (x : Nat), x ∉ bs → (setMany M bs src)[x]? = M[x]?
  | [], _, _, _, _ => rfl
  | b :: bs, M, src, x, h => by
    rw [setMany, setMany_out bs _ _ x (fun hx => h (List.mem_cons_of_mem _ hx)), List.getElem?_set_ne (fun e => h (by rw [e]; simp))]

theorem setMany_in : ∀ (bs : List Nat) (M src : List B) (x : Nat), x ∈ bs → x < M.length → (setMany M bs src)[x]? = some (src.getD x .gone)
  | b :: bs, M, src, x, h, hl => by
    rw [setMany]
    by_cases hx : x ∈ bs
    · exact setMany_in bs _ _ x hx (by simpa using hl)
    · have : x = b := by
        rcases List.mem_cons.1 h with h | h
        · exact h
        · exact absurd h hx
      subst this
      rw [setMany_out bs _ _ _ hx, List.getElem?_set]
      simp [hl]

theorem setMany_comm {M : List B} {bs cs : List Nat} {src src' : List B} (h : ∀ x ∈ bs, x ∉ cs) : setMany (setMany M bs src) cs src' = setMany (setMany M cs src') bs src := by
  apply List.ext_getElem?
  intro x
  by_cases hb : x ∈ bs
  · have hc := h x hb
    rw [setMany_out cs _ _ _ hc]
    by_cases hl : x < M.length
    · rw [setMany_in bs _ _ _ hb hl, setMany_in bs _ _ _ hb (by rw [setMany_length]; exact hl)]
    · rw [List.getElem?_eq_none (by rw [setMany_length]; omega), List.getElem?_eq_none (by rw [setMany_length, setMany_length]; omega)]
  · rw [setMany_out bs _ _ _ hb]
    by_cases hc : x ∈ cs
    · by_cases hl : x < M.length
      · rw [setMany_in cs _ _ _ hc (by rw [setMany_length]; exact hl), setMany_in cs _ _ _ hc hl]
      · rw [List.getElem?_eq_none (by rw [setMany_length, setMany_length]; omega), List.getElem?_eq_none (by rw [setMany_length]; omega)]
    · rw [setMany_out cs _ _ _ hc, setMany_out cs _ _ _ hc, setMany_out bs _ _ _ hb]

theorem slotsOf_mem : ∀ {n s x : Nat}, x ∈ slotsOf s n ↔ s ≤ x ∧ x < s + n
  | 0, s, x => by simp only [slotsOf, List.not_mem_nil, false_iff]; omega
  | n + 1, s, x => by
    simp only [slotsOf, List.mem_cons, slotsOf_mem (n := n)]
    omega

theorem setAll_out : ∀ (bs : List B) (M : List B) (s x : Nat), x ∉ slotsOf s bs.length → (setAll M s bs)[x]? = M[x]?
  | [], _, _, _, _ => rfl
  | b :: bs, M, s, x, h => by
    simp only [List.length_cons, slotsOf, List.mem_cons, not_or] at h
    rw [setAll, setAll_out bs _ _ _ h.2, List.getElem?_set_ne (fun e => h.1 e.symm)]

theorem setAll_in : ∀ (bs : List B) (M M' : List B) (s x : Nat), x ∈ slotsOf s bs.length → M.length = M'.length → (setAll M s bs)[x]? = (setAll M' s bs)[x]?
  | b :: bs, M, M', s, x, h, hl => by
    simp only [setAll]
    by_cases hx : x ∈ slotsOf (s + 1) bs.length
    · exact setAll_in bs _ _ _ _ hx (by simpa using hl)
    · have : x = s := by
        simp only [List.length_cons, slotsOf, List.mem_cons] at h
        rcases h with h | h
        · exact h
        · exact absurd h hx
      subst this
      rw [setAll_out bs _ _ _ hx, setAll_out bs _ _ _ hx, List.getElem?_set, List.getElem?_set]
      simp [hl]

theorem upd_out : ∀ (m : List (Nat × B)) (M : List B) (x : Nat), x ∉ m.map (·.1) → (upd M m)[x]? = M[x]?
  | [], _, _, _ => rfl
  | (b, y) :: m, M, x, h => by
    simp only [List.map_cons, List.mem_cons, not_or] at h
    rw [upd, upd_out m _ _ h.2, List.getElem?_set_ne (fun e => h.1 e.symm)]

theorem upd_in : ∀ (m : List (Nat × B)) (M M' : List B) (x : Nat), x ∈ m.map (·.1) → M.length = M'.length → (upd M m)[x]? = (upd M' m)[x]?
  | (b, y) :: m, M, M', x, h, hl => by
    simp only [upd]
    by_cases hx : x ∈ m.map (·.1)
    · exact upd_in m _ _ _ hx (by simpa using hl)
    · have : x = b := by
        simp only [List.map_cons, List.mem_cons] at h
        rcases h with h | h
        · exact h
        · exact absurd h hx
      subst this
      rw [upd_out m _ _ hx, upd_out m _ _ hx, List.getElem?_set, List.getElem?_set]
      simp [hl]

theorem sameKeys_ok : ∀ {m : List (Nat × B)} {l : List Nat}, sameKeys m l = true → m.map (·.1) = l
  | [], [], _ => rfl
  | [], _ :: _, h => by cases h
  | (_, _) :: _, [], h => by cases h
  | (a, _) :: m, b :: l, h => by
    simp only [sameKeys, Bool.and_eq_true, Nat.beq_eq] at h
    simp only [List.map_cons, h.1, sameKeys_ok h.2]

/-- What an operation that does not write leaves. -/
theorem coreT_still {o : Oper} {ev : Operand → V} {m : List (Nat × B)} {slot : Nat} {out : Out} (hw : isWr o.op = false) (h : coreT P G o ev m slot = some out) : out.m = m ∧ out.al = [] := by
  cases ho : o.op with
  | load t a =>
    simp only [coreT, ho, core] at h
    split at h
    · split at h
      · rename_i cs _
        cases hb : Nat.ble _ _ with
        | false => rw [hb] at h; cases h
        | true => rw [hb] at h; simp only [cond_true, Option.some.injEq] at h; subst h; exact ⟨rfl, rfl⟩
      · cases h
    · split at h
      · split at h
        · simp only [Option.some.injEq] at h; subst h; exact ⟨rfl, rfl⟩
        · cases h
      · cases h
    · rename_i sz g _ _
      cases hb : Nat.ble (P.cellsOf t) sz with
      | false => rw [hb] at h; cases h
      | true => rw [hb] at h; simp only [cond_true, Option.some.injEq] at h; subst h; exact ⟨rfl, rfl⟩
    · rename_i sz g _ _
      cases hb : Nat.blt 0 sz with
      | false => rw [hb] at h; cases h
      | true => rw [hb] at h; simp only [cond_true, Option.some.injEq] at h; subst h; exact ⟨rfl, rfl⟩
    · cases h
  | call c =>
    obtain ⟨callee, args, argTypes⟩ := c
    cases callee with
    | value f => rw [ho] at hw; cases hw
    | invoke r mm => rw [ho] at hw; cases hw
    | builtin b =>
      simp only [coreT, ho, core] at h
      split at h
      · split at h
        · simp only [Option.some.injEq] at h; subst h; exact ⟨rfl, rfl⟩
        · cases h
      · split at h
        · simp only [Option.some.injEq] at h; subst h; exact ⟨rfl, rfl⟩
        · cases h
      · split at h
        · simp only [Option.some.injEq] at h; subst h; exact ⟨rfl, rfl⟩
        · cases h
      · split at h
        · simp only [Option.some.injEq] at h; subst h; exact ⟨rfl, rfl⟩
        · cases h
      · split at h
        · simp only [Option.some.injEq] at h; subst h; exact ⟨rfl, rfl⟩
        · cases h
      · rw [ho] at hw; cases hw
      · cases h
  | _ => rw [ho] at hw; cases hw

/-- What a step of a region that draws does, said of its record. -/
structure Acts (τ τ' σ' : St) (r : Rec) : Prop where
  tmps : τ'.tmps = setTmp τ.tmps r.dst (match r.dst with
    | some d => σ'.tmps.getD d .any
    | none => .any)
  mem : τ'.mem = bif r.wr then setMany τ.mem r.ms σ'.mem else τ.mem

theorem setTmp_getD {ts ts' : List V} {d : Option Tmp} {v : V} (hl : ts.length = ts'.length) : setTmp ts d v = setTmp ts d (match d with
    | some x => (setTmp ts' d v).getD x .any
    | none => .any) := by
  cases d with
  | none => rfl
  | some d =>
    simp only [setTmp]
    rcases Nat.lt_or_ge d ts'.length with h | h
    · simp [List.getD, h]
    · rw [List.set_eq_of_length_le (hl ▸ h), List.set_eq_of_length_le (hl ▸ h)]

theorem stepD_local {ops : Array Oper} {slot : Nat} {o : Oper} {σ σ' τ : St} {r : Rec} (h : stepD P G ops slot o σ = some (true, σ', r)) (ht : ∀ t ∈ r.looks, τ.tmps[t]? = σ.tmps[t]?) (hm : ∀ b ∈ r.ms, τ.mem[b]? = σ.mem[b]?)
    (hlt : τ.tmps.length = σ.tmps.length) (hlm : τ.mem.length = σ.mem.length) : r.looks = o.looksAt ops ∧ r.dst = o.dst ∧ ∃ τ', stepD P G ops slot o τ = some (true, τ', r) ∧ Acts τ τ' σ' r := by
  have hex : ∀ σ', exD P G ops slot o σ = some (true, σ', r) → (∀ t ∈ r.looks, τ.tmps[t]? = σ.tmps[t]?) → r.looks = o.looksAt ops ∧ r.dst = o.dst ∧ ∃ τ', exD P G ops slot o τ = some (true, τ', r) ∧ Acts τ τ' σ' r := by
    intro σ' h ht
    unfold exD at h
    split at h
    case h_2 => cases h
    rename_i ok v m al hc
    cases hb : sameKeys m (foot o.op (opnd σ.tmps)) && Nat.ble al.length stride && (foot o.op (opnd σ.tmps)).all (fun b => Nat.blt b slot) with
    | false => rw [hb] at h; cases h
    | true =>
      rw [hb] at h
      simp only [cond_true, Option.some.injEq, Prod.mk.injEq] at h
      obtain ⟨rfl, rfl, rfl⟩ := h
      simp only at ht hm
      have hops := opnd_congr (o := o) ht
      have hfoot : foot o.op (opnd τ.tmps) = foot o.op (opnd σ.tmps) := foot_congr hops
      have hres : restrict τ.mem (foot o.op (opnd σ.tmps)) = restrict σ.mem (foot o.op (opnd σ.tmps)) := restrict_congr fun b hb => hm b (List.mem_append_left _ hb)
      have hc' : coreT P G o (opnd τ.tmps) (restrict τ.mem (foot o.op (opnd τ.tmps))) slot = some ⟨true, v, m, al⟩ := by rw [hfoot, hres, coreT_congr hops]; exact hc
      refine ⟨rfl, rfl, ⟨setTmp τ.tmps o.dst v, setAll (upd τ.mem m) slot al⟩, ?_, ?_, ?_⟩
      · unfold exD
        rw [hc']
        simp only [hfoot, hb, cond_true]
      · exact setTmp_getD (d := o.dst) (v := v) hlt
      · simp only [Bool.and_eq_true] at hb
        have hkeys := sameKeys_ok hb.1.1
        simp only
        cases hw : isWr o.op with
        | false =>
          obtain ⟨h1, h2⟩ := coreT_still hw hc
          simp only at h1 h2
          subst h1; subst h2
          simp only [cond_false, setAll]
          rw [← hres, upd_restrict]
        | true =>
          simp only [cond_true]
          apply List.ext_getElem?
          intro x
          by_cases hx : x ∈ foot o.op (opnd σ.tmps) ++ slotsOf slot al.length
          · by_cases hl : x < τ.mem.length
            · rw [setMany_in _ _ _ _ hx hl]
              have hl2 : x < (setAll (upd σ.mem m) slot al).length := by rw [setAll_length, upd_length]; omega
              have hval : (setAll (upd σ.mem m) slot al).getD x .gone = (setAll (upd σ.mem m) slot al)[x] := by simp [List.getD, hl2]
              rw [hval, ← List.getElem?_eq_getElem hl2]
              by_cases hs : x ∈ slotsOf slot al.length
              · exact setAll_in al _ _ _ _ hs (by rw [upd_length, upd_length, hlm])
              · rw [setAll_out al _ _ _ hs, setAll_out al _ _ _ hs]
                have hk : x ∈ m.map (·.1) := by
                  rw [hkeys]
                  rcases List.mem_append.1 hx with h | h
                  · exact h
                  · exact absurd h hs
                exact upd_in m _ _ _ hk hlm
            · rw [List.getElem?_eq_none (by rw [setAll_length, upd_length]; omega), List.getElem?_eq_none (by rw [setMany_length]; omega)]
          · rw [setMany_out _ _ _ _ hx]
            simp only [List.mem_append, not_or] at hx
            rw [setAll_out al _ _ _ hx.2, upd_out m _ _ (by rw [hkeys]; exact hx.1)]
  have hskip : ∀ σ', some (true, skipO o σ, skipRec ops o) = some (true, σ', r) → r.looks = o.looksAt ops ∧ r.dst = o.dst ∧ ∃ τ', some (true, skipO o τ, skipRec ops o) = some (true, τ', r) ∧ Acts τ τ' σ' r := by
    intro σ' h
    simp only [Option.some.injEq, Prod.mk.injEq, true_and] at h
    obtain ⟨rfl, rfl⟩ := h
    exact ⟨rfl, rfl, skipO o τ, rfl, setTmp_getD (d := o.dst) (v := .tup []) hlt, rfl⟩
  have hlooks : r.looks = o.looksAt ops := by
    unfold stepD at h
    have hr : ∀ σ', exD P G ops slot o σ = some (true, σ', r) → r.looks = o.looksAt ops := by
      intro σ' h
      unfold exD at h
      split at h
      case h_2 => cases h
      cases hb : sameKeys _ (foot o.op (opnd σ.tmps)) && Nat.ble _ stride && (foot o.op (opnd σ.tmps)).all (fun b => Nat.blt b slot) with
      | false => rw [hb] at h; cases h
      | true =>
        rw [hb] at h
        simp only [cond_true, Option.some.injEq, Prod.mk.injEq] at h
        obtain ⟨_, _, rfl⟩ := h
        rfl
    split at h
    · exact hr _ h
    · exact (hskip _ h).1
    · rename_i d b want _
      cases hbw : b == want with
      | true => rw [hbw] at h; exact hr _ h
      | false => rw [hbw] at h; exact (hskip _ h).1
    · cases h
  rw [hlooks] at ht
  have hgd := gd_congr (o := o) ht
  unfold stepD at h ⊢
  rw [hgd]
  split at h
  · exact hex _ h (by rw [hlooks]; exact ht)
  · exact hskip _ h
  · rename_i d b want _
    cases hbw : b == want with
    | true => rw [hbw] at h; exact hex _ h (by rw [hlooks]; exact ht)
    | false => rw [hbw] at h; exact hskip _ h
  · cases h

end
end Sh
end Go.Proofs.YtamdjlpobonmiaaDoor
