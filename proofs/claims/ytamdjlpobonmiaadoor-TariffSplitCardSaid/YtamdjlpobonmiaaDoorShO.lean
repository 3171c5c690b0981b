/- The evaluator that hands on what comes behind is the evaluator. -/
import Derived.Test.YtamdjlpobonmiaaDoorShN
namespace Go.Proofs.YtamdjlpobonmiaaDoor
namespace Sh

section
variable {P : Program} {G : Tab} {R : Type}

theorem bind_cond {α β : Type} (b : Bool) (x y : Option α) (f : α → Option β) : (bif b then x else y).bind f = bif b then x.bind f else y.bind f := by cases b <;> rfl

def CallEq (call : CallF) (cK : CallK R) : Prop := ∀ f us m k, cK f us m k = (call f us m).bind fun p => k p.1 p.2
def LoopEq (loop : LoopF) (lK : LoopK R) : Prop := ∀ c st k, lK c st k = (loop c st).bind fun p => k p.1 p.2

theorem exRK_eq {call : CallF} {cK : CallK R} (hc : CallEq call cK) (o : Oper) (st : St) (k : St → Option R) : exRK P G cK o st k = (exR P G call o st).bind k := by
  unfold exRK exR
  split
  · rw [bind_cond]; rfl
  · split
    · split
      · rw [hc]
        split
        · rename_i h; rw [h]; rfl
        · rename_i h; rw [h]; rfl
      · rfl
    · rfl

theorem stepRK_eq {call : CallF} {cK : CallK R} (hc : CallEq call cK) (ops : Array Oper) (o : Oper) (st : St) (k : St → Option R) : stepRK P G cK ops o st k = (stepR P G call ops o st).bind k := by
  unfold stepRK stepR
  split
  · exact exRK_eq hc o st k
  · rfl
  · rename_i d b want _
    cases b <;> cases want <;> simp only [cond_true, cond_false]
    · exact exRK_eq hc _ _ _
    · rfl
    · rfl
    · exact exRK_eq hc _ _ _
  · rfl

theorem regRK_eq {call : CallF} {cK : CallK R} (hc : CallEq call cK) (ops : Array Oper) : ∀ (os : List Oper) (st : St) (k : St → Option R), regRK P G cK ops os st k = (regR P G call ops os st).bind k
  | [], _, _ => rfl
  | o :: os, st, k => by
    simp only [regRK, regR]
    rw [stepRK_eq hc]
    cases stepR P G call ops o st with
    | none => rfl
    | some st' => exact regRK_eq hc ops os st' k

theorem gd_test {ops : Array Oper} {ts : List V} {o : Oper} {d : Nat} {b want : Bool} (h : gd ops ts o = .test d b want) : ts[d]? = some (vb b) := by
  unfold gd at h
  split at h
  · cases h
  · split at h
    · cases h
    · split at h
      · cases h
      · rename_i b' h1
        injection h with e1 e2 e3
        subst e1; subst e2
        exact h1
      · cases h
      · cases h

theorem stepDK_eq (ops : Array Oper) (slot : Nat) (o : Oper) (st : St) (k : St → Rec → Option R) :
    stepDK P G ops slot o st k = match stepD P G ops slot o st with
      | some (true, st', r) => k st' r
      | _ => none := by
  have hex : (match exD P G ops slot o st with
      | some (ok, st', r) => bif ok then k st' r else none
      | none => none) = match exD P G ops slot o st with
      | some (true, st', r) => k st' r
      | _ => none := by
    cases exD P G ops slot o st with
    | none => rfl
    | some p => obtain ⟨ok, st', r⟩ := p; cases ok <;> rfl
  unfold stepDK stepD
  split
  · exact hex
  · rfl
  · rename_i d b want hg
    have ht := gd_test hg
    cases b <;> cases want <;> simp only [cond_true, cond_false, set_self ht] <;> first | exact hex | rfl
  · rfl

theorem goDK_eq (ops : Array Oper) (base : Nat) : ∀ (os : List Oper) (i : Nat) (st : St) (rs : List Rec) (k : St → List Rec → Option R),
    goDK P G ops base i os st rs k = (goD P G ops base i os st rs).bind fun p => k p.1 p.2
  | [], _, _, _, _ => rfl
  | o :: os, i, st, rs, k => by
    simp only [goDK, goD]
    rw [stepDK_eq]
    cases stepD P G ops (base + i * stride) o st with
    | none => rfl
    | some p =>
      obtain ⟨ok, st', r⟩ := p
      cases ok with
      | true => exact goDK_eq ops base os (i + 1) st' (rs ++ [r]) k
      | false => rfl

theorem regDK_eq (ops : Array Oper) (st : St) (k : St → Option R) : regDK P G ops st k = (regD P G ops st).bind k := by
  unfold regDK regD
  rw [goDK_eq]
  cases goD P G ops st.mem.length 0 ops.toList (startD st ops) [] with
  | none => rfl
  | some p =>
    obtain ⟨st', rs⟩ := p
    show (bif drawOk P ops rs then k (trimD st.mem.length st') else none) = (bif drawOk P ops rs then some (trimD st.mem.length st') else none).bind k
    rw [bind_cond]; rfl

theorem evK_eq {call : CallF} {cK : CallK R} {loop : LoopF} {lK : LoopK R} (hc : CallEq call cK) (hl : LoopEq loop lK) : ∀ (c : Code) (st : St) (k : Ex → St → Option R), evK P G lK cK c st k = (evC P G loop call c st).bind fun p => k p.1 p.2 := by
  intro c
  induction c with
  | skip => intro st k; rfl
  | label l => intro st k; rfl
  | region id ops draw =>
    intro st k
    simp only [evK, evC]
    cases draw with
    | true =>
      simp only [cond_true]
      rw [regDK_eq]
      cases regD P G ops st <;> rfl
    | false =>
      simp only [cond_false]
      rw [regRK_eq hc]
      cases regR P G call ops ops.toList st <;> rfl
  | seq x y ihx ihy =>
    intro st k
    simp only [evK, evC]
    rw [ihx]
    cases hx : evC P G loop call x st with
    | none => rfl
    | some p =>
      obtain ⟨e, st'⟩ := p
      cases e with
      | norm => exact ihy st' k
      | exit i => rfl
      | ret => rfl
  | cond c x y ihx ihy =>
    intro st k
    simp only [evK, evC]
    split
    · rename_i b _
      cases b with
      | true => exact ihx _ k
      | false => exact ihy _ k
    · rfl
  | block id x ihx =>
    intro st k
    simp only [evK, evC]
    rw [ihx]
    cases hx : evC P G loop call x st with
    | none => rfl
    | some p =>
      obtain ⟨e, st'⟩ := p
      cases e with
      | norm => rfl
      | exit i =>
        show (bif Nat.beq i id then k .norm st' else k (.exit i) st') = (bif Nat.beq i id then some (.norm, st') else some (.exit i, st')).bind fun p => k p.1 p.2
        rw [bind_cond]; rfl
      | ret => rfl
  | loop x ihx =>
    intro st k
    simp only [evK, evC]
    rw [ihx]
    cases hx : evC P G loop call x st with
    | none => rfl
    | some p =>
      obtain ⟨e, st'⟩ := p
      cases e with
      | norm => exact hl _ _ _
      | exit i => rfl
      | ret => rfl
  | exit id => intro st k; rfl
  | ret => intro st k; rfl
  | _ => intro st k; rfl

theorem callK_eq {loop : LoopF} {lK : LoopK R} (hl : LoopEq loop lK) : CallEq (callF P loop) (callK P lK) := by
  intro f us m k
  unfold callF callK
  cases P.funcs[f]? with
  | none => rfl
  | some fn =>
    simp only
    cases fn.body with
    | none => rfl
    | some c =>
      simp only
      rw [bind_cond]
      cases fn.name == "runtime.NumGoroutine" with
      | true => rfl
      | false =>
        simp only [cond_false]
        rw [hl]
        cases loop c (startF fn us m) with
        | none => rfl
        | some p =>
          obtain ⟨e, st⟩ := p
          cases e with
          | exit i => rfl
          | norm =>
            simp only [Option.bind_some]
            cases resV P fn st <;> rfl
          | ret =>
            simp only [Option.bind_some]
            cases resV P fn st <;> rfl

theorem runK_eq : ∀ n, LoopEq (run P G n) (runK (R := R) P G n)
  | 0 => fun _ _ _ => rfl
  | n + 1 => fun c st k => evK_eq (callK_eq (runK_eq n)) (runK_eq n) c st k

/-- A function on shadow arguments in shadow memory: its result and the memory behind it. -/
def fnK (P : Program) (G : Tab) (n : Nat) (fn : Func) (us : List U) (mem : List B) : Option (V × List B) :=
  match fn.body with
  | some c => runK P G n c (startF fn us mem) fun e st => match e with
    | .exit _ => none
    | _ => match resV P fn st with
      | some v => some (v, st.mem)
      | none => none
  | none => none

end
end Sh
end Go.Proofs.YtamdjlpobonmiaaDoor
