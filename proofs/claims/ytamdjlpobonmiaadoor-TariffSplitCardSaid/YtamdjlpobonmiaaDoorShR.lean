/- Functions of data: what the evaluator finds in an empty memory holds in every memory. -/
import Derived.Test.YtamdjlpobonmiaaDoorShQ
namespace Go.Proofs.YtamdjlpobonmiaaDoor
namespace Sh
open Go.RowKit

def pureC : C → Bool
  | .d _ => true
  | .ref _ _ => true
  | .unk => true
  | _ => false
def pureU : U → Bool
  | .one c => pureC c
  | .agg cs => cs.all pureC
def pureV : V → Bool
  | .w u => pureU u
  | .tup us => us.all pureU
  | .any => true
def dataC : C → C
  | .own _ n e g => .d (.slc n e g)
  | c => c
def dataU : U → U
  | .one c => .one (dataC c)
  | .agg cs => .agg (cs.map dataC)
def dataV : V → V
  | .w u => .w (dataU u)
  | .tup us => .tup (us.map dataU)
  | .any => .any
def noGone : List (Nat × B) → Bool
  | [] => true
  | (_, .gone) :: _ => false
  | _ :: m => noGone m

section
variable {P : Program} {G : Tab} {k : Nat} {I I' : Addr → Prop} {ρ ρ' : List (Option Nat)} {M M' : List B} {w w' : World}

theorem pureC_any {c : C} {v : Value} (hc : pureC c = true) (h : CR w I ρ M c v) : CR w I ρ' M' c v := by
  cases c with
  | d x => exact h
  | ref sz g => exact h
  | unk => exact h
  | _ => cases hc

theorem pureU_any {u : U} {v : Value} (hc : pureU u = true) (h : UR w I ρ M u v) : UR w I ρ' M' u v := by
  cases u with
  | one c => exact pureC_any hc h
  | agg cs =>
    obtain ⟨arr, h1, h2⟩ := h
    exact ⟨arr, h1, F2.mono_mem (fun c hm y hy => pureC_any (List.all_eq_true.1 hc c hm) hy) h2⟩

theorem pureV_any {x : V} {v : Value} (hc : pureV x = true) (h : VR w I ρ M x v) : VR w I ρ' M' x v := by
  cases x with
  | w u => exact pureU_any hc h
  | tup us =>
    obtain ⟨arr, h1, h2⟩ := h
    exact ⟨arr, h1, F2.mono_mem (fun c hm y hy => pureU_any (List.all_eq_true.1 hc c hm) hy) h2⟩
  | any => trivial

theorem dataC_ok : ∀ {c : C} {v : Value}, CR w I ρ M c v → CR w I ρ M (dataC c) v
  | .own _ _ _ _, _, h => h.1
  | .d _, _, h | .ptr _ _, _, h | .ref _ _, _, h | .fn _ _ _, _, h | .unk, _, h => h
theorem dataU_ok : ∀ {u : U} {v : Value}, UR w I ρ M u v → UR w I ρ M (dataU u) v
  | .one _, _, h => dataC_ok h
  | .agg _, _, ⟨arr, h1, h2⟩ => ⟨arr, h1, F2.map (fun _ _ h => dataC_ok h) h2⟩
theorem dataV_ok : ∀ {x : V} {v : Value}, VR w I ρ M x v → VR w I ρ M (dataV x) v
  | .w _, _, h => dataU_ok h
  | .tup _, _, ⟨arr, h1, h2⟩ => ⟨arr, h1, F2.map (fun _ _ h => dataU_ok h) h2⟩
  | .any, _, _ => trivial

theorem upd_same : ∀ {m : List (Nat × B)} {M : List B}, (∀ p ∈ m, M[p.1]? = some p.2) → upd M m = M
  | [], _, _ => rfl
  | (b, x) :: m, M, h => by
    have h1 := h (b, x) (by simp)
    simp only at h1
    rw [upd, set_self h1]
    exact upd_same fun p hp => h p (List.mem_cons_of_mem _ hp)

theorem noGone_ok : ∀ {m : List (Nat × B)}, noGone m = true → ∀ p ∈ m, p.2 ≠ .gone
  | (b, x) :: m, h, p, hp => by
    cases x with
    | gone => cases h
    | var cs =>
      rcases List.mem_cons.1 hp with rfl | hp
      · intro e; cases e
      · exact noGone_ok (m := m) h p hp
    | tick n e =>
      rcases List.mem_cons.1 hp with rfl | hp
      · intro e; cases e
      · exact noGone_ok (m := m) h p hp

theorem Sat.bare (hS : Sat I ρ M w) : Sat I [] [] w :=
  ⟨rfl, fun r cs h => by simp at h, fun r n e rb h => by simp at h, fun r h => by simp at h, fun r r' rb h => by simp at h, hS.imm, hS.glob⟩

/-- What was done in a memory of one's own leaves the caller's as it was. -/
theorem frame_ok (hS : Sat I ρ M w) (hE : Ext 0 I [] [] w I' ρ' M' w') (hS' : Sat I' ρ' M' w') : Sat I' ρ M w' ∧ Ext k I ρ M w I' ρ M w' := by
  have hold : ∀ b, b < w.heap.size → w'.heap[b]? = w.heap[b]? := fun b hb => hE.frame b hb (fun r h => by simp at h)
  have hcr : ∀ c v, CR w I ρ M c v → CR w' I' ρ M c v := fun c v =>
    CR.step hE.imm hE.keep (fun b cs rb h1 h2 => ⟨⟨cs, h1⟩, h2⟩)
      (fun r m e h => ⟨m, e, h, Nat.le_refl _, fun _ rb arr T h1 h2 => ⟨h1, arr, by rw [hold rb (hS.lt h1)]; exact h2, rfl⟩⟩)
  have hnew : ∀ a, I' a → I a ∨ w.heap.size ≤ a.block := fun a ha => by
    rcases hE.inew a ha with h | h | ⟨r, h⟩
    · exact .inl h
    · exact .inr h
    · simp at h
  refine ⟨⟨hS.len, fun r cs h => ?_, fun r n e rb h1 h2 => ?_, hS.gone, hS.inj, hS'.imm, hS'.glob⟩,
    ⟨hE.os, hE.tape, hE.output, hE.size, hE.imm, hE.keep, fun b hb _ => hold b hb, fun a ha => (hnew a ha).imp id .inl, fun r b h => .inr ⟨r, h⟩, fun c v _ h => hcr c v h⟩⟩
  · obtain ⟨rb, arr, T, h1, h2, h3, h4⟩ := hS.var r cs h
    refine ⟨rb, arr, T, h1, by rw [hold rb (hS.lt h1)]; exact h2, F2.mono hcr h3, fun a ha e => ?_⟩
    rcases hnew a ha with h5 | h5
    · exact h4 a h5 e
    · have := hS.lt h1; omega
  · obtain ⟨⟨arr, T, h3⟩, h4⟩ := hS.tick r n e rb h1 h2
    refine ⟨⟨arr, T, by rw [hold rb (hS.lt h2)]; exact h3⟩, fun a ha hb => ?_⟩
    rcases hnew a ha with h5 | h5
    · exact h4 a h5 hb
    · have := hS.lt h2; omega

theorem callF_of_fnK {n : Nat} {f : FuncId} {fn : Func} {us : List U} {mem : List B} {v : V} {M' : List B} (hf : P.funcs[f]? = some fn) (hname : (fn.name == "runtime.NumGoroutine") = false)
    (h : fnK P G n fn us mem = some (v, M')) : callF P (run P G n) f us mem = some (v, shrink mem.length v M') := by
  unfold fnK at h
  unfold callF
  rw [hf]
  simp only
  cases hb : fn.body with
  | none => rw [hb] at h; cases h
  | some c =>
    rw [hb] at h
    simp only [hname, cond_false]
    simp only at h
    rw [runK_eq] at h
    cases hr : run P G n c (startF fn us mem) with
    | none => rw [hr] at h; cases h
    | some p =>
      obtain ⟨e, st⟩ := p
      rw [hr] at h
      simp only [Option.bind_some] at h
      cases e with
      | exit i => cases h
      | norm =>
        simp only at h ⊢
        cases hv : resV P fn st with
        | none => rw [hv] at h; cases h
        | some v' =>
          rw [hv] at h
          simp only [Option.some.injEq, Prod.mk.injEq] at h
          obtain ⟨rfl, rfl⟩ := h
          rfl
      | ret =>
        simp only at h ⊢
        cases hv : resV P fn st with
        | none => rw [hv] at h; cases h
        | some v' =>
          rw [hv] at h
          simp only [Option.some.injEq, Prod.mk.injEq] at h
          obtain ⟨rfl, rfl⟩ := h
          rfl

/-- A function of data by what the evaluator finds. -/
theorem pure_tspec (hG : GOK P G) {n : Nat} {f : FuncId} {fn : Func} {us : List U} {v : V} {M1 : List B} (hf : P.funcs[f]? = some fn) (hname : (fn.name == "runtime.NumGoroutine") = false)
    (h : fnK P G n fn us [] = some (v, M1)) (hus : us.all pureU = true) (hv : pureV (dataV v) = true) {m : List (Nat × B)} (hm : noGone m = true) : TSpec P f us m (dataV v) m := by
  obtain ⟨he, hc⟩ := callF_ok (run_ok hG (regD_ok hG) n).1 _ _ _ _ _ (callF_of_fnK hf hname h)
  refine ⟨he, fun k I ρ M w vs hS hmM hu => ?_⟩
  have hsame : upd M m = M := upd_same fun p hp => hmM p hp (noGone_ok hm p hp)
  rw [hsame]
  refine (hc I [] w vs hS.bare (F2.mono_mem (fun u hmem y hy => pureU_any (List.all_eq_true.1 hus u hmem) hy) hu)).mono ?_
  rintro e w' ⟨u, I', ρ', rfl, s1, s2, s3, _⟩
  obtain ⟨t1, t2⟩ := frame_ok (k := k) hS s3 s1
  exact ⟨u, I', ρ, rfl, t1, pureV_any hv (dataV_ok s2), t2⟩

/-- A function on shadow arguments: its result alone. -/
def fnV (P : Program) (G : Tab) (n : Nat) (fn : Func) (us : List U) : Option V :=
  match fn.body with
  | some c => runK P G n c (startF fn us []) fun e st => match e with
    | .exit _ => none
    | _ => resV P fn st
  | none => none

theorem fnK_of_fnV {n : Nat} {fn : Func} {us : List U} {v : V} (h : fnV P G n fn us = some v) : ∃ M1, fnK P G n fn us [] = some (v, M1) := by
  unfold fnV at h
  unfold fnK
  cases hb : fn.body with
  | none => rw [hb] at h; cases h
  | some c =>
    rw [hb] at h
    simp only at h ⊢
    rw [runK_eq] at h ⊢
    cases hr : run P G n c (startF fn us []) with
    | none => rw [hr] at h; cases h
    | some p =>
      obtain ⟨e, st⟩ := p
      rw [hr] at h
      simp only [Option.bind_some] at h ⊢
      cases e with
      | exit i => cases h
      | norm => simp only at h ⊢; rw [h]; exact ⟨_, rfl⟩
      | ret => simp only at h ⊢; rw [h]; exact ⟨_, rfl⟩

/-- A table that knows functions of data. -/
def tabD (e : FuncId → List U → Option (Bool × V)) : Tab :=
  ⟨fun f us m => bif noGone m then (match e f us with | some (ok, v) => some (ok, v, m) | none => none) else none, fun _ => false, fun _ => false⟩

def EntOK (P : Program) (f : FuncId) (us : List U) (v : V) : Prop := ∀ m, noGone m = true → TSpec P f us m v m

theorem tabD_ok {e : FuncId → List U → Option (Bool × V)} (h : ∀ f us v, e f us = some (true, v) → EntOK P f us v) : GOK P (tabD e) := by
  intro f us m v m' hh
  simp only [tabD] at hh
  cases hm : noGone m with
  | false => rw [hm] at hh; cases hh
  | true =>
    rw [hm] at hh
    simp only [cond_true] at hh
    split at hh
    · rename_i ok v' he
      simp only [Option.some.injEq, Prod.mk.injEq] at hh
      obtain ⟨rfl, rfl, rfl⟩ := hh
      exact h f us _ he m hm
    · cases hh

theorem ent_of_fnK (hG : GOK P G) {n : Nat} {f : FuncId} {fn : Func} {us : List U} {v : V} {M1 : List B} (hf : P.funcs[f]? = some fn) (hname : (fn.name == "runtime.NumGoroutine") = false)
    (h : fnK P G n fn us [] = some (v, M1)) (hus : us.all pureU = true) (hv : pureV (dataV v) = true) : EntOK P f us (dataV v) := fun _ hm => pure_tspec hG hf hname h hus hv hm

theorem ent_of_fnV (hG : GOK P G) {n : Nat} {f : FuncId} {fn : Func} {us : List U} {v : V} (hf : P.funcs[f]? = some fn) (hname : (fn.name == "runtime.NumGoroutine") = false)
    (h : fnV P G n fn us = some v) (hus : us.all pureU = true) (hv : pureV (dataV v) = true) : EntOK P f us (dataV v) := by
  obtain ⟨M1, h1⟩ := fnK_of_fnV h
  exact ent_of_fnK hG hf hname h1 hus hv

/-- A call by its entry, said of the world alone. -/
theorem EntOK.calls {f : FuncId} {us : List U} {v : V} (h : EntOK P f us v) {I : Addr → Prop} {w : World} {vs : List Value} (hI : ∀ a, I a → ∃ u, w.cell? a = some u) (hg : Glob I w) (hu : F2 (UR w I [] []) us vs) :
    Calls P f vs.toArray w fun e w' => ∃ u I', e = .returned u ∧ VR w' I' [] [] v u ∧ (∀ a, I' a → I a ∨ w.heap.size ≤ a.block) ∧
      w'.os = w.os ∧ w'.tape = w.tape ∧ w'.output = w.output ∧ w.heap.size ≤ w'.heap.size ∧ (∀ b, b < w.heap.size → w'.heap[b]? = w.heap[b]?) := by
  refine ((h [] rfl).2 0 I [] [] w vs ⟨rfl, fun r cs h => by simp at h, fun r n e rb h => by simp at h, fun r h => by simp at h, fun r r' rb h => by simp at h, hI, hg⟩ (fun p hp => by cases hp) hu).mono ?_
  rintro e w' ⟨u, I', ρ', rfl, s1, s2, s3⟩
  have hρ : ρ' = [] := List.eq_nil_of_length_eq_zero (by rw [s1.len]; rfl)
  subst hρ
  refine ⟨u, I', rfl, s2, fun a ha => ?_, s3.os, s3.tape, s3.output, s3.size, fun b hb => s3.frame b hb (fun r h => by simp at h)⟩
  rcases s3.inew a ha with h | h | ⟨r, h⟩
  · exact .inl h
  · exact .inr h
  · simp at h

end
end Sh
end Go.Proofs.YtamdjlpobonmiaaDoor
