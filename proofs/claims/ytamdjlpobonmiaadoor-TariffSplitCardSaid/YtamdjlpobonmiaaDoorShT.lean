/- Tables, one entry after another. -/
import Derived.Test.YtamdjlpobonmiaaDoorShS
namespace Go.Proofs.YtamdjlpobonmiaaDoor
namespace Sh

def bodyOf (fn : Func) : Code := fn.body.getD .skip
def loopAt (fn : Func) (i : Nat) : Code := (loopsOf (bodyOf fn)).getD i .skip
def G0 : Tab := ⟨fun _ _ _ => none, fun _ => false, fun _ => false⟩
/-- A table under which some boxes are never written. -/
def Tab.withRo (G : Tab) (r : Oper → Bool) : Tab := ⟨G.fn, G.own, r⟩
theorem withRo_ok {P : Program} {G : Tab} {r : Oper → Bool} (h : GOK P G) : GOK P (G.withRo r) := h
theorem G0_ok {P : Program} : GOK P G0 := fun f us m v m' h => by cases h
def noPl : Plans := fun _ => []

def addE (G : Tab) (f0 : FuncId) (e : List U → Option (Bool × V)) : Tab :=
  ⟨fun f us m => bif Nat.beq f f0 then (bif noGone m then (match e us with | some (ok, v) => some (ok, v, m) | none => none) else none) else G.fn f us m, G.own, G.ro⟩

theorem addE_ok {P : Program} {G : Tab} {f0 : FuncId} {e : List U → Option (Bool × V)} (hG : GOK P G) (h : ∀ us v, e us = some (true, v) → EntOK P f0 us v) : GOK P (addE G f0 e) := by
  intro f us m v m' hh
  simp only [addE] at hh
  cases hf : Nat.beq f f0 with
  | false => rw [hf] at hh; exact hG f us m v m' hh
  | true =>
    rw [hf] at hh
    rw [Nat.beq_eq] at hf
    subst hf
    simp only [cond_true] at hh
    cases hm : noGone m with
    | false => rw [hm] at hh; cases hh
    | true =>
      rw [hm] at hh
      simp only [cond_true] at hh
      split at hh
      · rename_i ok v' he
        simp only [Option.some.injEq, Prod.mk.injEq] at hh
        obtain ⟨rfl, rfl, rfl⟩ := hh
        exact h us _ he m hm
      · cases hh

/-- A loop's contract by its round, calls gone into. -/
theorem loopC_at {P : Program} {G : Tab} (hG : GOK P G) {pl : Plans} (hp : PlOK P pl) (n : Nat) {x : Code} {ls : Ls} (hls : LsOK P ls x) (d : LoopD) (μ : List V → List B → Nat)
    (hstep : ∀ vals mem e st', (d.h vals mem).s = some (e, st') → ∃ e1 vals1 mem1, evN P G pl n ls x ⟨spread d.live vals 0 d.N, mem⟩ (d.obs mem.length) = some (e1, vals1, mem1) ∧
      ((e1 = .norm ∧ μ vals1 mem1 < μ vals mem ∧ (d.h vals1 mem1).s = some (e, st')) ∨ (e1 ≠ .norm ∧ e = e1 ∧ st' = ⟨spread d.liveX vals1 0 d.N, mem1⟩))) : LoopC P x d.g :=
  loopC_rel hG hp n hls d (fun m vals mem e st' => μ vals mem = m ∧ (d.h vals mem).s = some (e, st')) (fun vals mem e st' h => ⟨_, rfl, h⟩) fun m vals mem e st' ⟨h1, h2⟩ => by
    obtain ⟨e1, vals1, mem1, h3, h4⟩ := hstep vals mem e st' h2
    refine ⟨e1, vals1, mem1, h3, ?_⟩
    rcases h4 with ⟨a, b, c⟩ | h4
    · exact .inl ⟨a, _, by rw [← h1]; exact b, rfl, c⟩
    · exact .inr h4

theorem LsOK.nil {P : Program} {c : Code} : LsOK P [] c := fun i g x h => by simp at h
theorem LsOK.one {P : Program} {c x : Code} {ls : List Code} {g : St → Tr} (hc : loopsOf c = x :: ls) (h : LoopC P x g) : LsOK P [some g] c := fun i g' y h1 h2 => by
  rw [hc] at h2
  cases i with
  | zero => simp at h1 h2; subst h1; subst h2; exact h
  | succ i => simp at h1

/-- One function's plan beside others. -/
def addP (pl : Plans) (f0 : FuncId) (ls : Ls) : Plans := fun f => bif Nat.beq f f0 then ls else pl f
theorem addP_ok {P : Program} {pl : Plans} {f0 : FuncId} {ls : Ls} {fn : Func} (hp : PlOK P pl) (hf : P.funcs[f0]? = some fn) (h : LsOK P ls (bodyOf fn)) : PlOK P (addP pl f0 ls) := by
  intro f fn' c h1 h2
  simp only [addP]
  cases hb : Nat.beq f f0 with
  | false => exact hp f fn' c h1 h2
  | true =>
    rw [Nat.beq_eq] at hb
    subst hb
    rw [hf] at h1
    cases h1
    have : bodyOf fn = c := by simp [bodyOf, h2]
    rw [this] at h
    exact h

def ui (n : Int) : U := .one (.d (.int .i64 n))
def ub (n : Int) : U := .one (.d (.int .u8 n))
def us (s : ByteArray) : U := .one (.d (.str s))
def rb (b : Bool) : V := .w (.one (.d (.bool b)))
def ri (n : Int) : V := .w (.one (.d (.int .i64 n)))

end Sh
end Go.Proofs.YtamdjlpobonmiaaDoor
