/- Loops by their states: a rule that asks for one round alone. -/
import Derived.Test.YtamdjlpobonmiaaDoorShT
namespace Go.Proofs.YtamdjlpobonmiaaDoor
namespace Sh
open Go.RowKit

inductive RT
  | out (e : Ex) (vs : List V) (m : List B)
  | br (b : Bool) (x y : RT)
def RT.tr (live : List Nat) (N : Nat) : RT → Tr
  | .out e vs m => .out e ⟨spread live vs 0 N, m⟩
  | .br b x y => .br b (x.tr live N) (y.tr live N)
def RT.r : RT → Ex × List V × List B
  | .out e vs m => (e, vs, m)
  | .br b x y => bif b then x.r else y.r

theorem RT.tr_s {live : List Nat} {N : Nat} : ∀ t : RT, (t.tr live N).s = some (t.r.1, ⟨spread live t.r.2.1 0 N, t.r.2.2⟩)
  | .out _ _ _ => rfl
  | .br b x y => by
    simp only [RT.tr, Tr.s, RT.r, RT.tr_s x, RT.tr_s y]
    cases b <;> rfl

structure LoopS (σ : Type) where
  N : Nat
  live : List Nat
  liveX : List Nat
  dec : List V → List B → Option (Bool × σ)
  res : σ → RT

def LoopS.d {σ : Type} (L : LoopS σ) : LoopD := ⟨L.N, L.live, L.liveX, fun vals mem => match L.dec vals mem with
  | some (g, s) => .br g ((L.res s).tr L.liveX L.N) .fail
  | none => .fail⟩

section
variable {P : Program} {G : Tab}

/-- A loop's contract by its states: good states, one round each. -/
theorem loopC_st {σ : Type} (L : LoopS σ) (hG : GOK P G) {pl : Plans} (hp : PlOK P pl) (n : Nat) {x : Code} {ls : Ls} (hls : LsOK P ls x) (head : σ → List V × List B) (good : σ → Prop) (μ : σ → Nat)
    (hdec : ∀ vals mem s, L.dec vals mem = some (true, s) → good s ∧ head s = (vals, mem))
    (hround : ∀ s, good s →
      (∃ s', evN P G pl n ls x ⟨spread L.live (head s).1 0 L.N, (head s).2⟩ (L.d.obs (head s).2.length) = some (.norm, head s') ∧ good s' ∧ μ s' < μ s ∧ (L.res s').r = (L.res s).r) ∨
      (evN P G pl n ls x ⟨spread L.live (head s).1 0 L.N, (head s).2⟩ (L.d.obs (head s).2.length) = some (L.res s).r ∧ (L.res s).r.1 ≠ .norm)) : LoopC P x L.d.g := by
  refine loopC_rel hG hp n hls L.d
    (fun m vals mem e st' => ∃ s, good s ∧ μ s = m ∧ head s = (vals, mem) ∧ (L.res s).r.1 = e ∧ st' = ⟨spread L.liveX (L.res s).r.2.1 0 L.N, (L.res s).r.2.2⟩) ?_ ?_
  · intro vals mem e st' h
    simp only [LoopS.d] at h
    split at h
    · rename_i g s hs
      cases g with
      | false => simp only [Tr.s, cond_false] at h; cases h
      | true =>
        simp only [Tr.s, cond_true, RT.tr_s, Option.some.injEq, Prod.mk.injEq] at h
        obtain ⟨h1, h2⟩ := hdec _ _ _ hs
        exact ⟨_, s, h1, rfl, h2, h.1, h.2.symm⟩
    · cases h
  · rintro m vals mem e st' ⟨s, hg, rfl, hh, rfl, rfl⟩
    have h1 : (head s).1 = vals := by rw [hh]
    have h2 : (head s).2 = mem := by rw [hh]
    subst h1 h2
    rcases hround s hg with ⟨s', h3, h4, h5, h6⟩ | ⟨h3, h4⟩
    · refine ⟨.norm, (head s').1, (head s').2, h3, .inl ⟨rfl, μ s', h5, s', h4, rfl, rfl, by rw [h6], by rw [h6]⟩⟩
    · exact ⟨_, _, _, h3, .inr ⟨h4, rfl, rfl⟩⟩

/-- Two states are one. -/
noncomputable def sameM (x y : List V × List B) : Bool := @decide (x = y) (Classical.propDecidable _)
theorem sameM_of {x y : List V × List B} (h : x = y) : sameM x y = true := by unfold sameM; exact @decide_eq_true _ (Classical.propDecidable _) h
theorem sameM_elim {x y : List V × List B} (h : sameM x y = true) : x = y := by unfold sameM at h; exact @of_decide_eq_true _ (Classical.propDecidable _) h

/-- A loop by what it reads off its state: what else the state is, is asked for whole. -/
structure LoopQ (σ : Type) where
  N : Nat
  live : List Nat
  liveX : List Nat
  ext : List V → List B → Option σ
  pre : σ → Bool
  head : σ → List V × List B
  res : σ → RT

noncomputable def LoopQ.s {σ : Type} (L : LoopQ σ) : LoopS σ := ⟨L.N, L.live, L.liveX, fun vals mem => match L.ext vals mem with
  | some s => some (L.pre s && sameM (vals, mem) (L.head s), s)
  | none => none, L.res⟩
noncomputable def LoopQ.g {σ : Type} (L : LoopQ σ) : St → Tr := L.s.d.g

theorem loopC_q {σ : Type} (L : LoopQ σ) (hG : GOK P G) {pl : Plans} (hp : PlOK P pl) (n : Nat) {x : Code} {ls : Ls} (hls : LsOK P ls x) (inv : σ → Prop) (μ : σ → Nat) (hpre : ∀ s, L.pre s = true → inv s)
    (hround : ∀ s, inv s →
      (∃ s', evN P G pl n ls x ⟨spread L.live (L.head s).1 0 L.N, (L.head s).2⟩ (L.s.d.obs (L.head s).2.length) = some (.norm, L.head s') ∧ inv s' ∧ μ s' < μ s ∧ (L.res s').r = (L.res s).r) ∨
      (evN P G pl n ls x ⟨spread L.live (L.head s).1 0 L.N, (L.head s).2⟩ (L.s.d.obs (L.head s).2.length) = some (L.res s).r ∧ (L.res s).r.1 ≠ .norm)) : LoopC P x L.g := by
  refine loopC_st L.s hG hp n hls L.head inv μ (fun vals mem s h => ?_) hround
  simp only [LoopQ.s] at h
  split at h
  · simp only [Option.some.injEq, Prod.mk.injEq, Bool.and_eq_true] at h
    obtain ⟨⟨h1, h2⟩, rfl⟩ := h
    exact ⟨hpre _ h1, (sameM_elim h2).symm⟩
  · cases h

end
end Sh
end Go.Proofs.YtamdjlpobonmiaaDoor
