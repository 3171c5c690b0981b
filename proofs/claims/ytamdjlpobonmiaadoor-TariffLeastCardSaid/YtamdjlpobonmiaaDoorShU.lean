/- Loops by their states: a rule that asks for one round alone. -/
import Derived.Test.YtamdjlpobonmiaaDoorShT
namespace Go.Proofs.YtamdjlpobonmiaaDoor
namespace Sh
open Go.RowKit

inductive RT
  | out (e : Ex) (vs : List V) (m : List B)
  | br (b : Bool) (x y : RT)
def RT.tr (live : List Nat) (N : Nat) : RT → Tr
  | .out e vs m => .out e ⟨spread live vs 0 N, m⟩
  | .br b x y => .br b (x.tr live N) (y.tr live N)
def RT.r : RT → Ex × List V × List B
  | .out e vs m => (e, vs, m)
  | .br b x y => bif b then x.r else y.r

theorem RT.tr_s {live : List Nat} {N : Nat} : ∀ t : RT, (t.tr live N).s = some (t.r.1, ⟨spread live t.r.2.1 0 N, t.r.2.2⟩)
  | .out _ _ _ => rfl
  | .br b x y => by
    simp only [RT.tr, Tr.s, RT.r, RT.tr_s x, RT.tr_s y]
    cases b <;> rfl

structure LoopS (σ : Type) where
  N : Nat
  live : List Nat
  liveX : List Nat
  dec : List V → List B → Option (Bool × σ)
  res : σ → RT

def LoopS.d {σ : Type} (L : LoopS σ) : LoopD := ⟨L.N, L.live, L.liveX, fun vals mem => match L.dec vals mem with
  | some (g, s) => .br g ((L.res s).tr L.liveX L.N) .fail
  | none => .fail⟩

section
variable {P : Program} {G : Tab}

theorem loopC_rel (hG : GOK P G) {call : CallF} {cK : CallK (Ex × List V × List B)} (hC : CallOK P call) (hc : CallEq call cK) {x : Code} {ls : Ls} (hls : LsOK P ls x) (d : LoopD)
    (R : Nat → List V → List B → Ex → St → Prop)
    (hd : ∀ vals mem e st', (d.h vals mem).s = some (e, st') → ∃ m, R m vals mem e st')
    (hstep : ∀ m vals mem e st', R m vals mem e st' → ∃ e1 vals1 mem1, evWK P G cK ls x ⟨spread d.live vals 0 d.N, mem⟩ (d.obs mem.length) = some (e1, vals1, mem1) ∧
      ((e1 = .norm ∧ ∃ m', m' < m ∧ R m' vals1 mem1 e st') ∨ (e1 ≠ .norm ∧ e = e1 ∧ st' = ⟨spread d.liveX vals1 0 d.N, mem1⟩))) : LoopC P x d.g := by
  have main : ∀ (m : Nat) (vals : List V) (mem : List B) e st' (m0 : Nat), m0 < m → R m0 vals mem e st' → ∀ (k : Nat) (I0 : Addr → Prop) (ρ0 : List (Option Nat)) (M0 : List B) (w0 : World) (n : Nat) (a : Act) (w : World),
      Sim k I0 ρ0 M0 w0 ⟨spread d.live vals 0 d.N, mem⟩ a w → k ≤ mem.length → n ≤ mem.length → Code.rounds P x (Ends k I0 ρ0 M0 w0 e st' n) m a w := by
    intro m
    induction m with
    | zero => intro vals mem e st' m0 h; omega
    | succ m ih =>
      intro vals mem e st' m0 hμ hh k I0 ρ0 M0 w0 n a w hs hk hn
      obtain ⟨e1, vals1, mem1, h1, h2⟩ := hstep m0 vals mem e st' hh
      rw [evWK_eq hc] at h1
      cases hx : evW P G call ls x ⟨spread d.live vals 0 d.N, mem⟩ with
      | none => rw [hx] at h1; cases h1
      | some p =>
        obtain ⟨e2, st1⟩ := p
        rw [hx] at h1
        simp only [Option.bind_some] at h1
        rw [rounds_succ]
        cases e2 with
        | norm =>
          simp only [LoopD.obs] at h1
          cases hb : Nat.beq (trunc mem.length st1).tmps.length d.N with
          | false => rw [hb] at h1; cases h1
          | true =>
            rw [hb] at h1
            simp only [cond_true, Option.some.injEq, Prod.mk.injEq] at h1
            obtain ⟨rfl, rfl, rfl⟩ := h1
            rcases h2 with ⟨_, m', h3, h4⟩ | ⟨h3, _⟩
            · refine wp_mono (evW_ok hG hC x ls hls _ .norm st1 hx k I0 ρ0 M0 w0 mem.length a w hs hk (Nat.le_refl _)) ?_
              rintro e a' w' ⟨rfl, h5, h6⟩
              have hl := trunc_length (st := st1) h6
              rw [Nat.beq_eq] at hb
              exact ih _ _ e _ m' (by omega) h4 k I0 ρ0 M0 w0 n a' w' ((trunc_ok h5 hk).spread hb) (by omega) (by omega)
            · exact absurd rfl h3
        | exit i =>
          simp only [LoopD.obs] at h1
          cases hb : Nat.beq (trunc mem.length st1).tmps.length d.N with
          | false => rw [hb] at h1; cases h1
          | true =>
            rw [hb] at h1
            simp only [cond_true, Option.some.injEq, Prod.mk.injEq] at h1
            obtain ⟨rfl, rfl, rfl⟩ := h1
            rcases h2 with ⟨h3, _⟩ | ⟨_, rfl, rfl⟩
            · cases h3
            · refine wp_mono (evW_ok hG hC x ls hls _ _ st1 hx k I0 ρ0 M0 w0 mem.length a w hs hk (Nat.le_refl _)) ?_
              rintro e a' w' ⟨rfl, h5, h6⟩
              have hl := trunc_length (st := st1) h6
              rw [Nat.beq_eq] at hb
              exact ⟨rfl, (trunc_ok h5 hk).spread hb, Nat.le_trans hn hl⟩
        | ret =>
          simp only [LoopD.obs] at h1
          cases hb : Nat.beq (trunc mem.length st1).tmps.length d.N with
          | false => rw [hb] at h1; cases h1
          | true =>
            rw [hb] at h1
            simp only [cond_true, Option.some.injEq, Prod.mk.injEq] at h1
            obtain ⟨rfl, rfl, rfl⟩ := h1
            rcases h2 with ⟨h3, _⟩ | ⟨_, rfl, rfl⟩
            · cases h3
            · refine wp_mono (evW_ok hG hC x ls hls _ _ st1 hx k I0 ρ0 M0 w0 mem.length a w hs hk (Nat.le_refl _)) ?_
              rintro e a' w' ⟨rfl, h5, h6⟩
              have hl := trunc_length (st := st1) h6
              rw [Nat.beq_eq] at hb
              exact ⟨rfl, (trunc_ok h5 hk).spread hb, Nat.le_trans hn hl⟩
  intro st e st' h k I0 ρ0 M0 w0 n a w hs hk hn
  simp only [LoopD.g] at h
  cases hb : Nat.beq st.tmps.length d.N with
  | false => rw [hb] at h; cases h
  | true =>
    rw [hb] at h
    rw [Nat.beq_eq] at hb
    obtain ⟨m, hm⟩ := hd _ _ _ _ h
    exact wp_loop_rounds _ (main _ _ _ e st' m (Nat.lt_succ_self _) hm k I0 ρ0 M0 w0 n a w (hs.spread hb) hk hn)

/-- A loop's contract by its states: good states, one round each. -/
theorem loopC_st {σ : Type} (L : LoopS σ) (hG : GOK P G) {pl : Plans} (hp : PlOK P pl) (n : Nat) {x : Code} {ls : Ls} (hls : LsOK P ls x) (head : σ → List V × List B) (good : σ → Prop) (μ : σ → Nat)
    (hdec : ∀ vals mem s, L.dec vals mem = some (true, s) → good s ∧ head s = (vals, mem))
    (hround : ∀ s, good s →
      (∃ s', evWK P G (callN P G pl n) ls x ⟨spread L.live (head s).1 0 L.N, (head s).2⟩ (L.d.obs (head s).2.length) = some (.norm, head s') ∧ good s' ∧ μ s' < μ s ∧ (L.res s').r = (L.res s).r) ∨
      (evWK P G (callN P G pl n) ls x ⟨spread L.live (head s).1 0 L.N, (head s).2⟩ (L.d.obs (head s).2.length) = some (L.res s).r ∧ (L.res s).r.1 ≠ .norm)) : LoopC P x L.d.g := by
  refine loopC_rel hG (callW_ok hG hp n) callN_eq hls L.d
    (fun m vals mem e st' => ∃ s, good s ∧ μ s = m ∧ head s = (vals, mem) ∧ (L.res s).r.1 = e ∧ st' = ⟨spread L.liveX (L.res s).r.2.1 0 L.N, (L.res s).r.2.2⟩) ?_ ?_
  · intro vals mem e st' h
    simp only [LoopS.d] at h
    split at h
    · rename_i g s hs
      cases g with
      | false => simp only [Tr.s, cond_false] at h; cases h
      | true =>
        simp only [Tr.s, cond_true, RT.tr_s, Option.some.injEq, Prod.mk.injEq] at h
        obtain ⟨h1, h2⟩ := hdec _ _ _ hs
        exact ⟨_, s, h1, rfl, h2, h.1, h.2.symm⟩
    · cases h
  · rintro m vals mem e st' ⟨s, hg, rfl, hh, rfl, rfl⟩
    have h1 : (head s).1 = vals := by rw [hh]
    have h2 : (head s).2 = mem := by rw [hh]
    subst h1 h2
    rcases hround s hg with ⟨s', h3, h4, h5, h6⟩ | ⟨h3, h4⟩
    · refine ⟨.norm, (head s').1, (head s').2, h3, .inl ⟨rfl, μ s', h5, s', h4, rfl, rfl, by rw [h6], by rw [h6]⟩⟩
    · exact ⟨_, _, _, h3, .inr ⟨h4, rfl, rfl⟩⟩

/-- Two states are one. -/
noncomputable def sameM (x y : List V × List B) : Bool := @decide (x = y) (Classical.propDecidable _)
theorem sameM_of {x y : List V × List B} (h : x = y) : sameM x y = true := by unfold sameM; exact @decide_eq_true _ (Classical.propDecidable _) h
theorem sameM_elim {x y : List V × List B} (h : sameM x y = true) : x = y := by unfold sameM at h; exact @of_decide_eq_true _ (Classical.propDecidable _) h

/-- A loop by what it reads off its state: what else the state is, is asked for whole. -/
structure LoopQ (σ : Type) where
  N : Nat
  live : List Nat
  liveX : List Nat
  ext : List V → List B → Option σ
  pre : σ → Bool
  head : σ → List V × List B
  res : σ → RT

noncomputable def LoopQ.s {σ : Type} (L : LoopQ σ) : LoopS σ := ⟨L.N, L.live, L.liveX, fun vals mem => match L.ext vals mem with
  | some s => some (L.pre s && sameM (vals, mem) (L.head s), s)
  | none => none, L.res⟩
noncomputable def LoopQ.g {σ : Type} (L : LoopQ σ) : St → Tr := L.s.d.g

theorem loopC_q {σ : Type} (L : LoopQ σ) (hG : GOK P G) {pl : Plans} (hp : PlOK P pl) (n : Nat) {x : Code} {ls : Ls} (hls : LsOK P ls x) (inv : σ → Prop) (μ : σ → Nat) (hpre : ∀ s, L.pre s = true → inv s)
    (hround : ∀ s, inv s →
      (∃ s', evWK P G (callN P G pl n) ls x ⟨spread L.live (L.head s).1 0 L.N, (L.head s).2⟩ (L.s.d.obs (L.head s).2.length) = some (.norm, L.head s') ∧ inv s' ∧ μ s' < μ s ∧ (L.res s').r = (L.res s).r) ∨
      (evWK P G (callN P G pl n) ls x ⟨spread L.live (L.head s).1 0 L.N, (L.head s).2⟩ (L.s.d.obs (L.head s).2.length) = some (L.res s).r ∧ (L.res s).r.1 ≠ .norm)) : LoopC P x L.g := by
  refine loopC_st L.s hG hp n hls L.head inv μ (fun vals mem s h => ?_) hround
  simp only [LoopQ.s] at h
  split at h
  · simp only [Option.some.injEq, Prod.mk.injEq, Bool.and_eq_true] at h
    obtain ⟨⟨h1, h2⟩, rfl⟩ := h
    exact ⟨hpre _ h1, (sameM_elim h2).symm⟩
  · cases h

end
end Sh
end Go.Proofs.YtamdjlpobonmiaaDoor
