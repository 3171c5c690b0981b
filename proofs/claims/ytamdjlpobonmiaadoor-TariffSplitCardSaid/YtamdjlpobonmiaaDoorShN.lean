/- The evaluator tells the truth: calls and runs. -/
import Derived.Test.YtamdjlpobonmiaaDoorShM
namespace Go.Proofs.YtamdjlpobonmiaaDoor
namespace Sh
open Go.RowKit

section
variable {P : Program} {G : Tab} {k : Nat} {I0 : Addr → Prop} {ρ0 : List (Option Nat)} {M0 : List B} {w0 w : World}

def resSem (tmps : Array Value) : ResultVar → Sem Value
  | .tmp t => pure (tmps.getD t undef)
  | .cell q t => do loadVar t (← asAddr (tmps.getD q undef))

theorem results_eq (fn : Func) (tmps : Array Value) : results fn tmps = (do let vs ← fn.results.mapM (resSem tmps); pure (if h : vs.size = 1 then vs[0] else .tuple vs)) := by
  unfold results
  exact congrArg (fun f => (do let vs ← fn.results.mapM f; pure (if h : vs.size = 1 then vs[0] else .tuple vs) : Sem Value)) (funext fun x => by cases x <;> rfl)

theorem resOne_ok {I : Addr → Prop} {ρ : List (Option Nat)} {st : St} {a : Act} (hS : Sat I ρ st.mem w) (hT : F2 (VR w I ρ st.mem) st.tmps a.tmps.toList) {r : ResultVar} {u : U} (h : resOne P st r = some u) :
    ∃ v, (resSem a.tmps r).run P w = .ok v w ∧ UR w I ρ st.mem u v := by
  cases r with
  | tmp t =>
    simp only [resOne] at h
    have ht := opnd_ok hT (.tmp t)
    split at h
    · rename_i u' he
      rw [he] at ht
      simp only [Option.some.injEq] at h; subst h
      exact ⟨_, rfl, ht⟩
    · cases h
  | cell q t =>
    simp only [resOne] at h
    have hq := opnd_ok hT (.tmp q)
    split at h
    · rename_i b off he hk
      rw [he] at hq
      split at h
      · rename_i cs hM
        cases hb : Nat.ble (off + P.cellsOf t) cs.length with
        | false => simp [hb] at h
        | true =>
          simp only [hb, cond_true, Option.some.injEq] at h; subst h
          rw [Nat.ble_eq] at hb
          obtain ⟨rb, cs0, h1, h2, h3⟩ := hq
          obtain ⟨arr, T, h4, h5, _⟩ := heap_of_var hS hM h2
          have hsz : arr.size = cs.length := by rw [F2.length h5]; simp
          refine ⟨.agg ((arr.toList.drop off).take (P.cellsOf t)).toArray, ?_, ⟨_, rfl, by simpa using F2.take _ (F2.drop _ h5)⟩⟩
          have hr := run_loadVar_agg (P := P) (w := w) (t := t) (a := ⟨rb, off, none⟩) hk ((arr.toList.drop off).take (P.cellsOf t)) (by simp; omega) (fun j v hv => by
            rw [ptr_cell (b := b) (cs := cs) h4 j]
            rw [List.getElem?_take] at hv
            split at hv
            · simpa using hv
            · cases hv)
          have h3' : a.tmps.getD q undef = .pointer (some ⟨rb, off, none⟩) := h3
          simp only [resSem, h3', asAddr, Sem.run_bind, Sem.run_pure, Result.andThen_ok, hr]
      · cases h
    · rename_i b off he hk
      rw [he] at hq
      split at h
      · rename_i cs hM
        split at h
        · rename_i c hc
          simp only [Option.some.injEq] at h; subst h
          obtain ⟨rb, cs0, h1, h2, h3⟩ := hq
          obtain ⟨arr, T, h4, h5, _⟩ := heap_of_var hS hM h2
          obtain ⟨v, hv, hcr⟩ := F2.get h5 hc
          have hr := run_loadVar_one (P := P) (w := w) (t := t) (a := ⟨rb, off, none⟩) (v := v) hk (by rw [cell_of_row w rb off arr T (0, 0) h4]; simpa using hv)
          have h3' : a.tmps.getD q undef = .pointer (some ⟨rb, off, none⟩) := h3
          exact ⟨v, by simp only [resSem, h3', asAddr, Sem.run_bind, Sem.run_pure, Result.andThen_ok, hr], hcr⟩
        · cases h
      · cases h
    · cases h

theorem resAll_ok {I : Addr → Prop} {ρ : List (Option Nat)} {st : St} {a : Act} (hS : Sat I ρ st.mem w) (hT : F2 (VR w I ρ st.mem) st.tmps a.tmps.toList) : ∀ (rs : List ResultVar) (us : List U), resAll P st rs = some us →
    ∃ vs, (rs.mapM (resSem a.tmps)).run P w = .ok vs w ∧ F2 (UR w I ρ st.mem) us vs := by
  intro rs
  induction rs with
  | nil => intro us h; simp only [resAll, Option.some.injEq] at h; subst h; exact ⟨[], rfl, trivial⟩
  | cons r rs ih =>
    intro us h
    simp only [resAll] at h
    split at h
    · rename_i u us' h1 h2
      simp only [Option.some.injEq] at h; subst h
      obtain ⟨v, hv, hr⟩ := resOne_ok hS hT h1
      obtain ⟨vs, hvs, hrs⟩ := ih us' h2
      refine ⟨v :: vs, ?_, hr, hrs⟩
      rw [List.mapM_cons, Sem.run_bind]
      rw [hv]
      simp only [Result.andThen_ok, Sem.run_bind]
      rw [hvs]
      rfl
    · cases h

theorem resV_ok {I : Addr → Prop} {ρ : List (Option Nat)} {st : St} {a : Act} {fn : Func} {v : V} (hS : Sat I ρ st.mem w) (hT : F2 (VR w I ρ st.mem) st.tmps a.tmps.toList) (h : resV P fn st = some v) :
    ∃ u, (results fn a.tmps).run P w = .ok u w ∧ VR w I ρ st.mem v u := by
  unfold resV at h
  have key : ∀ us, resAll P st fn.results.toList = some us → ∃ vs, (results fn a.tmps).run P w = .ok (if h : vs.length = 1 then vs[0]'(by omega) else .tuple vs.toArray) w ∧ F2 (UR w I ρ st.mem) us vs := by
    intro us hus
    obtain ⟨vs, h1, h2⟩ := resAll_ok hS hT _ _ hus
    refine ⟨vs, ?_, h2⟩
    rw [results_eq, Sem.run_bind, Array.mapM_eq_mapM_toList, Sem.run_map, h1]
    simp only [Result.andThen_ok, Sem.run_pure]
    congr 1
  split at h
  · rename_i u hr
    obtain ⟨vs, h1, h2⟩ := key _ hr
    simp only [Option.some.injEq] at h; subst h
    obtain ⟨v, vs', rfl, h3, h4⟩ := F2.cons_left h2
    obtain rfl := F2.nil_left h4
    exact ⟨v, h1, h3⟩
  · rename_i us hne hr
    obtain ⟨vs, h1, h2⟩ := key _ hr
    simp only [Option.some.injEq] at h; subst h
    have hl : ¬ vs.length = 1 := by
      rw [← F2.length h2]
      intro hl
      obtain ⟨u, hu⟩ := List.length_eq_one_iff.1 hl
      exact hne u hu
    rw [dif_neg hl] at h1
    exact ⟨_, h1, vs.toArray, rfl, h2⟩
  · cases h

def RunOK (P : Program) (loop : LoopF) : Prop := ∀ c st x st', loop c st = some (x, st') → ∀ (k : Nat) (I0 : Addr → Prop) (ρ0 : List (Option Nat)) (M0 : List B) (w0 : World) (n : Nat) (a : Act) (w : World), Sim k I0 ρ0 M0 w0 st a w → k ≤ st.mem.length → n ≤ st.mem.length →
  c.wp P (Ends k I0 ρ0 M0 w0 x st' n) a w

theorem shrink_ok {v : V} {u : Value} {M : List B} {I : Addr → Prop} {ρ : List (Option Nat)} {n : Nat} (hk : k ≤ n) (hS : Sat I ρ M w) (hv : VR w I ρ M v u) (hE : Ext k I0 ρ0 M0 w0 I ρ M w) :
    ∃ I' ρ', Sat I' ρ' (shrink n v M) w ∧ VR w I' ρ' (shrink n v M) v u ∧ Ext k I0 ρ0 M0 w0 I' ρ' (shrink n v M) w := by
  unfold shrink
  cases hb : belowV n v && (M.take n).all (belowB n) with
  | false => exact ⟨I, ρ, hS, hv, hE⟩
  | true =>
    simp only [Bool.and_eq_true] at hb
    simp only [cond_true]
    have hs : Sim k I0 ρ0 M0 w0 ⟨[v], M⟩ ⟨#[u], []⟩ w := ⟨⟨I, ρ, hS, ⟨hv, trivial⟩, hE⟩, rfl⟩
    obtain ⟨⟨I', ρ', h1, h2, h3⟩, _⟩ := trunc_ok hs hk
    simp only [trunc, hb.2, cond_true, List.map_cons, List.map_nil, clearV, hb.1] at h1 h2 h3
    exact ⟨I', ρ', h1, h2.1, h3⟩

theorem shrink_length {n : Nat} {v : V} {M : List B} (h : n ≤ M.length) : n ≤ (shrink n v M).length := by
  unfold shrink
  cases belowV n v && (M.take n).all (belowB n) with
  | false => exact h
  | true => simp only [cond_true, List.length_take]; omega

def RunC (P : Program) (loop : LoopF) (c : Code) : Prop := ∀ st x st', loop c st = some (x, st') → ∀ (k : Nat) (I0 : Addr → Prop) (ρ0 : List (Option Nat)) (M0 : List B) (w0 : World) (n : Nat) (a : Act) (w : World), Sim k I0 ρ0 M0 w0 st a w → k ≤ st.mem.length → n ≤ st.mem.length →
  c.wp P (Ends k I0 ρ0 M0 w0 x st' n) a w

theorem callF_ok1 {loop : LoopF} {f : FuncId} (hR : ∀ fn c, P.funcs[f]? = some fn → fn.body = some c → RunC P loop c) : ∀ us mem v mem', callF P loop f us mem = some (v, mem') → Enters P f ∧
  ∀ (I : Addr → Prop) (ρ : List (Option Nat)) (w : World) (vs : List Value), Sat I ρ mem w → F2 (UR w I ρ mem) us vs →
    Calls P f vs.toArray w fun e w' => ∃ u I' ρ', e = .returned u ∧ Sat I' ρ' mem' w' ∧ VR w' I' ρ' mem' v u ∧ Ext mem.length I ρ mem w I' ρ' mem' w' ∧ mem.length ≤ mem'.length := by
  intro us mem v mem' h
  unfold callF at h
  split at h
  · rename_i fn hf
    split at h
    · rename_i c hb
      cases hname : fn.name == "runtime.NumGoroutine" with
      | true => simp [hname] at h
      | false =>
        simp only [hname, cond_false] at h
        have main : ∀ x st, loop c (startF fn us mem) = some (x, st) → (x = .norm ∨ x = .ret) → (match resV P fn st with | some v => some (v, shrink mem.length v st.mem) | none => none) = some (v, mem') →
            Enters P f ∧ ∀ (I : Addr → Prop) (ρ : List (Option Nat)) (w : World) (vs : List Value), Sat I ρ mem w → F2 (UR w I ρ mem) us vs →
              Calls P f vs.toArray w fun e w' => ∃ u I' ρ', e = .returned u ∧ Sat I' ρ' mem' w' ∧ VR w' I' ρ' mem' v u ∧ Ext mem.length I ρ mem w I' ρ' mem' w' ∧ mem.length ≤ mem'.length := by
          intro x st hrun hx hres
          split at hres
          case h_2 => cases hres
          rename_i v' hv'
          simp only [Option.some.injEq, Prod.mk.injEq] at hres
          obtain ⟨rfl, rfl⟩ := hres
          have hend : ∀ (I : Addr → Prop) (ρ : List (Option Nat)) (w : World) (vs : List Value), Sat I ρ mem w → F2 (UR w I ρ mem) us vs →
              c.wp P (Ends mem.length I ρ mem w x st mem.length) { tmps := vs.toArray ++ Array.replicate (fn.ntmps - vs.toArray.size) undef, defers := [] } w := by
            intro I ρ w vs hS hus
            refine hR fn c hf hb (startF fn us mem) x st hrun mem.length I ρ mem w mem.length _ w ⟨⟨I, ρ, hS, ?_, .refl⟩, rfl⟩ (Nat.le_refl _) (Nat.le_refl _)
            simp only [startF, Array.toList_append, Array.toList_replicate]
            refine F2.append (F2.map (f := V.w) (Q := UR w I ρ mem) (fun _ _ h => h) hus) ?_
            have : us.length = vs.toArray.size := by rw [F2.length hus]; simp
            rw [this]
            exact F2.replicate ⟨#[], rfl, trivial⟩ _
          refine ⟨⟨fn, c, hf, hb, hname⟩, ?_⟩
          · intro I ρ w vs hS hus
            refine calls_of_wp hf hb (wp_mono (hend I ρ w vs hS hus) ?_)
            rintro e a' w' ⟨rfl, ⟨⟨I', ρ', s1, s2, s3⟩, hd⟩, hl⟩
            obtain ⟨u, hu, hvr⟩ := resV_ok s1 s2 hv'
            obtain ⟨I2, ρ2, t1, t2, t3⟩ := shrink_ok (Nat.le_refl _) s1 hvr s3
            rcases hx with rfl | rfl
            · exact ⟨hd, u, hu, u, I2, ρ2, rfl, t1, t2, t3, shrink_length hl⟩
            · exact ⟨hd, u, hu, u, I2, ρ2, rfl, t1, t2, t3, shrink_length hl⟩
        split at h
        · rename_i st hrun; exact main _ st hrun (.inl rfl) h
        · rename_i st hrun; exact main _ st hrun (.inr rfl) h
        · cases h
    · cases h
  · cases h

theorem callF_ok {loop : LoopF} (hR : RunOK P loop) : CallOK P (callF P loop) := fun f us mem v mem' h => callF_ok1 (f := f) (fun _ c _ _ => hR c) us mem v mem' h

theorem run_ok (hG : GOK P G) (hD : RegDOK P G) : ∀ n, RunOK P (run P G n) ∧ LoopOK P n (run P G n) := by
  intro n
  induction n with
  | zero => exact ⟨(fun c st x st' h => by cases h), (fun c st x st' h => by cases h)⟩
  | succ n ih =>
    have hC := callF_ok ih.1
    refine ⟨fun c st x st' h k I0 ρ0 M0 w0 m a w hs hk hm => (evC_ok hG hD hC ih.2 c st x st' h k I0 ρ0 M0 w0 m a w hs hk hm).1,
      fun c st x st' h k I0 ρ0 M0 w0 m a w hs hk hm => (evC_ok hG hD hC ih.2 (.loop c) st x st' h k I0 ρ0 M0 w0 m a w hs hk hm).2 c rfl⟩

end
end Sh
end Go.Proofs.YtamdjlpobonmiaaDoor
