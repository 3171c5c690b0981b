/- The evaluator tells the truth: regions in the order of the text, code, calls. -/
import Derived.Test.YtamdjlpobonmiaaDoorShK
namespace Go.Proofs.YtamdjlpobonmiaaDoor
namespace Sh
open Go.RowKit

section
variable {P : Program} {G : Tab} {k : Nat} {I0 : Addr → Prop} {ρ0 : List (Option Nat)} {M0 : List B} {w0 w : World}

theorem upd_length : ∀ (m : List (Nat × B)) (M : List B), (upd M m).length = M.length
  | [], _ => rfl
  | (b, x) :: m, M => by rw [upd, upd_length m]; simp

def CallOK (P : Program) (call : CallF) : Prop := ∀ f us mem v mem', call f us mem = some (v, mem') → Enters P f ∧
  ∀ (I : Addr → Prop) (ρ : List (Option Nat)) (w : World) (vs : List Value), Sat I ρ mem w → F2 (UR w I ρ mem) us vs →
    Calls P f vs.toArray w fun e w' => ∃ u I' ρ', e = .returned u ∧ Sat I' ρ' mem' w' ∧ VR w' I' ρ' mem' v u ∧ Ext mem.length I ρ mem w I' ρ' mem' w' ∧ mem.length ≤ mem'.length

theorem Sim.next {st st' : St} {a : Act} {I I' : Addr → Prop} {ρ ρ' : List (Option Nat)} {w' : World} {x : V} {u : Value} {d : Option Tmp} (hd : a.defers = []) (hk : k ≤ st.mem.length)
    (hT : F2 (VR w I ρ st.mem) st.tmps a.tmps.toList) (hE : Ext k I0 ρ0 M0 w0 I ρ st.mem w)
    (hS' : Sat I' ρ' st'.mem w') (hv : VR w' I' ρ' st'.mem x u) (hE' : Ext st.mem.length I ρ st.mem w I' ρ' st'.mem w') (ht : st'.tmps = setTmp st.tmps d x) : Sim k I0 ρ0 M0 w0 st' (a.put d u) w' := by
  refine ⟨⟨I', ρ', hS', ?_, hE.trans (hE'.weaken hk)⟩, by cases d <;> exact hd⟩
  rw [ht]
  exact put_ok (F2.mono (fun _ _ h => VR.step hE' h) hT) hv

theorem exR_ok (hG : GOK P G) {call : CallF} (hC : CallOK P call) {o : Oper} {st st' : St} {a : Act} (h : exR P G call o st = some st') (hs : Sim k I0 ρ0 M0 w0 st a w) (hk : k ≤ st.mem.length)
    (next : Act → World → Prop) (Q : Exit → Act → World → Prop) (hn : ∀ a' w', Sim k I0 ρ0 M0 w0 st' a' w' → st.mem.length ≤ st'.mem.length → next a' w') : o.wp P a w next Q := by
  obtain ⟨⟨I, ρ, hS, hT, hE⟩, hd⟩ := hs
  unfold exR at h
  split at h
  · rename_i ok v m al hc
    cases ok with
    | false => cases h
    | true =>
      simp only [cond_true, Option.some.injEq] at h
      subst h
      obtain ⟨hS1, hE1⟩ := goneExt al.length hS
      have hT1 : F2 (VR w I (ρ ++ List.replicate al.length none) (st.mem ++ List.replicate al.length .gone)) st.tmps a.tmps.toList := F2.mono (fun _ _ h => VR.step (hE1 _) h) hT
      have hc1 : coreT P G o (opnd st.tmps) (restrict (st.mem ++ List.replicate al.length .gone) (foot o.op (opnd st.tmps))) st.mem.length = some ⟨true, v, m, al⟩ := by rw [restrict_gone]; exact hc
      refine coreT_ok (k := st.mem.length) hG hS1 hT1 hc1 rfl (fun j hj => ?_) next Q ?_
      · simp only at hj; rw [List.getElem?_append_right (by omega), List.getElem?_replicate, if_pos (by omega)]
      · intro w' I' ρ' u s1 s2 s3
        refine hn _ _ (Sim.next hd hk hT hE s1 s2 ((hE1 _).trans s3) rfl) ?_
        simp only [putOut, setAll_length, upd_length, List.length_append]
        omega
  · split at h
    · rename_i f args argTypes ho
      split at h
      · rename_i g us hcall
        split at h
        · rename_i v mem' hcc
          simp only [Option.some.injEq] at h; subst h
          obtain ⟨vf, vc, h1, h2⟩ := callOf_ok hT hcall
          obtain ⟨he, hcs⟩ := hC _ _ _ _ _ hcc
          unfold Oper.wp
          rw [call_run ho h1 he]
          refine (hcs I ρ w _ hS h2).mono ?_
          rintro e w' ⟨u, I', ρ', rfl, s1, s2, s3, hl⟩
          exact hn _ _ (Sim.next (st' := ⟨_, _⟩) hd hk hT hE s1 s2 s3 rfl) hl
        · cases h
      · cases h
    · cases h

theorem gd_ok {I : Addr → Prop} {ρ : List (Option Nat)} {M : List B} {ops : Array Oper} {o : Oper} {ts : List V} {a : Act} (hT : F2 (VR w I ρ M) ts a.tmps.toList) :
    match gd ops ts o with
    | .run => Region.wanted o (yielded ops a.tmps) = true
    | .skip => Region.wanted o (yielded ops a.tmps) = false
    | .test d b want => Region.wanted o (yielded ops a.tmps) = (b == want) ∧ ts[d]? = some (vb b)
    | .bad => True := by
  cases hg : o.guard with
  | none => simp only [gd, hg, Region.wanted]
  | some p =>
    obtain ⟨j, want⟩ := p
    cases hd : (ops[j]?).bind (·.dst) with
    | none => simp only [gd, hg, hd, Region.wanted, yielded, Option.bind_none]; rfl
    | some d =>
      cases ht : ts[d]? with
      | none =>
        have hn : a.tmps[d]? = none := by
          have hl : ts.length = a.tmps.size := by rw [F2.length hT]; simp
          refine Array.getElem?_eq_none ?_
          rw [← hl]
          exact Nat.not_lt.1 fun h => by rw [List.getElem?_eq_getElem h] at ht; cases ht
        simp only [gd, hg, hd, ht, Region.wanted, yielded, Option.bind_some, hn]; rfl
      | some x =>
        obtain ⟨v, hv, hr⟩ := F2.get hT ht
        have hv' : a.tmps[d]? = some v := by rw [← Array.getElem?_toList]; exact hv
        have hbad : (∀ b, x ≠ vb b) → x ≠ .tup [] → gd ops ts o = .bad := by
          intro h1 h2
          simp only [gd, hg, hd, ht]
          split
          · rename_i h; cases h
          · rename_i b h; injection h with h; exact absurd h (h1 b)
          · rename_i h; injection h with h; exact absurd h h2
          · rfl
        by_cases h1 : ∃ b, x = vb b
        · obtain ⟨b, rfl⟩ := h1
          have hvb : v = .bool b := hr
          subst hvb
          simp only [gd, hg, hd, ht, Region.wanted, yielded, Option.bind_some, hv', and_true]
          cases b <;> cases want <;> rfl
        · by_cases h2 : x = .tup []
          · subst h2
            obtain ⟨arr, h3, h4⟩ := hr
            subst h3
            simp only [gd, hg, hd, ht, Region.wanted, yielded, Option.bind_some, hv']; rfl
          · rw [hbad (fun b h => h1 ⟨b, h⟩) h2]; trivial

theorem Sim.know {st : St} {a : Act} {d : Nat} {b : Bool} (hs : Sim k I0 ρ0 M0 w0 st a w) (h : st.tmps[d]? = some (vb b)) : Sim k I0 ρ0 M0 w0 ⟨st.tmps.set d (vb b), st.mem⟩ a w := by
  rw [set_self h]; exact hs

theorem Sim.skip {st : St} {a : Act} {o : Oper} (hs : Sim k I0 ρ0 M0 w0 st a w) : Sim k I0 ρ0 M0 w0 (skipO o st) (a.put o.dst undef) w := by
  obtain ⟨⟨I, ρ, hS, hT, hE⟩, hd⟩ := hs
  refine ⟨⟨I, ρ, hS, put_ok hT ⟨#[], rfl, trivial⟩, hE⟩, ?_⟩
  cases o.dst <;> exact hd

theorem stepR_ok (hG : GOK P G) {call : CallF} (hC : CallOK P call) {ops : Array Oper} {i : Nat} {o : Oper} {st st' : St} {a : Act} (hi : ops[i]? = some o) (h : stepR P G call ops o st = some st') (hs : Sim k I0 ρ0 M0 w0 st a w) (hk : k ≤ st.mem.length)
    (K : Act → World → Prop) (Q : Exit → Act → World → Prop) (hn : ∀ a' w', Sim k I0 ρ0 M0 w0 st' a' w' → st.mem.length ≤ st'.mem.length → K a' w') : wpOp P ops Q i K a w := by
  unfold wpOp
  rw [hi]
  simp only
  obtain ⟨I, ρ, hS, hT, hE⟩ := hs.ex
  have hg := gd_ok (ops := ops) (o := o) hT
  unfold stepR at h
  split at h
  · rename_i he
    rw [he] at hg
    rw [hg]
    simp only [if_true]
    exact .inl (exR_ok hG hC h hs hk K Q hn)
  · rename_i he
    rw [he] at hg
    rw [hg]
    simp only [Bool.false_eq_true, if_false]
    simp only [Option.some.injEq] at h; subst h
    exact hn _ _ hs.skip (Nat.le_refl _)
  · rename_i d b want he
    rw [he] at hg
    obtain ⟨h1, h2⟩ := hg
    rw [h1]
    have hs' := hs.know h2
    cases b <;> cases want <;> simp only [cond_true, cond_false, Option.some.injEq] at h
    · exact .inl (exR_ok hG hC h hs' hk K Q hn)
    · subst h; exact hn _ _ hs'.skip (Nat.le_refl _)
    · subst h; exact hn _ _ hs'.skip (Nat.le_refl _)
    · exact .inl (exR_ok hG hC h hs' hk K Q hn)
  · cases h

theorem regR_ok (hG : GOK P G) {call : CallF} (hC : CallOK P call) {ops : Array Oper} (Q : Exit → Act → World → Prop) : ∀ (os : List Oper) (i : Nat) (st st' : St) (a : Act) (w : World), ops.toList.drop i = os → regR P G call ops os st = some st' → Sim k I0 ρ0 M0 w0 st a w → k ≤ st.mem.length →
    (∀ a' w', Sim k I0 ρ0 M0 w0 st' a' w' → st.mem.length ≤ st'.mem.length → Q .normal a' w') → wpOps P ops Q (List.range' i os.length) a w := by
  intro os
  induction os with
  | nil =>
    intro i st st' a w _ h hs hk hn
    simp only [regR, Option.some.injEq] at h; subst h
    exact hn a w hs (Nat.le_refl _)
  | cons o os ih =>
    intro i st st' a w hd h hs hk hn
    simp only [regR] at h
    have hi : ops[i]? = some o := by
      have h0 : (ops.toList.drop i)[0]? = some o := by rw [hd]; rfl
      rw [List.getElem?_drop] at h0
      simpa using h0
    have hd' : ops.toList.drop (i + 1) = os := by
      rw [← List.drop_drop, hd]; rfl
    split at h
    · rename_i st1 h1
      simp only [List.length_cons, List.range'_succ]
      rw [wpOps_cons]
      refine stepR_ok hG hC hi h1 hs hk _ Q ?_
      intro a' w' hs1 hl1
      exact ih (i + 1) st1 st' a' w' hd' h hs1 (by omega) (fun a2 w2 h2 hl2 => hn a2 w2 h2 (by omega))
    · cases h

theorem trunc_ok {st : St} {a : Act} {n : Nat} (hs : Sim k I0 ρ0 M0 w0 st a w) (hk : k ≤ n) : Sim k I0 ρ0 M0 w0 (trunc n st) a w := by
  unfold trunc
  cases hb : (st.mem.take n).all (belowB n) with
  | false => exact hs
  | true =>
    simp only [cond_true]
    obtain ⟨⟨I, ρ, hS, hT, hE⟩, hd⟩ := hs
    have hM : ∀ {r : Nat} {b : B}, r < n → st.mem[r]? = some b → (st.mem.take n)[r]? = some b := fun hr h => by rw [List.getElem?_take_of_lt hr]; exact h
    have hρ : ∀ {r : Nat} {b : Option Nat}, r < n → ρ[r]? = some b → (ρ.take n)[r]? = some b := fun hr h => by rw [List.getElem?_take_of_lt hr]; exact h
    have hM' : ∀ {r : Nat} {b : B}, (st.mem.take n)[r]? = some b → st.mem[r]? = some b ∧ r < n := by
      intro r b h
      rw [List.getElem?_take] at h
      split at h
      · exact ⟨h, by assumption⟩
      · cases h
    have hρ' : ∀ {r : Nat} {b : Option Nat}, (ρ.take n)[r]? = some b → ρ[r]? = some b ∧ r < n := by
      intro r b h
      rw [List.getElem?_take] at h
      split at h
      · exact ⟨h, by assumption⟩
      · cases h
    have hp : ∀ (ps : List (Nat × Nat)) (vs : List Value), ps.all (fun p => Nat.blt p.1 n) = true → F2 (PtrR ρ st.mem) ps vs → F2 (PtrR (ρ.take n) (st.mem.take n)) ps vs := by
      intro ps vs hall hf
      refine F2.mono_mem (fun p hp v ⟨rb, cs, h1, h2, h3⟩ => ?_) hf
      have hlt := List.all_eq_true.1 hall p hp
      rw [Nat.blt_eq] at hlt
      exact ⟨rb, cs, hM hlt h1, hρ hlt h2, h3⟩
    have hcr : ∀ c v, belowC n c = true → CR w I ρ st.mem c v → CR w I (ρ.take n) (st.mem.take n) c v := by
      intro c v hb hc
      cases c with
      | d x => exact hc
      | own r m e g =>
        simp only [belowC, Nat.blt_eq] at hb
        obtain ⟨h1, m', e', h2, h3, h4⟩ := hc
        refine ⟨h1, m', e', hM hb h2, h3, fun hm => ?_⟩
        obtain ⟨A, cap, h5, h6⟩ := h4 hm
        refine ⟨A, cap, h5, h6.imp id ?_⟩
        rintro ⟨rb, arr, T, h7, h8, h9⟩
        exact ⟨rb, arr, T, h7, hρ hb h8, h9⟩
      | ptr b o =>
        simp only [belowC, Nat.blt_eq] at hb
        obtain ⟨rb, cs, h1, h2, h3⟩ := hc
        exact ⟨rb, cs, hM hb h1, hρ hb h2, h3⟩
      | ref sz g => exact hc
      | fn f fs cs =>
        simp only [belowC, Bool.and_eq_true] at hb
        obtain ⟨vf, vc, h1, h2, h3⟩ := hc
        exact ⟨vf, vc, h1, hp _ _ hb.1 h2, hp _ _ hb.2 h3⟩
      | unk => exact hc
    have hur : ∀ u v, belowU n u = true → UR w I ρ st.mem u v → UR w I (ρ.take n) (st.mem.take n) u v := by
      intro u v hb hu
      cases u with
      | one c => exact hcr c v (by simpa [belowU, ucells] using hb) hu
      | agg cs => obtain ⟨arr, h1, h2⟩ := hu; exact ⟨arr, h1, F2.mono_mem (fun c hc y hy => hcr c y (List.all_eq_true.1 hb c hc) hy) h2⟩
    have hvr : ∀ x v, VR w I ρ st.mem x v → VR w I (ρ.take n) (st.mem.take n) (clearV n x) v := by
      intro x v hx
      unfold clearV
      cases hb : belowV n x with
      | false => exact trivial
      | true =>
        simp only [cond_true]
        cases x with
        | w u => exact hur u v hb hx
        | tup us => obtain ⟨arr, h1, h2⟩ := hx; exact ⟨arr, h1, F2.mono_mem (fun u hu y hy => hur u y (List.all_eq_true.1 hb u hu) hy) h2⟩
        | any => exact trivial
    refine ⟨⟨I, ρ.take n, ⟨by simp [hS.len], fun r cs h => ?_, fun r n' e rb h1 h2 => ?_, fun r h => ?_, fun r r' rb h1 h2 => hS.inj r r' rb (hρ' h1).1 (hρ' h2).1, hS.imm, hS.glob⟩, F2.map (fun _ _ h => hvr _ _ h) hT, ?_⟩, hd⟩
    · obtain ⟨h1, h2⟩ := hM' h
      obtain ⟨rb, arr, T, h3, h4, h5, h6⟩ := hS.var r cs h1
      have hbb := List.all_eq_true.1 hb _ (List.mem_of_getElem? h)
      exact ⟨rb, arr, T, hρ h2 h3, h4, F2.mono_mem (fun c hc y hy => hcr c y (List.all_eq_true.1 hbb c hc) hy) h5, h6⟩
    · exact hS.tick r n' e rb (hM' h1).1 (hρ' h2).1
    · exact hρ (hM' h).2 (hS.gone r (hM' h).1)
    · exact hE.trans ⟨rfl, rfl, rfl, Nat.le_refl _, fun _ h => h, fun _ _ => rfl, fun _ _ _ => rfl, fun _ h => .inl h, fun r b h => .inr ⟨r, (hρ' h).1⟩, fun c v hc h => hcr c v (belowC_mono hk hc) h⟩

theorem trunc_length {st : St} {n : Nat} (h : n ≤ st.mem.length) : n ≤ (trunc n st).mem.length := by
  unfold trunc
  cases (st.mem.take n).all (belowB n) with
  | false => exact h
  | true => simp only [cond_true, List.length_take]; omega

def exitOf : Ex → Exit
  | .norm => .normal
  | .exit id => .exit id
  | .ret => .ret

/-- What code comes to. -/
def Ends (k : Nat) (I0 : Addr → Prop) (ρ0 : List (Option Nat)) (M0 : List B) (w0 : World) (x : Ex) (st : St) (n : Nat) (e : Exit) (a : Act) (w : World) : Prop := e = exitOf x ∧ Sim k I0 ρ0 M0 w0 st a w ∧ n ≤ st.mem.length

def LoopOK (P : Program) (m : Nat) (loop : LoopF) : Prop := ∀ c st x st', loop (.loop c) st = some (x, st') → ∀ (k : Nat) (I0 : Addr → Prop) (ρ0 : List (Option Nat)) (M0 : List B) (w0 : World) (n : Nat) (a : Act) (w : World), Sim k I0 ρ0 M0 w0 st a w → k ≤ st.mem.length → n ≤ st.mem.length → Code.rounds P c (Ends k I0 ρ0 M0 w0 x st' n) m a w

def RegDOK (P : Program) (G : Tab) : Prop := ∀ (id : Nat) ops st st', regD P G ops st = some st' → ∀ (k : Nat) (I0 : Addr → Prop) (ρ0 : List (Option Nat)) (M0 : List B) (w0 : World) (n : Nat) (a : Act) (w : World), Sim k I0 ρ0 M0 w0 st a w → k ≤ st.mem.length → n ≤ st.mem.length → (Code.region id ops true).wp P (Ends k I0 ρ0 M0 w0 .norm st' n) a w

theorem know_ok {st : St} {a : Act} {c : Operand} {b : Bool} (hs : Sim k I0 ρ0 M0 w0 st a w) (h : opnd st.tmps c = vb b) : Sim k I0 ρ0 M0 w0 ⟨know st.tmps c b, st.mem⟩ a w := by
  cases c with
  | tmp t =>
    simp only [know]
    simp only [opnd] at h
    by_cases hl : t < st.tmps.length
    · have : st.tmps[t]? = some (vb b) := by
        rw [← h]; simp [List.getD, hl]
      exact hs.know this
    · rw [List.set_eq_of_length_le (Nat.not_lt.1 hl)]; exact hs
  | _ => exact hs

/-- Code, and the rounds of a loop. -/
theorem evC_ok (hG : GOK P G) (hD : RegDOK P G) {call : CallF} {loop : LoopF} {m : Nat} (hC : CallOK P call) (hL : LoopOK P m loop) : ∀ (c : Code) (st : St) (x : Ex) (st' : St), evC P G loop call c st = some (x, st') →
    ∀ (k : Nat) (I0 : Addr → Prop) (ρ0 : List (Option Nat)) (M0 : List B) (w0 : World) (n : Nat) (a : Act) (w : World), Sim k I0 ρ0 M0 w0 st a w → k ≤ st.mem.length → n ≤ st.mem.length →
      c.wp P (Ends k I0 ρ0 M0 w0 x st' n) a w ∧ (∀ y, c = .loop y → Code.rounds P y (Ends k I0 ρ0 M0 w0 x st' n) (m + 1) a w) := by
  intro c
  induction c with
  | skip =>
    intro st x st' h k I0 ρ0 M0 w0 n a w hs hk hn
    simp only [evC, Option.some.injEq, Prod.mk.injEq] at h
    obtain ⟨rfl, rfl⟩ := h
    exact ⟨wp_skip ⟨rfl, hs, hn⟩, fun y h => by cases h⟩
  | label l =>
    intro st x st' h k I0 ρ0 M0 w0 n a w hs hk hn
    simp only [evC, Option.some.injEq, Prod.mk.injEq] at h
    obtain ⟨rfl, rfl⟩ := h
    exact ⟨wp_label ⟨rfl, hs, hn⟩, fun y h => by cases h⟩
  | region id ops draw =>
    intro st x st' h k I0 ρ0 M0 w0 n a w hs hk hn
    refine ⟨?_, fun y h => by cases h⟩
    cases draw with
    | true =>
      simp only [evC, cond_true] at h
      split at h
      · rename_i st1 h1
        simp only [Option.some.injEq, Prod.mk.injEq] at h
        obtain ⟨rfl, rfl⟩ := h
        exact hD id ops st st1 h1 k I0 ρ0 M0 w0 n a w hs hk hn
      · cases h
    | false =>
      simp only [evC, cond_false] at h
      split at h
      · rename_i st1 h1
        simp only [Option.some.injEq, Prod.mk.injEq] at h
        obtain ⟨rfl, rfl⟩ := h
        refine wp_region ?_
        have := regR_ok hG hC (Ends k I0 ρ0 M0 w0 .norm st1 n) ops.toList 0 st st1 a w rfl h1 hs hk (fun a' w' h2 h3 => ⟨rfl, h2, by omega⟩)
        rwa [← List.range_eq_range', Array.length_toList] at this
      · cases h
  | seq y z ihy ihz =>
    intro st x st' h k I0 ρ0 M0 w0 n a w hs hk hn
    refine ⟨wp_seq ?_, fun y h => by cases h⟩
    simp only [evC] at h
    split at h
    · rename_i st1 h1
      refine wp_mono (ihy st .norm st1 h1 k I0 ρ0 M0 w0 st.mem.length a w hs hk (Nat.le_refl _)).1 ?_
      rintro e a' w' ⟨rfl, h2, h3⟩
      exact (ihz st1 x st' h k I0 ρ0 M0 w0 n a' w' h2 (by omega) (by omega)).1
    · rename_i hr
      refine wp_mono (ihy st x st' h k I0 ρ0 M0 w0 n a w hs hk hn).1 ?_
      rintro e a' w' ⟨rfl, h2, h3⟩
      cases x with
      | norm => exact absurd h (hr st')
      | exit i => exact ⟨rfl, h2, h3⟩
      | ret => exact ⟨rfl, h2, h3⟩
  | cond c y z ihy ihz =>
    intro st x st' h k I0 ρ0 M0 w0 n a w hs hk hn
    refine ⟨?_, fun y h => by cases h⟩
    simp only [evC] at h
    split at h
    · rename_i b hc
      have hev : a.eval c = .bool b := by
        obtain ⟨I, ρ, hS, hT, hE⟩ := hs.ex
        have := opnd_ok hT c
        rw [hc] at this
        exact this
      cases b with
      | true => exact wp_cond hev (ihy _ x st' h k I0 ρ0 M0 w0 n a w (know_ok hs hc) hk hn).1
      | false => exact wp_cond hev (ihz _ x st' h k I0 ρ0 M0 w0 n a w (know_ok hs hc) hk hn).1
    · cases h
  | block id y ihy =>
    intro st x st' h k I0 ρ0 M0 w0 n a w hs hk hn
    refine ⟨wp_block ?_, fun y h => by cases h⟩
    simp only [evC] at h
    split at h
    · rename_i i st1 h1
      refine wp_mono (ihy st _ st1 h1 k I0 ρ0 M0 w0 n a w hs hk hn).1 ?_
      rintro e a' w' ⟨rfl, h2, h3⟩
      cases hb : Nat.beq i id with
      | true =>
        simp only [hb, cond_true, Option.some.injEq, Prod.mk.injEq] at h
        obtain ⟨rfl, rfl⟩ := h
        rw [Nat.beq_eq] at hb; subst hb
        simp only [exitOf, Exit.inBlock, if_true]
        exact ⟨rfl, h2, h3⟩
      | false =>
        simp only [hb, cond_false, Option.some.injEq, Prod.mk.injEq] at h
        obtain ⟨rfl, rfl⟩ := h
        have hne : ¬ i = id := fun e => by rw [e, Nat.beq_refl] at hb; cases hb
        simp only [exitOf, Exit.inBlock, if_neg hne]
        exact ⟨rfl, h2, h3⟩
    · rename_i hr
      refine wp_mono (ihy st x st' h k I0 ρ0 M0 w0 n a w hs hk hn).1 ?_
      rintro e a' w' ⟨rfl, h2, h3⟩
      cases x with
      | norm => exact ⟨rfl, h2, h3⟩
      | exit i => exact absurd h (hr i st')
      | ret => exact ⟨rfl, h2, h3⟩
  | loop y ihy =>
    intro st x st' h k I0 ρ0 M0 w0 n a w hs hk hn
    have key : Code.rounds P y (Ends k I0 ρ0 M0 w0 x st' n) (m + 1) a w := by
      rw [rounds_succ]
      simp only [evC] at h
      split at h
      · rename_i st1 h1
        refine wp_mono (ihy st .norm st1 h1 k I0 ρ0 M0 w0 st.mem.length a w hs hk (Nat.le_refl _)).1 ?_
        rintro e a' w' ⟨rfl, h2, h3⟩
        have hl := trunc_length (st := st1) h3
        exact hL y _ x st' h k I0 ρ0 M0 w0 n a' w' (trunc_ok h2 hk) (by omega) (by omega)
      · rename_i hr
        refine wp_mono (ihy st x st' h k I0 ρ0 M0 w0 n a w hs hk hn).1 ?_
        rintro e a' w' ⟨rfl, h2, h3⟩
        cases x with
        | norm => exact absurd h (hr st')
        | exit i => exact ⟨rfl, h2, h3⟩
        | ret => exact ⟨rfl, h2, h3⟩
    exact ⟨wp_loop_rounds (m + 1) key, fun z hz => by injection hz with hz; subst hz; exact key⟩
  | exit id =>
    intro st x st' h k I0 ρ0 M0 w0 n a w hs hk hn
    simp only [evC, Option.some.injEq, Prod.mk.injEq] at h
    obtain ⟨rfl, rfl⟩ := h
    exact ⟨wp_exit ⟨rfl, hs, hn⟩, fun y h => by cases h⟩
  | ret =>
    intro st x st' h k I0 ρ0 M0 w0 n a w hs hk hn
    simp only [evC, Option.some.injEq, Prod.mk.injEq] at h
    obtain ⟨rfl, rfl⟩ := h
    exact ⟨wp_ret ⟨rfl, hs, hn⟩, fun y h => by cases h⟩
  | _ =>
    intro st x st' h
    simp [evC] at h

end
end Sh
end Go.Proofs.YtamdjlpobonmiaaDoor
