/- Regions that draw their order: what an operation leans on. -/
import Derived.Test.YtamdjlpobonmiaaDoorShO
namespace Go.Proofs.YtamdjlpobonmiaaDoor
namespace Sh
open Go.RowKit

section
variable {P : Program} {G : Tab}

theorem partsU_congr {ev ev' : Operand → V} : ∀ {ps : List (Nat × Operand)}, (∀ p ∈ ps, ev p.2 = ev' p.2) → partsU ev ps = partsU ev' ps
  | [], _ => rfl
  | p :: ps, h => by
    obtain ⟨i, x⟩ := p
    simp only [partsU, h (i, x) (by simp), partsU_congr (fun q hq => h q (List.mem_cons_of_mem _ hq))]
theorem argsU_congr {ev ev' : Operand → V} : ∀ {ps : List Operand}, (∀ p ∈ ps, ev p = ev' p) → argsU ev ps = argsU ev' ps
  | [], _ => rfl
  | p :: ps, h => by simp only [argsU, h p (by simp), argsU_congr (fun q hq => h q (List.mem_cons_of_mem _ hq))]
theorem ptrsOf_congr {ev ev' : Operand → V} : ∀ {ps : List Operand}, (∀ p ∈ ps, ev p = ev' p) → ptrsOf ev ps = ptrsOf ev' ps
  | [], _ => rfl
  | p :: ps, h => by simp only [ptrsOf, h p (by simp), ptrsOf_congr (fun q hq => h q (List.mem_cons_of_mem _ hq))]
theorem flatMap_congr' {ev ev' : Operand → V} : ∀ {ps : List Operand}, (∀ p ∈ ps, ev p = ev' p) → (ps.flatMap fun x => vblocks (ev x)) = ps.flatMap fun x => vblocks (ev' x)
  | [], _ => rfl
  | p :: ps, h => by simp only [List.flatMap_cons, h p (by simp), flatMap_congr' (fun q hq => h q (List.mem_cons_of_mem _ hq))]

theorem boundOf_congr {ev ev' : Operand → V} {x : Option Operand} (h : ∀ p ∈ x.toArray, ev p = ev' p) : boundOf ev x = boundOf ev' x := by
  cases x with
  | none => rfl
  | some y => simp only [boundOf, h y (by simp)]

theorem core_congr {o : Oper} {ev ev' : Operand → V} {m : List (Nat × B)} {slot : Nat} (h : ∀ x ∈ o.op.operands, ev x = ev' x) : core P o ev m slot = core P o ev' m slot := by
  cases ho : o.op with
  | build t ps =>
    rw [ho] at h
    simp only [core, ho, partsU_congr (ev := ev) (ev' := ev') (ps := ps.toList) (fun p hp => h _ (by simp only [Op.operands, List.mem_toArray, List.mem_map]; exact ⟨p, hp, rfl⟩))]
  | buildSlice t len ps =>
    rw [ho] at h
    simp only [core, ho, partsU_congr (ev := ev) (ev' := ev') (ps := ps.toList) (fun p hp => h _ (by simp only [Op.operands, List.mem_toArray, List.mem_map]; exact ⟨p, hp, rfl⟩))]
  | makeFunc fn fs cs =>
    rw [ho] at h
    cases fn with
    | func g =>
      simp only [core, ho, ptrsOf_congr (ev := ev) (ev' := ev') (ps := fs.toList) (fun p hp => h _ (by simp only [Op.operands, Array.mem_append]; exact .inl (by simpa using hp))),
        ptrsOf_congr (ev := ev) (ev' := ev') (ps := cs.toList) (fun p hp => h _ (by simp only [Op.operands, Array.mem_append]; exact .inr (by simpa using hp)))]
    | _ => simp [core, ho]
  | slice t x lo hi mx =>
    rw [ho] at h
    cases mx with
    | some m => simp [core, ho]
    | none =>
      simp only [core, ho, boundOf_congr (ev := ev) (ev' := ev') (x := lo) (fun p hp => h p (by simp only [Op.operands, Array.mem_append]; exact .inl (.inl (.inr hp)))),
        boundOf_congr (ev := ev) (ev' := ev') (x := hi) (fun p hp => h p (by simp only [Op.operands, Array.mem_append]; exact .inl (.inr hp))), h x (by simp [Op.operands])]
  | call c =>
    rw [ho] at h
    obtain ⟨callee, args, argTypes⟩ := c
    cases callee with
    | value f => simp [core, ho]
    | invoke r mm => simp [core, ho]
    | builtin b =>
      have ha : ∀ x ∈ args.toList, ev x = ev' x := fun x hx => h x (by simp only [Op.operands, Call.operands]; simpa using hx)
      have hev : ∀ l : List Operand, (∀ x ∈ l, ev x = ev' x) → ∀ (bb : Builtin) (tl : List TypeId), True := fun _ _ _ _ => trivial
      simp only [core, ho]
      clear hev
      split
      · rename_i x t h1 _; rw [ha x (by rw [h1]; simp)]
      · rename_i x y h1; rw [ha x (by rw [h1]; simp), ha y (by rw [h1]; simp)]
      · rename_i x y h1; rw [ha x (by rw [h1]; simp), ha y (by rw [h1]; simp)]
      · rename_i x y z u h1; rw [ha x (by rw [h1]; simp), ha y (by rw [h1]; simp), ha z (by rw [h1]; simp), ha u (by rw [h1]; simp)]
      · rename_i x y z u h1; rw [ha x (by rw [h1]; simp), ha y (by rw [h1]; simp), ha z (by rw [h1]; simp), ha u (by rw [h1]; simp)]
      · rename_i x y t t' h1 _; rw [ha x (by rw [h1]; simp), ha y (by rw [h1]; simp)]
      · rfl
  | move x => rw [ho] at h; simp only [core, ho, h x (by simp [Op.operands])]
  | assign x => rw [ho] at h; simp only [core, ho, h x (by simp [Op.operands])]
  | pick c x y => rw [ho] at h; simp only [core, ho, h c (by simp [Op.operands]), h x (by simp [Op.operands]), h y (by simp [Op.operands])]
  | box t x => rw [ho] at h; simp only [core, ho, h x (by simp [Op.operands])]
  | load t x => rw [ho] at h; simp only [core, ho, h x (by simp [Op.operands])]
  | store t x y => rw [ho] at h; simp only [core, ho, h x (by simp [Op.operands]), h y (by simp [Op.operands])]
  | nilCheck x => rw [ho] at h; simp only [core, ho, h x (by simp [Op.operands])]
  | binOp op t x y yt => rw [ho] at h; simp only [core, ho, h x (by simp [Op.operands]), h y (by simp [Op.operands])]
  | unOp op t x => rw [ho] at h; simp only [core, ho, h x (by simp [Op.operands])]
  | convert s d x => rw [ho] at h; simp only [core, ho, h x (by simp [Op.operands])]
  | fieldAddr s x f => rw [ho] at h; simp only [core, ho, h x (by simp [Op.operands])]
  | field s x f => rw [ho] at h; simp only [core, ho, h x (by simp [Op.operands])]
  | indexAddr t x ix => rw [ho] at h; simp only [core, ho, h x (by simp [Op.operands]), h ix (by simp [Op.operands])]
  | index t x ix => rw [ho] at h; simp only [core, ho, h x (by simp [Op.operands]), h ix (by simp [Op.operands])]
  | extract x i => rw [ho] at h; simp only [core, ho, h x (by simp [Op.operands])]
  | _ => simp [core, ho]

theorem callOf_congr {ev ev' : Operand → V} {f : Operand} {args : List Operand} (hf : ev f = ev' f) (h : ∀ x ∈ args, ev x = ev' x) : callOf ev f args = callOf ev' f args := by
  simp only [callOf, hf, argsU_congr h]

theorem coreT_congr {o : Oper} {ev ev' : Operand → V} {m : List (Nat × B)} {slot : Nat} (h : ∀ x ∈ o.op.operands, ev x = ev' x) : coreT P G o ev m slot = coreT P G o ev' m slot := by
  unfold coreT
  split
  · rename_i f args argTypes ho
    rw [ho] at h
    rw [callOf_congr (ev := ev) (ev' := ev') (h f (by simp [Op.operands, Call.operands])) (fun x hx => h x (by simp only [Op.operands, Call.operands, Array.mem_append]; exact .inr (by simpa using hx)))]
  · rename_i t x ho
    rw [core_congr (ev := ev) (ev' := ev') h]
    rw [ho] at h
    rw [h x (by simp [Op.operands])]
  · exact core_congr h

theorem foot_congr {op : Op} {ev ev' : Operand → V} (h : ∀ x ∈ op.operands, ev x = ev' x) : foot op ev = foot op ev' := by
  cases op with
  | load t a => simp only [foot, h a (by simp [Op.operands])]
  | store t a x => simp only [foot, h a (by simp [Op.operands])]
  | call c =>
    obtain ⟨callee, args, argTypes⟩ := c
    cases callee with
    | builtin b =>
      simp only [foot]
      split
      · rename_i x l hx; rw [h x (by simp only [Op.operands, Call.operands, Array.mem_append]; right; rw [← Array.mem_toList_iff, hx]; simp)]
      · rfl
    | value f =>
      simp only [foot, h f (by simp [Op.operands, Call.operands]), flatMap_congr' (ev := ev) (ev' := ev') (ps := args.toList) (fun x hx => h x (by simp only [Op.operands, Call.operands, Array.mem_append]; exact .inr (by simpa using hx)))]
    | invoke r m => rfl
  | _ => rfl

theorem opnd_congr {ops : Array Oper} {o : Oper} {ts ts' : List V} (h : ∀ t ∈ o.looksAt ops, ts[t]? = ts'[t]?) : ∀ x ∈ o.op.operands, opnd ts x = opnd ts' x := by
  intro x hx
  cases x with
  | tmp t =>
    simp only [opnd, List.getD]
    rw [h t ?_]
    unfold Oper.looksAt
    refine List.mem_append_left _ (List.mem_filterMap.2 ⟨.tmp t, by simpa using hx, rfl⟩)
  | _ => rfl

theorem gd_congr {ops : Array Oper} {o : Oper} {ts ts' : List V} (h : ∀ t ∈ o.looksAt ops, ts[t]? = ts'[t]?) : gd ops ts o = gd ops ts' o := by
  unfold gd
  cases hg : o.guard with
  | none => rfl
  | some p =>
    obtain ⟨j, want⟩ := p
    simp only
    cases hd : (ops[j]?).bind (·.dst) with
    | none => rfl
    | some d =>
      simp only
      rw [h d ?_]
      unfold Oper.looksAt
      refine List.mem_append_right _ ?_
      rw [hg]
      simp only [hd]
      simp

theorem restrict_congr {M M' : List B} : ∀ {l : List Nat}, (∀ b ∈ l, M[b]? = M'[b]?) → restrict M l = restrict M' l
  | [], _ => rfl
  | b :: l, h => by
    simp only [restrict, List.getD, h b (by simp), restrict_congr (fun c hc => h c (List.mem_cons_of_mem _ hc))]

/-- What a step writes in memory. -/
def setMany : List B → List Nat → List B → List B
  | M, [], _ => M
  | M, b :: bs, src => setMany (M.set b (src.getD b .gone)) bs src

theorem setMany_length : ∀ (bs : List Nat) (M src : List B), (setMany M bs src).length = M.length
  | [], _, _ => rfl
  | b :: bs, M, src => by rw [setMany, setMany_length]; simp

theorem setMany_out : ∀ (bs : List Nat) (M src : List B) (x : Nat), x ∉ bs → (setMany M bs src)[x]? = M[x]?
  | [], _, _, _, _ => rfl
  | b :: bs, M, src, x, h => by
    rw [setMany, setMany_out bs _ _ x (fun hx => h (List.mem_cons_of_mem _ hx)), List.getElem?_set_ne (fun e => h (by rw [e]; simp))]

theorem setMany_in : ∀ (bs : List Nat) (M src : List B) (x : Nat), x ∈ bs → x < M.length → (setMany M bs src)[x]? = some (src.getD x .gone)
  | b :: bs, M, src, x, h, hl => by
    rw [setMany]
    by_cases hx : x ∈ bs
    · exact setMany_in bs _ _ x hx (by simpa using hl)
    · have : x = b := by
        rcases List.mem_cons.1 h with h | h
        · exact h
        · exact absurd h hx
      subst this
      rw [setMany_out bs _ _ _ hx, List.getElem?_set]
      simp [hl]

theorem setMany_comm {M : List B} {bs cs : List Nat} {src src' : List B} (h : ∀ x ∈ bs, x ∉ cs) : setMany (setMany M bs src) cs src' = setMany (setMany M cs src') bs src := by
  apply List.ext_getElem?
  intro x
  by_cases hb : x ∈ bs
  · have hc := h x hb
    rw [setMany_out cs _ _ _ hc]
    by_cases hl : x < M.length
    · rw [setMany_in bs _ _ _ hb hl, setMany_in bs _ _ _ hb (by rw [setMany_length]; exact hl)]
    · rw [List.getElem?_eq_none (by rw [setMany_length]; omega), List.getElem?_eq_none (by rw [setMany_length, setMany_length]; omega)]
  · rw [setMany_out bs _ _ _ hb]
    by_cases hc : x ∈ cs
    · by_cases hl : x < M.length
      · rw [setMany_in cs _ _ _ hc (by rw [setMany_length]; exact hl), setMany_in cs _ _ _ hc hl]
      · rw [List.getElem?_eq_none (by rw [setMany_length, setMany_length]; omega), List.getElem?_eq_none (by rw [setMany_length]; omega)]
    · rw [setMany_out cs _ _ _ hc, setMany_out cs _ _ _ hc, setMany_out bs _ _ _ hb]

theorem slotsOf_mem : ∀ {n s x : Nat}, x ∈ slotsOf s n ↔ s ≤ x ∧ x < s + n
  | 0, s, x => by simp only [slotsOf, List.not_mem_nil, false_iff]; omega
  | n + 1, s, x => by
    simp only [slotsOf, List.mem_cons, slotsOf_mem (n := n)]
    omega

theorem setAll_out : ∀ (bs : List B) (M : List B) (s x : Nat), x ∉ slotsOf s bs.length → (setAll M s bs)[x]? = M[x]?
  | [], _, _, _, _ => rfl
  | b :: bs, M, s, x, h => by
    simp only [List.length_cons, slotsOf, List.mem_cons, not_or] at h
    rw [setAll, setAll_out bs _ _ _ h.2, List.getElem?_set_ne (fun e => h.1 e.symm)]

theorem setAll_in : ∀ (bs : List B) (M M' : List B) (s x : Nat), x ∈ slotsOf s bs.length → M.length = M'.length → (setAll M s bs)[x]? = (setAll M' s bs)[x]?
  | b :: bs, M, M', s, x, h, hl => by
    simp only [setAll]
    by_cases hx : x ∈ slotsOf (s + 1) bs.length
    · exact setAll_in bs _ _ _ _ hx (by simpa using hl)
    · have : x = s := by
        simp only [List.length_cons, slotsOf, List.mem_cons] at h
        rcases h with h | h
        · exact h
        · exact absurd h hx
      subst this
      rw [setAll_out bs _ _ _ hx, setAll_out bs _ _ _ hx, List.getElem?_set, List.getElem?_set]
      simp [hl]

theorem upd_out : ∀ (m : List (Nat × B)) (M : List B) (x : Nat), x ∉ m.map (·.1) → (upd M m)[x]? = M[x]?
  | [], _, _, _ => rfl
  | (b, y) :: m, M, x, h => by
    simp only [List.map_cons, List.mem_cons, not_or] at h
    rw [upd, upd_out m _ _ h.2, List.getElem?_set_ne (fun e => h.1 e.symm)]

theorem upd_in : ∀ (m : List (Nat × B)) (M M' : List B) (x : Nat), x ∈ m.map (·.1) → M.length = M'.length → (upd M m)[x]? = (upd M' m)[x]?
  | (b, y) :: m, M, M', x, h, hl => by
    simp only [upd]
    by_cases hx : x ∈ m.map (·.1)
    · exact upd_in m _ _ _ hx (by simpa using hl)
    · have : x = b := by
        simp only [List.map_cons, List.mem_cons] at h
        rcases h with h | h
        · exact h
        · exact absurd h hx
      subst this
      rw [upd_out m _ _ hx, upd_out m _ _ hx, List.getElem?_set, List.getElem?_set]
      simp [hl]

theorem sameKeys_ok : ∀ {m : List (Nat × B)} {l : List Nat}, sameKeys m l = true → m.map (·.1) = l
  | [], [], _ => rfl
  | [], _ :: _, h => by cases h
  | (_, _) :: _, [], h => by cases h
  | (a, _) :: m, b :: l, h => by
    simp only [sameKeys, Bool.and_eq_true, Nat.beq_eq] at h
    simp only [List.map_cons, h.1, sameKeys_ok h.2]

/-- What an operation that does not write leaves. -/
theorem coreT_still {o : Oper} {ev : Operand → V} {m : List (Nat × B)} {slot : Nat} {out : Out} (hw : isWr o.op = false) (h : coreT P G o ev m slot = some out) : out.m = m ∧ out.al = [] := by
  cases ho : o.op with
  | load t a =>
    simp only [coreT, ho, core] at h
    split at h
    · split at h
      · rename_i cs _
        cases hb : Nat.ble _ _ with
        | false => rw [hb] at h; cases h
        | true => rw [hb] at h; simp only [cond_true, Option.some.injEq] at h; subst h; exact ⟨rfl, rfl⟩
      · cases h
    · split at h
      · split at h
        · simp only [Option.some.injEq] at h; subst h; exact ⟨rfl, rfl⟩
        · cases h
      · cases h
    · rename_i sz g _ _
      cases hb : Nat.ble (P.cellsOf t) sz with
      | false => rw [hb] at h; cases h
      | true => rw [hb] at h; simp only [cond_true, Option.some.injEq] at h; subst h; exact ⟨rfl, rfl⟩
    · rename_i sz g _ _
      cases hb : Nat.blt 0 sz with
      | false => rw [hb] at h; cases h
      | true => rw [hb] at h; simp only [cond_true, Option.some.injEq] at h; subst h; exact ⟨rfl, rfl⟩
    · cases h
  | call c =>
    obtain ⟨callee, args, argTypes⟩ := c
    cases callee with
    | value f => rw [ho] at hw; cases hw
    | invoke r mm => rw [ho] at hw; cases hw
    | builtin b =>
      simp only [coreT, ho, core] at h
      split at h
      · split at h
        · simp only [Option.some.injEq] at h; subst h; exact ⟨rfl, rfl⟩
        · cases h
      · split at h
        · simp only [Option.some.injEq] at h; subst h; exact ⟨rfl, rfl⟩
        · cases h
      · split at h
        · simp only [Option.some.injEq] at h; subst h; exact ⟨rfl, rfl⟩
        · cases h
      · split at h
        · simp only [Option.some.injEq] at h; subst h; exact ⟨rfl, rfl⟩
        · cases h
      · split at h
        · simp only [Option.some.injEq] at h; subst h; exact ⟨rfl, rfl⟩
        · cases h
      · rw [ho] at hw; cases hw
      · cases h
  | _ => rw [ho] at hw; cases hw

/-- What a step of a region that draws does, said of its record. -/
structure Acts (τ τ' σ' : St) (r : Rec) : Prop where
  tmps : τ'.tmps = setTmp τ.tmps r.dst (match r.dst with
    | some d => σ'.tmps.getD d .any
    | none => .any)
  mem : τ'.mem = bif r.wr then setMany τ.mem r.ms σ'.mem else τ.mem

theorem setTmp_getD {ts ts' : List V} {d : Option Tmp} {v : V} (hl : ts.length = ts'.length) : setTmp ts d v = setTmp ts d (match d with
    | some x => (setTmp ts' d v).getD x .any
    | none => .any) := by
  cases d with
  | none => rfl
  | some d =>
    simp only [setTmp]
    rcases Nat.lt_or_ge d ts'.length with h | h
    · simp [List.getD, h]
    · rw [List.set_eq_of_length_le (hl ▸ h), List.set_eq_of_length_le (hl ▸ h)]

theorem stepD_local {ops : Array Oper} {slot : Nat} {o : Oper} {σ σ' τ : St} {r : Rec} (h : stepD P G ops slot o σ = some (true, σ', r)) (ht : ∀ t ∈ r.looks, τ.tmps[t]? = σ.tmps[t]?) (hm : ∀ b ∈ r.ms, τ.mem[b]? = σ.mem[b]?)
    (hlt : τ.tmps.length = σ.tmps.length) (hlm : τ.mem.length = σ.mem.length) : r.looks = o.looksAt ops ∧ r.dst = o.dst ∧ ∃ τ', stepD P G ops slot o τ = some (true, τ', r) ∧ Acts τ τ' σ' r := by
  have hex : ∀ σ', exD P G ops slot o σ = some (true, σ', r) → (∀ t ∈ r.looks, τ.tmps[t]? = σ.tmps[t]?) → r.looks = o.looksAt ops ∧ r.dst = o.dst ∧ ∃ τ', exD P G ops slot o τ = some (true, τ', r) ∧ Acts τ τ' σ' r := by
    intro σ' h ht
    unfold exD at h
    split at h
    case h_2 => cases h
    rename_i ok v m al hc
    cases hb : sameKeys m (foot o.op (opnd σ.tmps)) && Nat.ble al.length stride && (foot o.op (opnd σ.tmps)).all (fun b => Nat.blt b slot) with
    | false => rw [hb] at h; cases h
    | true =>
      rw [hb] at h
      simp only [cond_true, Option.some.injEq, Prod.mk.injEq] at h
      obtain ⟨rfl, rfl, rfl⟩ := h
      simp only at ht hm
      have hops := opnd_congr (o := o) ht
      have hfoot : foot o.op (opnd τ.tmps) = foot o.op (opnd σ.tmps) := foot_congr hops
      have hres : restrict τ.mem (foot o.op (opnd σ.tmps)) = restrict σ.mem (foot o.op (opnd σ.tmps)) := restrict_congr fun b hb => hm b (List.mem_append_left _ hb)
      have hc' : coreT P G o (opnd τ.tmps) (restrict τ.mem (foot o.op (opnd τ.tmps))) slot = some ⟨true, v, m, al⟩ := by rw [hfoot, hres, coreT_congr hops]; exact hc
      refine ⟨rfl, rfl, ⟨setTmp τ.tmps o.dst v, setAll (upd τ.mem m) slot al⟩, ?_, ?_, ?_⟩
      · unfold exD
        rw [hc']
        simp only [hfoot, hb, cond_true]
      · exact setTmp_getD (d := o.dst) (v := v) hlt
      · simp only [Bool.and_eq_true] at hb
        have hkeys := sameKeys_ok hb.1.1
        simp only
        cases hw : isWr o.op with
        | false =>
          obtain ⟨h1, h2⟩ := coreT_still hw hc
          simp only at h1 h2
          subst h1; subst h2
          simp only [cond_false, setAll]
          rw [← hres, upd_restrict]
        | true =>
          simp only [cond_true]
          apply List.ext_getElem?
          intro x
          by_cases hx : x ∈ foot o.op (opnd σ.tmps) ++ slotsOf slot al.length
          · by_cases hl : x < τ.mem.length
            · rw [setMany_in _ _ _ _ hx hl]
              have hl2 : x < (setAll (upd σ.mem m) slot al).length := by rw [setAll_length, upd_length]; omega
              have hval : (setAll (upd σ.mem m) slot al).getD x .gone = (setAll (upd σ.mem m) slot al)[x] := by simp [List.getD, hl2]
              rw [hval, ← List.getElem?_eq_getElem hl2]
              by_cases hs : x ∈ slotsOf slot al.length
              · exact setAll_in al _ _ _ _ hs (by rw [upd_length, upd_length, hlm])
              · rw [setAll_out al _ _ _ hs, setAll_out al _ _ _ hs]
                have hk : x ∈ m.map (·.1) := by
                  rw [hkeys]
                  rcases List.mem_append.1 hx with h | h
                  · exact h
                  · exact absurd h hs
                exact upd_in m _ _ _ hk hlm
            · rw [List.getElem?_eq_none (by rw [setAll_length, upd_length]; omega), List.getElem?_eq_none (by rw [setMany_length]; omega)]
          · rw [setMany_out _ _ _ _ hx]
            simp only [List.mem_append, not_or] at hx
            rw [setAll_out al _ _ _ hx.2, upd_out m _ _ (by rw [hkeys]; exact hx.1)]
  have hskip : ∀ σ', some (true, skipO o σ, skipRec ops o) = some (true, σ', r) → r.looks = o.looksAt ops ∧ r.dst = o.dst ∧ ∃ τ', some (true, skipO o τ, skipRec ops o) = some (true, τ', r) ∧ Acts τ τ' σ' r := by
    intro σ' h
    simp only [Option.some.injEq, Prod.mk.injEq, true_and] at h
    obtain ⟨rfl, rfl⟩ := h
    exact ⟨rfl, rfl, skipO o τ, rfl, setTmp_getD (d := o.dst) (v := .tup []) hlt, rfl⟩
  have hlooks : r.looks = o.looksAt ops := by
    unfold stepD at h
    have hr : ∀ σ', exD P G ops slot o σ = some (true, σ', r) → r.looks = o.looksAt ops := by
      intro σ' h
      unfold exD at h
      split at h
      case h_2 => cases h
      cases hb : sameKeys _ (foot o.op (opnd σ.tmps)) && Nat.ble _ stride && (foot o.op (opnd σ.tmps)).all (fun b => Nat.blt b slot) with
      | false => rw [hb] at h; cases h
      | true =>
        rw [hb] at h
        simp only [cond_true, Option.some.injEq, Prod.mk.injEq] at h
        obtain ⟨_, _, rfl⟩ := h
        rfl
    split at h
    · exact hr _ h
    · exact (hskip _ h).1
    · rename_i d b want _
      cases hbw : b == want with
      | true => rw [hbw] at h; exact hr _ h
      | false => rw [hbw] at h; exact (hskip _ h).1
    · cases h
  rw [hlooks] at ht
  have hgd := gd_congr (o := o) ht
  unfold stepD at h ⊢
  rw [hgd]
  split at h
  · exact hex _ h (by rw [hlooks]; exact ht)
  · exact hskip _ h
  · rename_i d b want _
    cases hbw : b == want with
    | true => rw [hbw] at h; exact hex _ h (by rw [hlooks]; exact ht)
    | false => rw [hbw] at h; exact hskip _ h
  · cases h

end
end Sh
end Go.Proofs.YtamdjlpobonmiaaDoor
