/- Regions that draw their order: whatever the order, the state is the text's. -/
import Derived.Test.YtamdjlpobonmiaaDoorShP
namespace Go.Proofs.YtamdjlpobonmiaaDoor
namespace Sh
open Go.RowKit

section
variable {P : Program} {G : Tab}

theorem goD_tr {ops : Array Oper} {base : Nat} : ∀ (os : List Oper) (i : Nat) (st : St) (rs : List Rec) (st' : St) (rs' : List Rec), goD P G ops base i os st rs = some (st', rs') →
    ∃ (σ : Nat → St) (r : Nat → Rec), σ 0 = st ∧ (∀ j o, os[j]? = some o → stepD P G ops (base + (i + j) * stride) o (σ j) = some (true, σ (j + 1), r j)) ∧
      rs' = rs ++ (List.range os.length).map r ∧ σ os.length = st'
  | [], i, st, rs, st', rs', h => by
    simp only [goD, Option.some.injEq, Prod.mk.injEq] at h
    obtain ⟨rfl, rfl⟩ := h
    exact ⟨fun _ => st, fun _ => ⟨[], none, [], false⟩, rfl, fun j o hj => by simp at hj, by simp, rfl⟩
  | o :: os, i, st, rs, st', rs', h => by
    simp only [goD] at h
    split at h
    · rename_i st1 r1 h1
      obtain ⟨σ, r, e1, e2, e3, e4⟩ := goD_tr os (i + 1) st1 _ st' rs' h
      refine ⟨fun j => match j with | 0 => st | j + 1 => σ j, fun j => match j with | 0 => r1 | j + 1 => r j, rfl, ?_, ?_, ?_⟩
      · intro j o' hj
        cases j with
        | zero =>
          simp only [List.getElem?_cons_zero, Option.some.injEq] at hj
          subst hj
          simp only [Nat.add_zero, Nat.zero_add]
          rw [e1]; exact h1
        | succ j =>
          simp only [List.getElem?_cons_succ] at hj
          have := e2 j o' hj
          rw [show i + (j + 1) = i + 1 + j by omega]
          exact this
      · rw [e3, List.length_cons, List.range_succ_eq_map, List.map_cons, List.map_map]
        simp only [List.append_assoc, List.cons_append, List.nil_append]
        rfl
      · simp only [List.length_cons]; exact e4
    · cases h

/-- One recorded step, made on another state. -/
def act1 (σ' : St) (r : Rec) (τ : St) : St :=
  ⟨setTmp τ.tmps r.dst (match r.dst with
    | some x => σ'.tmps.getD x .any
    | none => .any), bif r.wr then setMany τ.mem r.ms σ'.mem else τ.mem⟩

theorem Acts.eq {τ τ' σ' : St} {r : Rec} (h : Acts τ τ' σ' r) : τ' = act1 σ' r τ := by
  obtain ⟨ts, m⟩ := τ'
  have h1 := h.tmps
  have h2 := h.mem
  simp only at h1 h2
  rw [h1, h2]; rfl

theorem setTmp_length {ts : List V} {d : Option Tmp} {v : V} : (setTmp ts d v).length = ts.length := by
  cases d <;> simp [setTmp]

theorem act1_len {σ' τ : St} {r : Rec} : (act1 σ' r τ).tmps.length = τ.tmps.length ∧ (act1 σ' r τ).mem.length = τ.mem.length := by
  refine ⟨setTmp_length, ?_⟩
  simp only [act1]
  cases r.wr with
  | true => exact setMany_length _ _ _
  | false => rfl

/-- The steps of a set, made in the order of the text. -/
def play (σ : Nat → St) (r : Nat → Rec) (S : Nat → Bool) : Nat → St
  | 0 => σ 0
  | m + 1 => bif S m then act1 (σ (m + 1)) (r m) (play σ r S m) else play σ r S m

variable {σ : Nat → St} {r : Nat → Rec}

theorem play_len {S : Nat → Bool} : ∀ m, (play σ r S m).tmps.length = (σ 0).tmps.length ∧ (play σ r S m).mem.length = (σ 0).mem.length
  | 0 => ⟨rfl, rfl⟩
  | m + 1 => by
    simp only [play]
    cases S m with
    | true => simp only [cond_true]; rw [act1_len.1, act1_len.2]; exact play_len m
    | false => exact play_len m

theorem setTmp_ne {ts : List V} {d : Option Tmp} {v : V} {t : Nat} (h : d ≠ some t) : (setTmp ts d v)[t]? = ts[t]? := by
  cases d with
  | none => rfl
  | some d => simp only [setTmp]; exact List.getElem?_set_ne (fun e => h (by rw [e]))

theorem setTmp_cong {ts ts' : List V} {d : Option Tmp} {v : V} {t : Nat} (hl : ts.length = ts'.length) (h : ts[t]? = ts'[t]?) : (setTmp ts d v)[t]? = (setTmp ts' d v)[t]? := by
  cases d with
  | none => exact h
  | some d =>
    simp only [setTmp, List.getElem?_set]
    rw [hl, h]

theorem play_tmp {S S' : Nat → Bool} {t : Nat} : ∀ m, (∀ j, j < m → S j ≠ S' j → (r j).dst ≠ some t) → (play σ r S m).tmps[t]? = (play σ r S' m).tmps[t]?
  | 0, _ => rfl
  | m + 1, h => by
    have ih := play_tmp (S := S) (S' := S') (t := t) m (fun j hj => h j (by omega))
    have hm := h m (by omega)
    simp only [play]
    cases h1 : S m <;> cases h2 : S' m <;> simp only [cond_true, cond_false]
    · exact ih
    · rw [h1, h2] at hm
      simp only [act1]
      rw [setTmp_ne (hm (by simp))]; exact ih
    · rw [h1, h2] at hm
      simp only [act1]
      rw [setTmp_ne (hm (by simp))]; exact ih
    · simp only [act1]
      exact setTmp_cong (by rw [(play_len m).1, (play_len m).1]) ih

theorem setMany_cong {bs : List Nat} {M M' src : List B} {x : Nat} (hl : M.length = M'.length) (h : M[x]? = M'[x]?) : (setMany M bs src)[x]? = (setMany M' bs src)[x]? := by
  by_cases hx : x ∈ bs
  · rcases Nat.lt_or_ge x M.length with h1 | h1
    · rw [setMany_in _ _ _ _ hx h1, setMany_in _ _ _ _ hx (hl ▸ h1)]
    · rw [List.getElem?_eq_none (by rw [setMany_length]; exact h1), List.getElem?_eq_none (by rw [setMany_length, ← hl]; exact h1)]
  · rw [setMany_out _ _ _ _ hx, setMany_out _ _ _ _ hx]; exact h

theorem play_mem {S S' : Nat → Bool} {b : Nat} : ∀ m, (∀ j, j < m → S j ≠ S' j → (r j).wr = true → b ∉ (r j).ms) → (play σ r S m).mem[b]? = (play σ r S' m).mem[b]?
  | 0, _ => rfl
  | m + 1, h => by
    have ih := play_mem (S := S) (S' := S') (b := b) m (fun j hj => h j (by omega))
    have hm := h m (by omega)
    have one : ∀ τ : St, (S m ≠ S' m) → (act1 (σ (m + 1)) (r m) τ).mem[b]? = τ.mem[b]? := by
      intro τ hne
      simp only [act1]
      cases hw : (r m).wr with
      | false => rfl
      | true => simp only [cond_true]; exact setMany_out _ _ _ _ (hm hne hw)
    simp only [play]
    cases h1 : S m <;> cases h2 : S' m <;> simp only [cond_true, cond_false]
    · exact ih
    · rw [one _ (by rw [h1, h2]; simp)]; exact ih
    · rw [one _ (by rw [h1, h2]; simp)]; exact ih
    · simp only [act1]
      cases hw : (r m).wr with
      | false => exact ih
      | true => simp only [cond_true]; exact setMany_cong (by rw [(play_len m).2, (play_len m).2]) ih

/-- Two steps that do not meet. -/
structure Far (x y : Rec) : Prop where
  a : ∀ d, x.dst = some d → d ∉ y.looks
  b : ∀ d, y.dst = some d → d ∉ x.looks
  c : ∀ d, x.dst = some d → y.dst ≠ some d
  m : (x.wr = false ∧ y.wr = false) ∨ ∀ e ∈ x.ms, e ∉ y.ms

theorem Far.symm {x y : Rec} (h : Far x y) : Far y x :=
  ⟨h.b, h.a, fun d h1 h2 => h.c d h2 h1, h.m.imp And.symm (fun hh e h1 h2 => hh e h2 h1)⟩

theorem memb_iff {x : Nat} : ∀ {l : List Nat}, memb x l = true ↔ x ∈ l
  | [] => by simp [memb]
  | y :: l => by
    simp only [memb, List.mem_cons, ← memb_iff (l := l)]
    cases h : Nat.beq x y with
    | true => rw [Nat.beq_eq] at h; simp [h]
    | false =>
      simp only [cond_false]
      refine ⟨.inr, fun hh => hh.resolve_left fun e => ?_⟩
      rw [e, Nat.beq_refl] at h; cases h

theorem disj_ok : ∀ {xs ys : List Nat}, disj xs ys = true → ∀ e ∈ xs, e ∉ ys
  | [], _, _, e, he => by cases he
  | x :: xs, ys, h, e, he => by
    simp only [disj, Bool.and_eq_true, Bool.not_eq_true'] at h
    rcases List.mem_cons.1 he with rfl | he
    · intro hy
      rw [memb_iff.2 hy] at h
      cases h.1
    · exact disj_ok h.2 e he

theorem indep_ok {x y : Rec} (h : indep x y = true) : Far x y := by
  simp only [indep, Bool.and_eq_true, Bool.or_eq_true, Bool.not_eq_true'] at h
  obtain ⟨⟨⟨h1, h2⟩, h3⟩, h4⟩ := h
  refine ⟨fun d hd hm => ?_, fun d hd hm => ?_, fun d hd he => ?_, h4.imp id disj_ok⟩
  · rw [hd] at h1; simp only [dstIn] at h1; rw [memb_iff.2 hm] at h1; cases h1
  · rw [hd] at h2; simp only [dstIn] at h2; rw [memb_iff.2 hm] at h2; cases h2
  · rw [hd, he] at h3; simp only [dstEq] at h3; rw [Nat.beq_refl] at h3; cases h3

theorem act1_comm {x y τ : St} {p q : Rec} (h : Far p q) : act1 x p (act1 y q τ) = act1 y q (act1 x p τ) := by
  simp only [act1, St.mk.injEq]
  refine ⟨?_, ?_⟩
  · cases hp : p.dst with
    | none => rfl
    | some d =>
      cases hq : q.dst with
      | none => rfl
      | some e =>
        simp only [setTmp]
        exact List.set_comm _ _ (fun e' => h.c d hp (by rw [hq, e']))
  · cases hp : p.wr with
    | false => cases hq : q.wr <;> rfl
    | true =>
      cases hq : q.wr with
      | false => rfl
      | true =>
        simp only [cond_true]
        rcases h.m with hm | hm
        · rw [hp] at hm; cases hm.1
        · exact (setMany_comm hm).symm

theorem beq_ne {x y : Nat} (h : x ≠ y) : Nat.beq x y = false := by
  cases hb : Nat.beq x y with
  | true => rw [Nat.beq_eq] at hb; exact absurd hb h
  | false => rfl

theorem play_below {S S' : Nat → Bool} : ∀ m, (∀ j, j < m → S j = S' j) → play σ r S m = play σ r S' m
  | 0, _ => rfl
  | m + 1, h => by simp only [play, h m (by omega), play_below m (fun j hj => h j (by omega))]

def adds (S : Nat → Bool) (i : Nat) : Nat → Bool := fun j => S j || Nat.beq j i

theorem play_add {S : Nat → Bool} {i : Nat} (hi : S i = false) : ∀ m, (∀ j, i < j → j < i + 1 + m → S j = true → Far (r i) (r j)) → play σ r (adds S i) (i + 1 + m) = act1 (σ (i + 1)) (r i) (play σ r S (i + 1 + m))
  | 0, _ => by
    have h1 : play σ r (adds S i) i = play σ r S i := play_below i fun j hj => by
      have : Nat.beq j i = false := beq_ne (by omega)
      simp only [adds, this, Bool.or_false]
    simp only [Nat.add_zero, play, h1, hi, adds, Nat.beq_refl, Bool.or_true, cond_true, cond_false]
  | m + 1, h => by
    have ih := play_add hi m (fun j h1 h2 => h j h1 (by omega))
    rw [show i + 1 + (m + 1) = i + 1 + m + 1 by omega]
    have hb : Nat.beq (i + 1 + m) i = false := beq_ne (by omega)
    have e : adds S i (i + 1 + m) = S (i + 1 + m) := by simp only [adds, hb, Bool.or_false]
    simp only [play, e, ih]
    cases hS : S (i + 1 + m) with
    | false => rfl
    | true => simp only [cond_true]; exact (act1_comm (h _ (by omega) (by omega) hS)).symm

/-- A set that holds whatever its members wait for. -/
def Shut (ops : Array Oper) (S : Nat → Bool) : Prop := ∀ j o, S j = true → ops[j]? = some o → ∀ e ∈ o.after.toList, Region.binds .any e = true → S e.on = true

theorem befOf_ok {acc : List Nat} : ∀ {es : List Edge} {i : Nat}, (befOf acc es).testBit i = true → ∃ e ∈ es, Region.binds .any e = true ∧ (i = e.on ∨ ∃ b, acc[e.on]? = some b ∧ b.testBit i = true)
  | [], i, h => by simp [befOf] at h
  | e :: es, i, h => by
    simp only [befOf] at h
    cases hb : Region.binds .any e with
    | false =>
      rw [hb] at h
      obtain ⟨e', h1, h2⟩ := befOf_ok h
      exact ⟨e', List.mem_cons_of_mem _ h1, h2⟩
    | true =>
      rw [hb] at h
      simp only [cond_true, Nat.testBit_or, Bool.or_eq_true] at h
      rcases h with (h | h) | h
      · refine ⟨e, by simp, hb, .inl ?_⟩
        rw [Nat.testBit_two_pow] at h
        simpa using (of_decide_eq_true h).symm
      · refine ⟨e, by simp, hb, .inr ?_⟩
        simp only [List.getD] at h
        cases ha : acc[e.on]? with
        | none => rw [ha] at h; simp at h
        | some b => rw [ha] at h; exact ⟨b, rfl, h⟩
      · obtain ⟨e', h1, h2⟩ := befOf_ok h
        exact ⟨e', List.mem_cons_of_mem _ h1, h2⟩

theorem befs_ok {ops : Array Oper} {S : Nat → Bool} (hS : Shut ops S) : ∀ (os : List Oper) (acc : List Nat), (∀ (j : Nat) (b : Nat), acc[j]? = some b → S j = true → ∀ i, b.testBit i = true → S i = true) → ops.toList.drop acc.length = os →
    ∀ (j : Nat) (b : Nat), (befs os acc)[j]? = some b → S j = true → ∀ i, b.testBit i = true → S i = true
  | [], acc, h, _ => h
  | o :: os, acc, h, hd => by
    simp only [befs]
    have hi : ops[acc.length]? = some o := by
      have h0 : (ops.toList.drop acc.length)[0]? = some o := by rw [hd]; rfl
      rw [List.getElem?_drop] at h0
      simpa using h0
    refine befs_ok hS os _ ?_ (by rw [List.length_append, List.length_singleton, ← List.drop_drop, hd]; rfl)
    intro j b hj hs i hb
    rw [List.getElem?_append] at hj
    split at hj
    · exact h j b hj hs i hb
    · rename_i hl
      have hj0 : j = acc.length := by
        have := lt_of_getElem? hj
        simp at this
        omega
      subst hj0
      simp only [Nat.sub_self, List.getElem?_cons_zero, Option.some.injEq] at hj
      subst hj
      obtain ⟨e, h1, h2, h3⟩ := befOf_ok hb
      have he := hS _ _ hs hi e h1 h2
      rcases h3 with rfl | ⟨b, h3, h4⟩
      · exact he
      · exact h _ b h3 he i h4

theorem checkOne_ok {bef : Nat} {s : Rec} : ∀ {rs : List Rec} {i : Nat}, checkOne bef s i rs = true → ∀ (j : Nat) (x : Rec), rs[j]? = some x → bef.testBit (i + j) = true ∨ Far x s
  | [], i, _, j, x, hj => by simp at hj
  | y :: rs, i, h, j, x, hj => by
    simp only [checkOne, Bool.and_eq_true, Bool.or_eq_true] at h
    cases j with
    | zero =>
      simp only [List.getElem?_cons_zero, Option.some.injEq] at hj
      subst hj
      exact h.1.imp id indep_ok
    | succ j =>
      simp only [List.getElem?_cons_succ] at hj
      have := checkOne_ok h.2 j x hj
      rwa [show i + 1 + j = i + (j + 1) by omega] at this

theorem checkAll_ok : ∀ {rs done : List Rec} {bs : List Nat}, checkAll bs done rs = true → ∀ (j : Nat) (s : Rec), rs[j]? = some s → ∃ b, bs[j]? = some b ∧ ∀ (i : Nat) (x : Rec), (done ++ rs)[i]? = some x → i < done.length + j → b.testBit i = true ∨ Far x s
  | [], done, bs, _, j, s, hj => by simp at hj
  | y :: rs, done, [], h, _, _, _ => by cases h
  | y :: rs, done, b :: bs, h, j, s, hj => by
    simp only [checkAll, Bool.and_eq_true] at h
    cases j with
    | zero =>
      simp only [List.getElem?_cons_zero, Option.some.injEq] at hj
      subst hj
      refine ⟨b, rfl, fun i x hx hi => ?_⟩
      rw [List.getElem?_append_left (by omega)] at hx
      have := checkOne_ok h.1 i x hx
      rwa [Nat.zero_add] at this
    | succ j =>
      simp only [List.getElem?_cons_succ] at hj
      obtain ⟨b', h1, h2⟩ := checkAll_ok h.2 j s hj
      refine ⟨b', h1, fun i x hx hi => h2 i x ?_ ?_⟩
      · rw [List.append_assoc]; exact hx
      · simp only [List.length_append, List.length_singleton]; omega

theorem edgesOk_ok : ∀ {os : List Oper} {i : Nat}, edgesOk i os = true → ∀ (j : Nat) (o : Oper), os[j]? = some o → ∀ e ∈ o.after.toList, Region.binds .any e = true → e.on < i + j
  | [], _, _, j, o, hj => by simp at hj
  | y :: os, i, h, j, o, hj => by
    simp only [edgesOk, Bool.and_eq_true] at h
    cases j with
    | zero =>
      simp only [List.getElem?_cons_zero, Option.some.injEq] at hj
      subst hj
      intro e he hb
      have := List.all_eq_true.1 h.1 e he
      rw [hb] at this
      simpa using this
    | succ j =>
      simp only [List.getElem?_cons_succ] at hj
      intro e he hb
      have := edgesOk_ok h.2 j o hj e he hb
      omega

/-- What a step writes. -/
theorem stepD_ms {ops : Array Oper} {slot : Nat} {o : Oper} {st st' : St} {x : Rec} (h : stepD P G ops slot o st = some (true, st', x)) : ∀ b ∈ x.ms, b < slot + stride := by
  have hex : ∀ st', exD P G ops slot o st = some (true, st', x) → ∀ b ∈ x.ms, b < slot + stride := by
    intro st' h
    unfold exD at h
    split at h
    case h_2 => cases h
    rename_i ok v m al hc
    cases hb : sameKeys m (foot o.op (opnd st.tmps)) && Nat.ble al.length stride && (foot o.op (opnd st.tmps)).all (fun b => Nat.blt b slot) with
    | false => rw [hb] at h; cases h
    | true =>
      rw [hb] at h
      simp only [cond_true, Option.some.injEq, Prod.mk.injEq] at h
      obtain ⟨_, _, rfl⟩ := h
      simp only [Bool.and_eq_true, Nat.ble_eq] at hb
      intro b hb'
      rcases List.mem_append.1 hb' with h | h
      · have := List.all_eq_true.1 hb.2 b h
        rw [Nat.blt_eq] at this
        omega
      · rw [slotsOf_mem] at h
        omega
  have hsk : ∀ st', some (true, skipO o st, skipRec ops o) = some (true, st', x) → ∀ b ∈ x.ms, b < slot + stride := by
    intro st' h
    simp only [Option.some.injEq, Prod.mk.injEq, true_and] at h
    obtain ⟨_, rfl⟩ := h
    intro b hb; cases hb
  unfold stepD at h
  split at h
  · exact hex _ h
  · exact hsk _ h
  · rename_i d b want _
    cases hbw : b == want with
    | true => rw [hbw] at h; exact hex _ h
    | false => rw [hbw] at h; exact hsk _ h
  · cases h

section
variable {k : Nat} {I0 : Addr → Prop} {ρ0 : List (Option Nat)} {M0 : List B} {w0 w : World}

theorem exD_ok (hG : GOK P G) {ops : Array Oper} {slot : Nat} {o : Oper} {st st' : St} {x : Rec} {a : Act} (h : exD P G ops slot o st = some (true, st', x)) (hs : Sim k I0 ρ0 M0 w0 st a w) (hk : k ≤ st.mem.length)
    (hgone : ∀ b ∈ x.ms, x.wr = true → slot ≤ b → st.mem[b]? = some .gone)
    (next : Act → World → Prop) (Q : Exit → Act → World → Prop) (hn : ∀ a' w', Sim k I0 ρ0 M0 w0 st' a' w' → next a' w') : o.wp P a w next Q := by
  obtain ⟨⟨I, ρ, hS, hT, hE⟩, hd⟩ := hs
  unfold exD at h
  split at h
  case h_2 => cases h
  rename_i ok v m al hc
  cases hb : sameKeys m (foot o.op (opnd st.tmps)) && Nat.ble al.length stride && (foot o.op (opnd st.tmps)).all (fun b => Nat.blt b slot) with
  | false => rw [hb] at h; cases h
  | true =>
    rw [hb] at h
    simp only [cond_true, Option.some.injEq, Prod.mk.injEq] at h
    obtain ⟨rfl, rfl, rfl⟩ := h
    refine coreT_ok (k := st.mem.length) hG hS hT hc rfl (fun j hj => ?_) next Q ?_
    · simp only at hj
      have hw : isWr o.op = true := by
        cases hw : isWr o.op with
        | true => rfl
        | false =>
          have := (coreT_still hw hc).2
          simp only at this
          subst this
          cases hj
      exact hgone _ (List.mem_append_right _ (slotsOf_mem.2 ⟨by omega, by omega⟩)) hw (by omega)
    · intro w' I' ρ' u s1 s2 s3
      exact hn _ _ (Sim.next hd hk hT hE s1 s2 s3 rfl)

theorem stepD_ok (hG : GOK P G) {ops : Array Oper} {slot i : Nat} {o : Oper} {st st' : St} {x : Rec} {a : Act} (hi : ops[i]? = some o) (h : stepD P G ops slot o st = some (true, st', x)) (hs : Sim k I0 ρ0 M0 w0 st a w) (hk : k ≤ st.mem.length)
    (hgone : ∀ b ∈ x.ms, x.wr = true → slot ≤ b → st.mem[b]? = some .gone)
    (K : Act → World → Prop) (Q : Exit → Act → World → Prop) (hn : ∀ a' w', Sim k I0 ρ0 M0 w0 st' a' w' → K a' w') : wpOp P ops Q i K a w := by
  unfold wpOp
  rw [hi]
  simp only
  obtain ⟨I, ρ, hS, hT, hE⟩ := hs.ex
  have hg := gd_ok (ops := ops) (o := o) hT
  unfold stepD at h
  split at h
  · rename_i he
    rw [he] at hg
    rw [hg]
    simp only [if_true]
    exact .inl (exD_ok hG h hs hk hgone K Q hn)
  · rename_i he
    rw [he] at hg
    rw [hg]
    simp only [Bool.false_eq_true, if_false]
    simp only [Option.some.injEq, Prod.mk.injEq, true_and] at h
    obtain ⟨rfl, _⟩ := h
    exact hn _ _ hs.skip
  · rename_i d b want he
    rw [he] at hg
    obtain ⟨h1, _⟩ := hg
    rw [h1]
    cases hbw : b == want with
    | true =>
      rw [hbw] at h
      exact .inl (exD_ok hG h hs hk hgone K Q hn)
    | false =>
      rw [hbw] at h
      simp only [cond_false, Option.some.injEq, Prod.mk.injEq, true_and] at h
      obtain ⟨rfl, _⟩ := h
      exact hn _ _ hs.skip
  · cases h

theorem Sim.start {st : St} {a : Act} (n : Nat) (hs : Sim k I0 ρ0 M0 w0 st a w) (hk : k ≤ st.mem.length) : Sim k I0 ρ0 M0 w0 ⟨st.tmps, st.mem ++ List.replicate n .gone⟩ a w := by
  obtain ⟨⟨I, ρ, hS, hT, hE⟩, hd⟩ := hs
  obtain ⟨hS1, hE1⟩ := goneExt n hS
  exact ⟨⟨I, ρ ++ List.replicate n none, hS1, F2.mono (fun _ _ h => VR.step (hE1 _) h) hT, hE.trans (hE1 _)⟩, hd⟩

theorem Sim.drew {st : St} {a : Act} {n : Nat} (hs : Sim k I0 ρ0 M0 w0 st a w) : Sim k I0 ρ0 M0 w0 st a { w with drawn := n } := by
  obtain ⟨⟨I, ρ, hS, hT, hE⟩, hd⟩ := hs
  have hcr : ∀ c v, CR w I ρ st.mem c v → CR { w with drawn := n } I ρ st.mem c v := fun c v =>
    CR.step (w := w) (w' := { w with drawn := n }) (fun _ h => h) (fun _ _ => rfl) (fun b cs rb h1 h2 => ⟨⟨cs, h1⟩, h2⟩) (fun r m e h => ⟨m, e, h, Nat.le_refl _, fun _ rb arr T h1 h2 => ⟨h1, arr, h2, rfl⟩⟩)
  have hE1 : ∀ j, Ext j I ρ st.mem w I ρ st.mem { w with drawn := n } := fun j => ⟨rfl, rfl, rfl, Nat.le_refl _, fun _ h => h, fun _ _ => rfl, fun _ _ _ => rfl, fun _ h => .inl h, fun r b h => .inr ⟨r, h⟩, fun c v _ => hcr c v⟩
  refine ⟨⟨I, ρ, ⟨hS.len, fun r cs h => ?_, hS.tick, hS.gone, hS.inj, hS.imm, hS.glob.step (fun _ h => h) (fun _ _ => rfl) (fun b arr T f h => ⟨arr, h, rfl⟩)⟩, F2.mono (fun _ _ h => VR.step (hE1 _) h) hT, hE.trans (hE1 _)⟩, hd⟩
  obtain ⟨rb, arr, T, h1, h2, h3, h4⟩ := hS.var r cs h
  exact ⟨rb, arr, T, h1, h2, F2.mono hcr h3, h4⟩

theorem count_set : ∀ {l : List Bool} {i : Nat}, l[i]? = some false → (l.set i true).count false + 1 = l.count false
  | [], i, h => by simp at h
  | x :: l, 0, h => by
    simp only [List.getElem?_cons_zero, Option.some.injEq] at h
    subst h
    simp [List.count_cons]
  | x :: l, i + 1, h => by
    simp only [List.getElem?_cons_succ] at h
    have := count_set h
    simp only [List.set_cons_succ, List.count_cons]
    omega

theorem trimTail_eq : ∀ bs : List B, ∃ j, bs = trimTail bs ++ List.replicate j .gone
  | [] => ⟨0, rfl⟩
  | b :: bs => by
    obtain ⟨j, h⟩ := trimTail_eq bs
    simp only [trimTail]
    cases ht : trimTail bs with
    | nil =>
      rw [ht] at h
      cases b with
      | gone => exact ⟨j + 1, by rw [h]; rfl⟩
      | var cs => exact ⟨j, by rw [h]; rfl⟩
      | tick n e => exact ⟨j, by rw [h]; rfl⟩
    | cons c cs => rw [ht] at h; exact ⟨j, by rw [h]; rfl⟩

theorem Sim.ungone {ts : List V} {M : List B} {j : Nat} {a : Act} (hs : Sim k I0 ρ0 M0 w0 ⟨ts, M ++ List.replicate j .gone⟩ a w) : Sim k I0 ρ0 M0 w0 ⟨ts, M⟩ a w := by
  obtain ⟨⟨I, ρ, hS, hT, hE⟩, hd⟩ := hs
  simp only at hS hT hE
  have hM : ∀ {r : Nat} {b : B}, M[r]? = some b → (M ++ List.replicate j .gone)[r]? = some b := fun h => by rw [List.getElem?_append_left (lt_of_getElem? h)]; exact h
  have hM' : ∀ {r : Nat} {b : B}, (M ++ List.replicate j .gone)[r]? = some b → b ≠ .gone → M[r]? = some b := by
    intro r b h hb
    rw [List.getElem?_append] at h
    split at h
    · exact h
    · rw [List.getElem?_replicate] at h
      split at h
      · simp at h; exact absurd h.symm hb
      · cases h
  have hρ : ∀ {r : Nat} {b : Option Nat}, r < M.length → ρ[r]? = some b → (ρ.take M.length)[r]? = some b := fun hr h => by rw [List.getElem?_take_of_lt hr]; exact h
  have hρ' : ∀ {r : Nat} {b : Option Nat}, (ρ.take M.length)[r]? = some b → ρ[r]? = some b ∧ r < M.length := by
    intro r b h
    rw [List.getElem?_take] at h
    split at h
    · exact ⟨h, by assumption⟩
    · cases h
  have hcr : ∀ c v, CR w I ρ (M ++ List.replicate j .gone) c v → CR w I (ρ.take M.length) M c v := fun c v =>
    CR.step (fun _ h => h) (fun _ _ => rfl)
      (fun b cs rb h1 h2 => by
        have h3 := hM' h1 (fun e => by cases e)
        exact ⟨⟨cs, h3⟩, hρ (lt_of_getElem? h3) h2⟩)
      (fun r m e h => by
        have h3 := hM' h (fun e => by cases e)
        exact ⟨m, e, h3, Nat.le_refl _, fun _ rb arr T h1 h2 => ⟨hρ (lt_of_getElem? h3) h1, arr, h2, rfl⟩⟩)
  have hlen : M.length ≤ ρ.length := by rw [hS.len]; simp
  have hE1 : Ext k I ρ (M ++ List.replicate j .gone) w I (ρ.take M.length) M w := ⟨rfl, rfl, rfl, Nat.le_refl _, fun _ h => h, fun _ _ => rfl, fun _ _ _ => rfl, fun _ h => .inl h, fun r b h => .inr ⟨r, (hρ' h).1⟩, fun c v _ h => hcr c v h⟩
  have hur : ∀ u v, UR w I ρ (M ++ List.replicate j .gone) u v → UR w I (ρ.take M.length) M u v := by
    intro u v hu
    cases u with
    | one c => exact hcr c v hu
    | agg cs => obtain ⟨arr, h1, h2⟩ := hu; exact ⟨arr, h1, F2.mono hcr h2⟩
  have hvr : ∀ x v, VR w I ρ (M ++ List.replicate j .gone) x v → VR w I (ρ.take M.length) M x v := by
    intro x v hx
    cases x with
    | w u => exact hur u v hx
    | tup us => obtain ⟨arr, h1, h2⟩ := hx; exact ⟨arr, h1, F2.mono hur h2⟩
    | any => trivial
  refine ⟨⟨I, ρ.take M.length, ⟨by simp only [List.length_take]; omega, fun r cs h => ?_, fun r n' e rb h1 h2 => hS.tick r n' e rb (hM h1) (hρ' h2).1, fun r h => hρ (lt_of_getElem? h) (hS.gone r (hM h)), fun r r' rb h1 h2 => hS.inj r r' rb (hρ' h1).1 (hρ' h2).1, hS.imm, hS.glob⟩, F2.mono hvr hT, hE.trans hE1⟩, hd⟩
  obtain ⟨rb, arr, T, h1, h2, h3, h4⟩ := hS.var r cs (hM h)
  exact ⟨rb, arr, T, hρ (lt_of_getElem? h) h1, h2, F2.mono hcr h3, h4⟩

theorem Sim.trim {st : St} {a : Act} {n : Nat} (hs : Sim k I0 ρ0 M0 w0 st a w) (hn : n ≤ st.mem.length) : Sim k I0 ρ0 M0 w0 (trimD n st) a w ∧ n ≤ (trimD n st).mem.length := by
  obtain ⟨ts, M⟩ := st
  obtain ⟨j, h⟩ := trimTail_eq (M.drop n)
  have e : M = (M.take n ++ trimTail (M.drop n)) ++ List.replicate j .gone := by
    rw [List.append_assoc, ← h, List.take_append_drop]
  refine ⟨?_, ?_⟩
  · refine Sim.ungone (j := j) ?_
    rw [← e]
    exact hs
  · simp only at hn
    simp only [trimD, List.length_append, List.length_take]
    omega

theorem regD_ok (hG : GOK P G) : RegDOK P G := by
  intro id ops st st' h k I0 ρ0 M0 w0 n a w hs hk hn
  unfold regD at h
  split at h
  case h_2 => cases h
  rename_i st1 rs hgo
  cases hdr : drawOk P ops rs with
  | false => rw [hdr] at h; cases h
  | true =>
  rw [hdr] at h
  simp only [cond_true, Option.some.injEq] at h
  subst h
  refine wp_mono (P := P) (Q := Ends k I0 ρ0 M0 w0 .norm st1 st.mem.length) ?_ (fun e a' w' ⟨h1, h2, h3⟩ => ⟨h1, (h2.trim h3).1, Nat.le_trans hn (h2.trim h3).2⟩)
  obtain ⟨n, hn, hne⟩ : ∃ m, m ≤ st.mem.length ∧ st.mem.length = m := ⟨_, Nat.le_refl _, rfl⟩
  rw [hne]
  clear hne
  simp only [drawOk, Bool.and_eq_true] at hdr
  obtain ⟨⟨hmix, hedge⟩, hchk⟩ := hdr
  obtain ⟨σ, r, e0, estep, ers, elast⟩ := goD_tr _ _ _ _ _ _ hgo
  simp only [List.nil_append] at ers
  have hN : ops.toList.length = ops.size := by simp
  rw [hN] at elast ers
  have hop : ∀ j, j < ops.size → ∃ o, ops[j]? = some o ∧ stepD P G ops (st.mem.length + j * stride) o (σ j) = some (true, σ (j + 1), r j) := by
    intro j hj
    refine ⟨ops[j], by simp [hj], ?_⟩
    have := estep j ops[j] (by simp [hj])
    rwa [Nat.zero_add] at this
  have hact : ∀ j, j < ops.size → σ (j + 1) = act1 (σ (j + 1)) (r j) (σ j) := by
    intro j hj
    obtain ⟨o, ho, h1⟩ := hop j hj
    obtain ⟨_, _, τ', h2, h3⟩ := stepD_local h1 (τ := σ j) (fun _ _ => rfl) (fun _ _ => rfl) rfl rfl
    rw [h1] at h2
    simp only [Option.some.injEq, Prod.mk.injEq, true_and, and_true] at h2
    rw [← h2] at h3
    exact h3.eq
  have hfull : ∀ S : Nat → Bool, ∀ m, m ≤ ops.size → (∀ j, j < m → S j = true) → play σ r S m = σ m := by
    intro S m
    induction m with
    | zero => intro _ _; rfl
    | succ m ih =>
      intro hm hS
      simp only [play, hS m (by omega), cond_true]
      rw [ih (by omega) (fun j hj => hS j (by omega))]
      exact (hact m (by omega)).symm
  have hlen : ∀ m, m ≤ ops.size → (σ m).tmps.length = (σ 0).tmps.length ∧ (σ m).mem.length = (σ 0).mem.length := by
    intro m hm
    rw [← hfull (fun _ => true) m hm (fun _ _ => rfl)]
    exact play_len m
  have hfar : ∀ i j, i < j → j < ops.size → ∀ S, Shut ops S → S j = true → S i = false → Far (r i) (r j) := by
    intro i j hij hj S hS h1 h2
    have hrj : rs[j]? = some (r j) := by rw [ers]; simp [hj]
    have hri : rs[i]? = some (r i) := by rw [ers]; simp [show i < ops.size by omega]
    obtain ⟨b, hb1, hb2⟩ := checkAll_ok hchk j (r j) hrj
    rcases hb2 i (r i) (by simpa using hri) (by simpa using hij) with hb | hb
    · have := befs_ok hS ops.toList [] (fun j b hj => by simp at hj) rfl j b hb1 h1 i hb
      rw [this] at h2; cases h2
    · exact hb
  -- the induction over what is left
  have main : ∀ (fuel : Nat) (listed : Array Bool), listed.size = ops.size → listed.toList.count false ≤ fuel → Shut ops (fun j => listed.getD j false) → ∀ (a : Act) (w : World), Sim k I0 ρ0 M0 w0 (play σ r (fun j => listed.getD j false) ops.size) a w →
      wpAny P .any ops (Ends k I0 ρ0 M0 w0 .norm st1 n) fuel listed a w := by
    intro fuel
    have hdone : ∀ (listed : Array Bool), listed.size = ops.size → Region.ready .any ops listed = [] → ∀ (a : Act) (w : World), Sim k I0 ρ0 M0 w0 (play σ r (fun j => listed.getD j false) ops.size) a w → Ends k I0 ρ0 M0 w0 .norm st1 n .normal a w := by
      intro listed hsz hr a w hs
      have hall : ∀ j, j < ops.size → listed.getD j false = true := by
        intro j
        induction j using Nat.strongRecOn with
        | _ j ih =>
          intro hj
          cases hl : listed.getD j false with
          | true => rfl
          | false =>
            exfalso
            have hmem : j ∈ Region.ready .any ops listed := by
              unfold Region.ready
              rw [List.mem_filter]
              refine ⟨List.mem_range.2 hj, ?_⟩
              have h1 : listed.getD j true = false := by
                simp only [Array.getD, hsz, hj, dif_pos] at hl ⊢
                exact hl
              rw [h1]
              have h2 : ops[j]? = some ops[j] := by simp [hj]
              rw [h2]
              simp only [Bool.not_false, Bool.true_and, Option.map_some, Option.getD_some]
              rw [Array.all_eq_true']
              intro e he
              cases hb : Region.binds .any e with
              | false => rfl
              | true =>
                simp only [Bool.not_true, Bool.false_or]
                have := edgesOk_ok hedge j ops[j] (by simp [hj]) e (by simpa using he) hb
                exact ih e.on (by omega) (by omega)
            rw [hr] at hmem
            cases hmem
      rw [hfull _ _ (Nat.le_refl _) hall, elast] at hs
      refine ⟨rfl, hs, ?_⟩
      have := (hlen ops.size (Nat.le_refl _)).2
      rw [elast, e0] at this
      simp only [startD, List.length_append] at this
      omega
    induction fuel with
    | zero =>
      intro listed hsz hcnt hshut a w hs
      have hr : Region.ready .any ops listed = [] := by
        rw [List.eq_nil_iff_forall_not_mem]
        intro i hi
        unfold Region.ready at hi
        rw [List.mem_filter] at hi
        obtain ⟨h1, h2⟩ := hi
        rw [List.mem_range] at h1
        simp only [Bool.and_eq_true, Bool.not_eq_true'] at h2
        have h3 : listed.toList.count false = 0 := by omega
        rw [List.count_eq_zero] at h3
        refine h3 ?_
        have h4 := h2.1
        simp only [Array.getD, hsz, h1, dif_pos] at h4
        rw [← h4]
        exact Array.mem_toList_iff.2 (Array.getElem_mem _)
      exact ⟨hr, hdone listed hsz hr a w hs⟩
    | succ fuel ih =>
      intro listed hsz hcnt hshut a w hs
      refine ⟨fun hr => hdone listed hsz hr a w hs, fun i hi => ?_⟩
      unfold Region.ready at hi
      rw [List.mem_filter] at hi
      obtain ⟨hin, hi2⟩ := hi
      rw [List.mem_range] at hin
      simp only [Bool.and_eq_true, Bool.not_eq_true'] at hi2
      obtain ⟨o, ho, hstep⟩ := hop i hin
      rw [ho] at hi2
      simp only [Option.map_some, Option.getD_some] at hi2
      obtain ⟨hli, hedges⟩ := hi2
      have hli' : listed.getD i false = false := by
        simp only [Array.getD, hsz, hin, dif_pos] at hli ⊢
        exact hli
      generalize hSd : (fun j => listed.getD j false) = S at *
      have hSi : S i = false := by rw [← hSd]; exact hli'
      have hS' : (fun j => (listed.setIfInBounds i true).getD j false) = adds S i := by
        funext j
        simp only [adds, ← hSd, Array.getD_eq_getD_getElem?, Array.getElem?_setIfInBounds]
        by_cases hji : j = i
        · subst hji
          simp [hsz, hin]
        · have hb : Nat.beq j i = false := beq_ne hji
          rw [if_neg (fun e => hji e.symm), hb, Bool.or_false]
      have hready : ∀ e ∈ o.after.toList, Region.binds .any e = true → S e.on = true := by
        intro e he hb
        rw [Array.all_eq_true'] at hedges
        have := hedges e (by simpa using he)
        rw [hb] at this
        rw [← hSd]
        simpa using this
      have hshut' : Shut ops (adds S i) := by
        intro j oj h1 h2 e he hb
        simp only [adds, Bool.or_eq_true, Nat.beq_eq] at h1 ⊢
        rcases h1 with h1 | h1
        · exact .inl (hshut j oj h1 h2 e he hb)
        · subst h1
          rw [ho] at h2
          injection h2 with h2
          subst h2
          exact .inl (hready e he hb)
      have hunord : ∀ j, j < ops.size → j ≠ i → S j ≠ decide (j < i) → Far (r i) (r j) := by
        intro j hj hne hd
        by_cases hji : j < i
        · simp only [hji, decide_true, ne_eq, Bool.not_eq_true] at hd
          exact (hfar j i hji hin (adds S i) hshut' (by simp [adds]) (by
            have hb : Nat.beq j i = false := beq_ne hne
            simp [adds, hd, hb])).symm
        · simp only [hji, decide_false, ne_eq, Bool.not_eq_false] at hd
          exact hfar i j (by omega) hj S hshut hd hSi
      have hpre : play σ r (fun j => decide (j < i)) ops.size = σ i := by
        have h1 : ∀ m, i + m ≤ ops.size → play σ r (fun j => decide (j < i)) (i + m) = σ i := by
          intro m
          induction m with
          | zero => intro hm; exact hfull _ i (by omega) (fun j hj => by simp [hj])
          | succ m ihm =>
            intro hm
            rw [← Nat.add_assoc]
            simp only [play]
            have : decide (i + m < i) = false := by simp
            rw [this]
            exact ihm (by omega)
        have := h1 (ops.size - i) (by omega)
        rwa [show i + (ops.size - i) = ops.size by omega] at this
      have hti : ∀ t ∈ (r i).looks, (play σ r S ops.size).tmps[t]? = (σ i).tmps[t]? := by
        intro t ht
        rw [← hpre]
        refine play_tmp _ fun j hj hne hdst => ?_
        by_cases hji : j = i
        · subst hji
          rw [hSi] at hne
          simp at hne
        · exact (hunord j hj hji hne).b t hdst ht
      have hmi : ∀ b ∈ (r i).ms, (play σ r S ops.size).mem[b]? = (σ i).mem[b]? := by
        intro b hb
        rw [← hpre]
        refine play_mem _ fun j hj hne hw hbj => ?_
        by_cases hji : j = i
        · subst hji
          rw [hSi] at hne
          simp at hne
        · rcases (hunord j hj hji hne).m with hm | hm
          · rw [hw] at hm; cases hm.2
          · exact hm b hb hbj
      obtain ⟨_, _, τ', hτ, hact'⟩ := stepD_local hstep (τ := play σ r S ops.size) hti hmi (by rw [(play_len _).1, (hlen i (by omega)).1]) (by rw [(play_len _).2, (hlen i (by omega)).2])
      have hτe : τ' = play σ r (adds S i) ops.size := by
        rw [hact'.eq]
        have := play_add (σ := σ) (r := r) hSi (ops.size - (i + 1)) (fun j h1 h2 h3 => hunord j (by omega) (by omega) (by rw [h3]; simp; omega))
        rw [show i + 1 + (ops.size - (i + 1)) = ops.size by omega] at this
        exact this.symm
      have hgone : ∀ b ∈ (r i).ms, (r i).wr = true → st.mem.length + i * stride ≤ b → (play σ r S ops.size).mem[b]? = some .gone := by
        intro b hb hw hle
        have h0 : (play σ r (fun _ => false) ops.size) = σ 0 := by
          have : ∀ m, play σ r (fun _ => false) m = σ 0 := by
            intro m
            induction m with
            | zero => rfl
            | succ m ihm => simp only [play, cond_false, ihm]
          exact this _
        rw [play_mem (S' := fun _ => false) _ ?_, h0, e0]
        · have hlt := stepD_ms hstep b hb
          simp only [startD]
          rw [List.getElem?_append_right (by omega), List.getElem?_replicate, if_pos]
          have : i * stride + stride ≤ ops.size * stride := by
            rw [← Nat.succ_mul]; exact Nat.mul_le_mul_right _ hin
          omega
        · intro j hj hne hwj hbj
          have hSj : S j = true := by
            cases hSj : S j with
            | true => rfl
            | false => exact absurd hSj hne
          rcases Nat.lt_trichotomy j i with hji | hji | hji
          · obtain ⟨oj, _, hstepj⟩ := hop j hj
            have hlt := stepD_ms hstepj b hbj
            have : j * stride + stride ≤ i * stride := by
              rw [← Nat.succ_mul]; exact Nat.mul_le_mul_right _ hji
            omega
          · subst hji; rw [hSi] at hSj; cases hSj
          · rcases (hfar i j hji hj S hshut hSj hSi).m with hm | hm
            · rw [hwj] at hm; cases hm.2
            · exact hm b hb hbj
      refine stepD_ok hG ho hτ hs ?_ hgone _ _ ?_
      · rw [(play_len _).2, e0]
        simp only [startD, List.length_append]
        omega
      · intro a' w' hs'
        refine ih (listed.setIfInBounds i true) (by simpa using hsz) ?_ ?_ a' w' ?_
        · have hget : listed.toList[i]? = some false := by
            have hl : i < listed.size := by omega
            simp only [Array.getD, hl, dif_pos] at hli
            simp [hl]
            exact hli
          have := count_set hget
          rw [Array.toList_setIfInBounds]
          omega
        · rw [hS']; exact hshut'
        · rw [hS', ← hτe]; exact hs'
  refine wp_region_any hmix (main ops.size (Array.replicate ops.size false) (by simp) (by simp) ?_ a _ ?_)
  · intro j o h1
    simp [Array.getD] at h1
  · have : (fun j => (Array.replicate ops.size false).getD j false) = fun _ => false := by
      funext j; simp [Array.getD]
    rw [this]
    have h0 : ∀ m, play σ r (fun _ => false) m = σ 0 := by
      intro m
      induction m with
      | zero => rfl
      | succ m ihm => simp only [play, cond_false, ihm]
    rw [h0, e0]
    exact (hs.start _ hk).drew

end
end
end Sh
end Go.Proofs.YtamdjlpobonmiaaDoor
