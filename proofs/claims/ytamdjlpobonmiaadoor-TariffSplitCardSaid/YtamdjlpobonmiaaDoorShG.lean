/- append. -/
import Derived.Test.YtamdjlpobonmiaaDoorShF
namespace Go.Proofs.YtamdjlpobonmiaaDoor
namespace Sh
open Go.RowKit

section
variable {P : Program} {k : Nat} {I I' I'' : Addr → Prop} {ρ ρ' ρ'' : List (Option Nat)} {M M' M'' : List B} {w w' w'' : World}

theorem idx_lt {i j n e : Nat} (hi : i < n) (hj : j < e) : i * e + j < n * e := by
  have : (i + 1) * e ≤ n * e := Nat.mul_le_mul_right e hi
  rw [Nat.add_mul] at this; omega

/-- The cells of a slice that reads. -/
theorem drVals {n e : Nat} {g : Nat → Nat → D} {A : Option Addr} {cap : Nat} (h : DR w I (.slc n e g) (.slice A n cap)) :
    ∃ vs : List Value, vs.length = n * e ∧ (∀ a, A = some a → ∀ (j : Nat) u, vs[j]? = some u → I (a.add j) ∧ w.cell? (a.add j) = some u ∧ u.oneCell' = true) ∧
      (∀ i, i < n → ∀ j, j < e → ∃ u, vs[i * e + j]? = some u ∧ DR w I (g i j) u) ∧ (A = none → n * e = 0) := by
  obtain ⟨A', cap', hv, hc, h⟩ := h
  injection hv with e1 e2 e3
  subst e1; subst e3
  cases A with
  | none =>
    have h0 : n * e = 0 := by
      rcases Nat.eq_zero_or_pos n with h1 | h1
      · rw [h1, Nat.zero_mul]
      · rcases Nat.eq_zero_or_pos e with h2 | h2
        · rw [h2, Nat.mul_zero]
        · obtain ⟨a, u, ha, _⟩ := h 0 h1 0 h2
          cases ha
    refine ⟨[], by simp [h0], (fun a ha => by cases ha), (fun i hi j hj => ?_), fun _ => h0⟩
    have := idx_lt hi hj; omega
  | some a =>
    have hcell : ∀ q, q < n * e → ∃ u, I (a.add q) ∧ w.cell? (a.add q) = some u ∧ u.oneCell' = true := by
      intro q hq
      have he : 0 < e := by
        rcases Nat.eq_zero_or_pos e with h2 | h2
        · rw [h2, Nat.mul_zero] at hq; omega
        · exact h2
      have hq1 : q / e < n := Nat.div_lt_of_lt_mul (by rw [Nat.mul_comm]; exact hq)
      obtain ⟨a', u, ha, hI, hu, hd⟩ := h (q / e) hq1 (q % e) (Nat.mod_lt _ he)
      injection ha with ha; subst ha
      rw [show q / e * e + q % e = q from by rw [Nat.mul_comm]; exact Nat.div_add_mod q e] at hI hu
      exact ⟨u, hI, hu, DR.one hd⟩
    refine ⟨(List.range (n * e)).map fun q => (w.cell? (a.add q)).getD undef, by simp, fun a' ha j u hj => ?_, fun i hi j hj => ?_, fun h => by cases h⟩
    · injection ha with ha; subst ha
      rw [List.getElem?_map] at hj
      have hlt : j < n * e := by
        by_cases hlt : j < n * e
        · exact hlt
        · simp [hlt] at hj
      obtain ⟨u', h1, h2, h3⟩ := hcell j hlt
      simp [hlt, h2] at hj
      subst hj
      exact ⟨h1, h2, h3⟩
    · obtain ⟨a', u, ha, hI, hu, hd⟩ := h i hi j hj
      injection ha with ha; subst ha
      exact ⟨u, by simp [idx_lt hi hj, hu], hd⟩

theorem run_firstCells_gen {size n : Nat} {A : Option Addr} {m c : Nat} {cs : List Value} (hl : cs.length = n * size) (h : ∀ a, A = some a → ∀ (j : Nat) v, cs[j]? = some v → w.cell? (a.add j) = some v) (h0 : A = none → n * size = 0) :
    (Builtin.firstCells size n (.slice A m c)).run P w = .ok cs.toArray w := by
  cases A with
  | none =>
    have : cs = [] := List.eq_nil_of_length_eq_zero (by rw [hl, h0 rfl])
    subst this
    simp [Builtin.firstCells]
  | some a => exact run_firstCells_some w size n a m c cs hl (fun j v hj => h a rfl j v hj)

theorem appLim_ok {n b : Nat} (h : n ≤ appLim b) : n * b ≤ 140737488355328 ∧ n ≤ 140737488355328 := by
  unfold appLim at h
  have h1 : n * (b + 1) ≤ 140737488355328 := Nat.le_trans (Nat.mul_le_mul_right _ h) (Nat.div_mul_le_self _ _)
  rw [Nat.mul_add, Nat.mul_one] at h1
  omega

theorem appGet_lt {n : Nat} {g g' : Nat → Nat → D} {i j : Nat} (h : i < n) : appGet n g g' i j = g i j := by
  have : Nat.blt i n = true := by rw [Nat.blt_eq]; exact h
  simp only [appGet, this, cond_true]
theorem appGet_ge {n : Nat} {g g' : Nat → Nat → D} {i j : Nat} (h : n ≤ i) : appGet n g g' i j = g' (i - n) j := by
  have : Nat.blt i n = false := by rw [Bool.eq_false_iff]; intro h'; rw [Nat.blt_eq] at h'; omega
  simp only [appGet, this, cond_false]

theorem set_self {α : Type} {l : List α} {i : Nat} {x : α} (h : l[i]? = some x) : l.set i x = l := by
  apply List.ext_getElem?
  intro j
  by_cases e : i = j
  · subst e; rw [List.getElem?_set, if_pos rfl, if_pos (lt_of_getElem? h), h]
  · rw [List.getElem?_set_ne e]

theorem core_append {o : Oper} {a : Act} {x y : Operand} {t t' te : TypeId} {args : Array Operand} {argTypes : Array TypeId} {r n n' e : Nat} {g g' : Nat → Nat → D} {i : TypeInfo} {z : List C} (hS : Sat I ρ M w)
    (ho : o.op = .call { callee := .builtin .append, args := args, argTypes := argTypes }) (hargs : args = #[x, y]) (hat : argTypes = #[t, t'])
    (hx : CR w I ρ M (.own r n e g) (a.eval x)) (hy : DR w I (.slc n' e g') (a.eval y)) (ht : P.underlying t = some (.slice te)) (ht' : P.underlying t' = some (.slice te)) (hi : P.info? te = some i) (hz : zeroC P te = some z) (hzl : z.length = e)
    (he : e = i.size) (he0 : 0 < e) (hM : M[r]? = some (.tick n e)) (hlim : n + n' ≤ appLim i.bytes) :
    Leads P o a k I ρ M w (.w (.one (.own r (n + n') e (appGet n g g')))) (M.set r (.tick (n + n') e)) := by
  subst hargs; subst hat
  obtain ⟨hd, m0, e0, hm0, _, hhead⟩ := hx
  rw [hM] at hm0; cases hm0
  obtain ⟨A, cap, hA, hcase⟩ := hhead rfl
  obtain ⟨A', cap', hA', hcap', hd'⟩ := hy
  have hlt := lt_of_getElem? hM
  have hcapn : n ≤ cap := by
    obtain ⟨A1, c1, h1, h2, _⟩ := hd
    rw [hA] at h1; injection h1 with _ _ h3; omega
  rw [hA] at hd
  obtain ⟨olds, ho1, ho2, ho3, ho4⟩ := drVals hd
  obtain ⟨news, hn1, hn2, hn3, hn4⟩ := drVals (A := A') (cap := cap') ⟨A', cap', rfl, hcap', hd'⟩
  obtain ⟨v, hv1, hv2, i', hi', hz'⟩ := zeroC_ok (w := w) (I := I) (ρ := ρ) (M := M) hz
  rw [hi] at hi'; cases hi'
  have hvs : v.cells.size = e := by have := F2.length hv2; simp at this; omega
  obtain ⟨hb1, hb2⟩ := appLim_ok hlim
  have hev : execOp a.eval o = (do let v ← Builtin.append_ #[t, t'] o.type #[a.eval x, a.eval y]; pure (.value v)) := by
    have hmap : Array.map a.eval #[x, y] = #[a.eval x, a.eval y] := by simp
    simp only [execOp, ho, resolve, pure_bind, invoke, builtin, hmap]
  -- where nothing is added
  by_cases hm : n' = 0
  · subst hm
    have hrun : (Builtin.append_ #[t, t'] o.type #[a.eval x, a.eval y]).run P w = .ok (.slice A n cap) w := by
      have hfc : (Builtin.firstCells i.size 0 (.slice A' 0 cap')).run P w = .ok #[] w := by
        have := run_firstCells_gen (P := P) (w := w) (size := i.size) (n := 0) (A := A') (m := 0) (c := cap') (cs := []) (by simp) (fun a _ j v hj => by simp at hj) (fun _ => by simp)
        exact this
      rw [hA, hA']
      cases A with
      | none => simp [Builtin.append_, run_underlying ht, run_underlying ht', sizeOf, run_typeInfo hi, Builtin.lenOf, hcapn, hfc]
      | some b => simp [Builtin.append_, run_underlying ht, run_underlying ht', sizeOf, run_typeInfo hi, Builtin.lenOf, hcapn, hfc, storeCells]
    refine .value (u := .slice A n cap) (w' := w) (I' := I) (ρ' := ρ) (by rw [hev]; simp [hrun]) ?_ ?_ ?_
    · rw [Nat.add_zero, set_self hM]; exact hS
    · rw [Nat.add_zero, set_self hM]
      refine ⟨?_, n, e, hM, Nat.le_refl _, fun _ => ⟨A, cap, rfl, hcase⟩⟩
      obtain ⟨A1, c1, h1, h2, h3⟩ := hd
      injection h1 with h4 _ h5; subst h4; subst h5
      refine ⟨A, cap, rfl, h2, fun q hq j hj => ?_⟩
      rw [appGet_lt hq]; exact h3 q hq j hj
    · rw [Nat.add_zero, set_self hM]; exact .refl
  have hfc : ∀ W : World, W.heap = w.heap → (Builtin.firstCells i.size n' (.slice A' n' cap')).run P W = .ok news.toArray W := fun W hW =>
    run_firstCells_gen (by rw [hn1, he]) (fun b hb j v hj => by simp only [World.cell?, hW]; exact (hn2 b hb j v hj).2.1) (fun h => by rw [← he]; exact hn4 h)
  have hone : ∀ u ∈ news, u.oneCell' = true := by
    intro u hu
    obtain ⟨j, hj⟩ := List.getElem?_of_mem hu
    cases A' with
    | none => have h0 := hn4 rfl; have := lt_of_getElem? hj; omega
    | some b => exact (hn2 b rfl j u hj).2.2
  by_cases hroom : n + n' ≤ cap
  · rcases hcase with ⟨h1, h2, h3⟩ | ⟨rb, arr, T, h1, h2, h3, h4⟩
    · omega
    subst h1
    have hfit : n * e + news.length ≤ arr.size := by rw [hn1, h4, ← Nat.add_mul]; exact Nat.mul_le_mul_right _ hroom
    obtain ⟨w1, arr1, r1, r2, r3, r4, r5, r6, r7, r8⟩ := run_storeCells P rb (n * e) T news arr 0 w h3 (by omega) hone
    have hadd : Addr.add ⟨rb, 0, none⟩ (n * e) = ⟨rb, n * e, none⟩ := by rw [add_lit, Nat.zero_add]
    have hrun : (Builtin.append_ #[t, t'] o.type #[a.eval x, a.eval y]).run P w = .ok (.slice (some ⟨rb, 0, none⟩) (n + n') cap) w1 := by
      rw [hA, hA']
      have hfc' := hfc w rfl
      rw [← he] at hfc'
      simp [Builtin.append_, run_underlying ht, run_underlying ht', sizeOf, run_typeInfo hi, Builtin.lenOf, hroom, ← he, hfc', hadd, r1]
    have hsz1 : arr1.size = arr.size := by
      have : arr1.toList.length = arr.toList.length := by rw [r3, setAt_length _ _ _ (by simp; omega)]
      simpa using this
    have htick := (hS.tick r n e rb hM h2).2
    have hI : ∀ ad, I ad → (fun b : Addr => I b ∨ (b.block = rb ∧ b.spot = none ∧ b.off < (n + n') * e)) ad := fun _ h => .inl h
    have hkp : ∀ ad, I ad → w1.cell? ad = w.cell? ad := fun ad had => by
      by_cases hb : ad.block = rb
      · have hoff := htick ad had hb
        obtain ⟨u, hu⟩ := hS.imm ad had
        obtain ⟨b, off, sp⟩ := ad
        simp only at hb hoff; subst hb
        have hsp : sp = none := by
          simp only [World.cell?, h3] at hu
          cases sp with
          | none => rfl
          | some q => simp at hu
        subst hsp
        rw [cell_of_row w1 b off arr1 T (0, 0) r2, cell_of_row w b off arr T (0, 0) h3]
        rw [← Array.getElem?_toList, r3, setAt_get_lt _ _ _ _ (by omega) (by simp; omega), Array.getElem?_toList]
      · exact cell_other r4 hb
    have hle : (n + n') * e ≤ arr.size := by rw [h4]; exact Nat.mul_le_mul_right _ hroom
    have hor : ∃ m e1 m' e', M[r]? = some (.tick m e1) ∧ B.tick (n + n') e = .tick m' e' ∧ m ≤ m' := ⟨n, e, n + n', e, hM, rfl, by omega⟩
    have hsat := write_sat (X := .tick (n + n') e) (w' := w1) hS hI (fun ad h => h.imp id fun h => ⟨h.1, h.2.1, by omega⟩) h2 h3 r2 hsz1 r4 hkp (.inr ⟨n, e, n + n', e, hM, rfl, by omega, fun ad had hb => by
      rcases had with h | h
      · have := htick ad h hb; rw [Nat.add_mul]; omega
      · exact h.2.2⟩)
    have hext := write_ext (k := k) (X := .tick (n + n') e) (w' := w1) hS hI (fun ad h => h.imp id fun h => h.1) h2 h3 r2 hsz1 r4 hkp (.inr hor) r6 r7 r8 r5
    refine .value (u := .slice (some ⟨rb, 0, none⟩) (n + n') cap) (by rw [hev]; simp [hrun]) hsat ?_ hext
    refine ⟨⟨_, cap, rfl, hroom, fun q hq j hj => ?_⟩, n + n', e, by rw [List.getElem?_set]; simp [hlt], Nat.le_refl _, fun _ => ⟨_, cap, rfl, .inr ⟨rb, arr1, T, rfl, h2, r2, by omega⟩⟩⟩
    have hq1 := idx_lt hq hj
    obtain ⟨val, hval0⟩ : ∃ val, arr1[q * e + j]? = some val := ⟨_, Array.getElem?_eq_getElem (by omega)⟩
    refine ⟨_, val, rfl, .inr (by rw [add_lit, Nat.zero_add]; exact ⟨rfl, rfl, hq1⟩), ?_, ?_⟩
    · rw [add_lit, Nat.zero_add, cell_of_row w1 rb _ arr1 T (0, 0) r2]; exact hval0
    · have hval : arr1.toList[q * e + j]? = some val := by rw [Array.getElem?_toList]; exact hval0
      rw [r3] at hval
      rcases Nat.lt_or_ge q n with hqn | hqn
      · rw [appGet_lt hqn]
        have h5 := idx_lt hqn hj
        rw [setAt_get_lt _ _ _ _ (by omega) (by simp; omega)] at hval
        obtain ⟨u, hu1, hu2⟩ := ho3 q hqn j hj
        have hu3 := (ho2 _ rfl _ _ hu1).2.1
        rw [add_lit, Nat.zero_add, cell_of_row w rb _ arr T (0, 0) h3, ← Array.getElem?_toList, hval] at hu3
        injection hu3 with hu3
        rw [hu3]
        exact hext.dr _ hu2
      · rw [appGet_ge hqn]
        obtain ⟨u, hu1, hu2⟩ := hn3 (q - n) (by omega) j hj
        have hidx : q * e + j = n * e + 0 + ((q - n) * e + j) := by
          have : (q - n) * e = q * e - n * e := Nat.sub_mul _ _ _
          have : n * e ≤ q * e := Nat.mul_le_mul_right _ hqn
          omega
        rw [hidx, setAt_get_in _ _ _ _ (lt_of_getElem? hu1) (by simp; omega), hu1] at hval
        injection hval with hval
        rw [← hval]
        exact hext.dr _ hu2
  · have hgr : cap < n + n' := by omega
    have hge := grownCap_ge w (n + n') cap te
    have h63 : ¬ (9223372036854775807 < ((n : Int) + (n' : Int))) := by omega
    have h48 := growslice_fits hgr hb1
    have h48' : ¬ (281474976710656 < Builtin.nextslicecap (n + n') cap * i.bytes) := by omega
    have hfo : (Builtin.firstCells i.size n (.slice A n cap)).run P w.drew = .ok olds.toArray w.drew :=
      run_firstCells_gen (by rw [ho1, he]) (fun b hb j v hj => (ho2 b hb j v hj).2.1) (fun h => by rw [← he]; exact ho4 h)
    have hf := hfc w.drew rfl
    have hrun : (Builtin.append_ #[t, t'] o.type #[a.eval x, a.eval y]).run P w = .ok (.slice (some ⟨w.heap.size, 0, none⟩) (n + n') (grownCap w (n + n') cap te))
        (w.drew.alloc (.cells (olds.toArray ++ news.toArray ++ Builtin.zeroCells v.cells (grownCap w (n + n') cap te - (n + n'))) te)) := by
      rw [hA, hA']
      simp [Builtin.append_, run_underlying ht, run_underlying ht', sizeOf, zeroValue, run_typeInfo hi, hz', Builtin.lenOf, hroom, h63, h48', Question.forced, hf, hfo, newRow, grownCap]
      congr 2
      apply Array.ext'
      simp [List.append_assoc]
    have hS' : Sat I ρ M w.drew := Sat.heap (w := w) rfl hS
    have hsz : (olds.toArray ++ news.toArray ++ Builtin.zeroCells v.cells (grownCap w (n + n') cap te - (n + n'))).size = grownCap w (n + n') cap te * e := by
      simp only [Array.size_append, List.size_toArray, size_zeroCells, hvs, ho1, hn1, ← Nat.add_mul]
      congr 1
      omega
    obtain ⟨I', s1, s2, s3⟩ := allocRow (k := k) (T := te) (s := r) (n := n + n') (e := e) (cap := grownCap w (n + n') cap te) (g := appGet n g g')
      (arr := olds.toArray ++ news.toArray ++ Builtin.zeroCells v.cells (grownCap w (n + n') cap te - (n + n'))) hS' (.inr ⟨n, e, hM, by omega⟩) he0 hge hsz (fun q hq j hj => by
        rcases Nat.lt_or_ge q n with hqn | hqn
        · obtain ⟨u, hu1, hu2⟩ := ho3 q hqn j hj
          refine ⟨u, ?_, by rw [appGet_lt hqn]; exact DR.mono (w := w) (w' := w.drew) (fun _ h => h) (fun _ _ => rfl) _ hu2⟩
          have := lt_of_getElem? hu1
          rw [Array.getElem?_append_left (by simp; omega), Array.getElem?_append_left (by simpa using this)]
          simpa using hu1
        · obtain ⟨u, hu1, hu2⟩ := hn3 (q - n) (by omega) j hj
          refine ⟨u, ?_, by rw [appGet_ge hqn]; exact DR.mono (w := w) (w' := w.drew) (fun _ h => h) (fun _ _ => rfl) _ hu2⟩
          have hl := lt_of_getElem? hu1
          have hidx : q * e + j = n * e + ((q - n) * e + j) := by
            have : (q - n) * e = q * e - n * e := Nat.sub_mul _ _ _
            have : n * e ≤ q * e := Nat.mul_le_mul_right _ hqn
            omega
          rw [hidx, Array.getElem?_append_left (by simp; omega), Array.getElem?_append_right (by simp [ho1])]
          simp only [List.size_toArray, ho1, Nat.add_sub_cancel_left]
          simpa using hu1)
    exact .value (by rw [hev]; simp only [Sem.run_bind, hrun, Result.andThen_ok, Sem.run_pure]; rfl) s1 s3 (Ext.drew.trans s2)

end
end Sh
end Go.Proofs.YtamdjlpobonmiaaDoor
