/- The operations on memory: loads, stores, literals, addresses. -/
import Derived.Test.YtamdjlpobonmiaaDoorShE
namespace Go.Proofs.YtamdjlpobonmiaaDoor
namespace Sh
open Go.RowKit

section
variable {P : Program} {k : Nat} {I I' I'' : Addr → Prop} {ρ ρ' ρ'' : List (Option Nat)} {M M' M'' : List B} {w w' w'' : World}

theorem look_one {b : Nat} {X : B} (h : look (restrict M [b]) b = some X) (hX : X ≠ .gone) : M[b]? = some X := by
  simp only [restrict, look, Nat.beq_refl, cond_true, Option.some.injEq] at h
  subst h
  by_cases hl : b < M.length
  · simp [List.getD, hl]
  · simp [List.getD, hl] at hX
theorem upd_put_one {b : Nat} {X : B} : upd M (put (restrict M [b]) b X) = M.set b X := by simp [restrict, put, upd]
theorem upd_restrict : ∀ (l : List Nat) (M : List B), upd M (restrict M l) = M := by
  intro l
  induction l with
  | nil => intro M; rfl
  | cons b l ih =>
    intro M
    simp only [restrict, upd]
    have : M.set b (M.getD b .gone) = M := by
      by_cases hl : b < M.length
      · simp [List.getD, hl]
      · rw [List.set_eq_of_length_le (by omega)]
    rw [this, ih]

theorem ptr_cell {b off rb : Nat} {cs : List C} {arr : Array Value} {T : TypeId} (h : w.heap[rb]? = some (.cells arr T (0, 0))) (j : Nat) : w.cell? (Addr.add ⟨rb, off, none⟩ j) = arr[off + j]? := by
  rw [add_lit]; exact cell_of_row w rb (off + j) arr T (0, 0) h

theorem core_load_ptr_agg {o : Oper} {a : Act} {x : Operand} {t : TypeId} {b off : Nat} {cs : List C} (hS : Sat I ρ M w) (ho : o.op = .load t x) (hx : VR w I ρ M (.w (.one (.ptr b off))) (a.eval x)) (hk : kindOf P t = some true)
    (hM : M[b]? = some (.var cs)) (hl : off + P.cellsOf t ≤ cs.length) : Leads P o a k I ρ M w (.w (.agg ((cs.drop off).take (P.cellsOf t)))) M := by
  obtain ⟨rb, cs0, h1, h2, h3⟩ := hx
  obtain ⟨arr, T, h4, h5, _⟩ := heap_of_var hS hM h2
  have hlen := F2.length h5
  have hsz : arr.size = cs.length := by rw [hlen]; simp
  refine .pure hS (u := .agg ((arr.toList.drop off).take (P.cellsOf t)).toArray) ?_ ⟨_, rfl, by simpa using F2.take _ (F2.drop _ h5)⟩
  have hr := run_loadVar_agg (P := P) (w := w) (t := t) (a := ⟨rb, off, none⟩) hk ((arr.toList.drop off).take (P.cellsOf t)) (by simp; omega) (fun j v hv => by
    rw [ptr_cell (b := b) (cs := cs) h4 j]
    rw [List.getElem?_take] at hv
    split at hv
    · simpa using hv
    · cases hv)
  simp only [execOp, ho, h3, Instr.loadAt, Instr.sureAddr, Sem.run_bind, Sem.run_pure, Result.andThen_ok, hr]

theorem core_load_ptr_one {o : Oper} {a : Act} {x : Operand} {t : TypeId} {b off : Nat} {cs : List C} {c : C} (hS : Sat I ρ M w) (ho : o.op = .load t x) (hx : VR w I ρ M (.w (.one (.ptr b off))) (a.eval x)) (hk : kindOf P t = some false)
    (hM : M[b]? = some (.var cs)) (hc : cs[off]? = some c) : Leads P o a k I ρ M w (.w (.one c)) M := by
  obtain ⟨rb, cs0, h1, h2, h3⟩ := hx
  obtain ⟨arr, T, h4, h5, _⟩ := heap_of_var hS hM h2
  obtain ⟨v, hv, hcr⟩ := F2.get h5 hc
  refine .pure hS (u := v) ?_ hcr
  have hr := run_loadVar_one (P := P) (w := w) (t := t) (a := ⟨rb, off, none⟩) (v := v) hk (by rw [cell_of_row w rb off arr T (0, 0) h4]; simpa using hv)
  simp only [execOp, ho, h3, Instr.loadAt, Instr.sureAddr, Sem.run_bind, Sem.run_pure, Result.andThen_ok, hr]

theorem refVals {g : Nat → D} {a : Addr} {sz : Nat} (h : ∀ j, j < sz → ∃ u, I (a.add j) ∧ w.cell? (a.add j) = some u ∧ DR w I (g j) u) : ∀ n, n ≤ sz → ∃ vs : List Value, vs.length = n ∧ (∀ (j : Nat) v, vs[j]? = some v → w.cell? (a.add j) = some v) ∧ F2 (CR w I ρ M) ((List.range n).map fun j => C.d (g j)) vs := by
  intro n
  induction n with
  | zero => intro _; exact ⟨[], rfl, fun j v h => by simp at h, trivial⟩
  | succ n ih =>
    intro hn
    obtain ⟨vs, h1, h2, h3⟩ := ih (by omega)
    obtain ⟨u, _, h5, h6⟩ := h n (by omega)
    refine ⟨vs ++ [u], by simp [h1], fun j v hj => ?_, ?_⟩
    · rw [List.getElem?_append] at hj
      split at hj
      · exact h2 j v hj
      · have : j - vs.length = 0 := by
          have := lt_of_getElem? hj; simp at this; omega
        rw [this] at hj
        simp at hj; subst hj
        rw [show j = n from by omega]; exact h5
    · rw [List.range_succ, List.map_append]
      exact F2.append h3 ⟨h6, trivial⟩

theorem core_load_ref_agg {o : Oper} {a : Act} {x : Operand} {t : TypeId} {sz : Nat} {g : Nat → D} (hS : Sat I ρ M w) (ho : o.op = .load t x) (hx : VR w I ρ M (.w (.one (.ref sz g))) (a.eval x)) (hk : kindOf P t = some true)
    (hl : P.cellsOf t ≤ sz) : Leads P o a k I ρ M w (.w (.agg ((List.range (P.cellsOf t)).map fun j => .d (g j)))) M := by
  obtain ⟨ad, h1, h2⟩ := hx
  obtain ⟨vs, h3, h4, h5⟩ := refVals (ρ := ρ) (M := M) h2 (P.cellsOf t) hl
  refine .pure hS (u := .agg vs.toArray) ?_ ⟨_, rfl, by simpa using h5⟩
  have hr := run_loadVar_agg (P := P) (w := w) (t := t) (a := ad) hk vs h3 h4
  simp only [execOp, ho, h1, Instr.loadAt, Instr.sureAddr, Sem.run_bind, Sem.run_pure, Result.andThen_ok, hr]

theorem core_load_ref_one {o : Oper} {a : Act} {x : Operand} {t : TypeId} {sz : Nat} {g : Nat → D} (hS : Sat I ρ M w) (ho : o.op = .load t x) (hx : VR w I ρ M (.w (.one (.ref sz g))) (a.eval x)) (hk : kindOf P t = some false)
    (hl : 0 < sz) : Leads P o a k I ρ M w (.w (.one (.d (g 0)))) M := by
  obtain ⟨ad, h1, h2⟩ := hx
  obtain ⟨u, _, h4, h5⟩ := h2 0 hl
  have h0 : ad.add 0 = ad := by simp [Addr.add]
  rw [h0] at h4
  refine .pure hS (u := u) ?_ h5
  have hr := run_loadVar_one (P := P) (w := w) (t := t) (a := ad) (v := u) hk h4
  simp only [execOp, ho, h1, Instr.loadAt, Instr.sureAddr, Sem.run_bind, Sem.run_pure, Result.andThen_ok, hr]

theorem F2_one {xs : List C} {ys : List Value} (h : F2 (CR w I ρ M) xs ys) : ∀ v ∈ ys, v.oneCell' = true := by
  intro v hv
  obtain ⟨i, hi⟩ := List.getElem?_of_mem hv
  have hlt := lt_of_getElem? hi
  have hl := F2.length h
  obtain ⟨y, h1, h2⟩ := F2.get h (List.getElem?_eq_getElem (show i < xs.length by omega))
  rw [hi] at h1; cases h1
  exact CR.one h2

theorem core_store {o : Oper} {a : Act} {x y : Operand} {t : TypeId} {b off : Nat} {cs : List C} {u : U} {i : TypeInfo} (hS : Sat I ρ M w) (ho : o.op = .store t x y) (hx : VR w I ρ M (.w (.one (.ptr b off))) (a.eval x)) (hy : UR w I ρ M u (a.eval y))
    (hi : P.info? t = some i) (hM : M[b]? = some (.var cs)) (hs : (ucells u).length = i.size) (hl : off + i.size ≤ cs.length) : Leads P o a k I ρ M w (.tup []) (M.set b (.var (setAt cs off (ucells u)))) := by
  obtain ⟨rb, cs0, h1, h2, h3⟩ := hx
  obtain ⟨arr, T, h4, h5, h6⟩ := heap_of_var hS hM h2
  have hc := UR.cells hy
  have hlen := F2.length h5
  have hlc := F2.length hc
  have hsz : arr.size = cs.length := by rw [hlen]; simp
  have hcs : (a.eval y).cells.toList.length = i.size := by omega
  have hcz : (a.eval y).cells.size = i.size := by simpa using hcs
  obtain ⟨w1, arr1, r1, r2, r3, r4, r5, r6, r7, r8⟩ := run_storeCells P rb off T (a.eval y).cells.toList arr 0 w h4 (by omega) (F2_one hc)
  have hsz1 : arr1.size = arr.size := by
    have : arr1.toList.length = arr.toList.length := by rw [r3, setAt_length _ _ _ (by simp only [Array.length_toList] at hcs ⊢; omega)]
    simpa using this
  have hkp : ∀ ad, I ad → w1.cell? ad = w.cell? ad := fun ad had => cell_other r4 (h6 ad had)
  refine .skip (w' := w1) (I' := I) (ρ' := ρ) ?_ (write_sat hS (fun _ h => h) (fun _ h => .inl h) h2 h4 r2 hsz1 r4 hkp (.inl ⟨cs, _, hM, rfl, ?_, fun _ h => h⟩))
    (write_ext hS (fun _ h => h) (fun _ h => .inl h) h2 h4 r2 hsz1 r4 hkp (.inl ⟨cs, _, hM, rfl⟩) r6 r7 r8 r5)
  · simp only [execOp, ho, h3, Instr.storeAt, Instr.sureAddr, Sem.run_bind, Sem.run_pure, Result.andThen_ok, storeVar, run_sizeOf' hi, hcz, ne_eq, not_true_eq_false, if_false, r1]
  · rw [r3]; exact F2.setAt off h5 hc

theorem core_nilCheck {o : Oper} {a : Act} {x : Operand} {c : C} (hS : Sat I ρ M w) (ho : o.op = .nilCheck x) (hx : CR w I ρ M c (a.eval x)) (hc : (∃ b off, c = .ptr b off) ∨ (∃ f p q, c = .fn f p q) ∨ ∃ sz g, c = .ref sz g) : Leads P o a k I ρ M w (.w (.one c)) M := by
  refine .pure hS (u := a.eval x) ?_ hx
  rcases hc with ⟨b, off, rfl⟩ | ⟨f, p, q, rfl⟩ | ⟨sz, g, rfl⟩
  · obtain ⟨rb, _, _, _, h⟩ := hx
    simp [execOp, ho, h]
  · obtain ⟨vf, vc, h, _⟩ := hx
    simp [execOp, ho, h]
  · obtain ⟨ad, h, _⟩ := hx
    simp [execOp, ho, h]

theorem toD_ok {c : C} {x : D} {v : Value} (h : toD c = some x) (hc : CR w I ρ M c v) : DR w I x v := by
  cases c with
  | d y =>
    cases y with
    | nil => simp [toD] at h; subst h; rw [show v = _ from hc]; exact ⟨none, 0, rfl, Nat.le_refl _, fun i hi => by omega⟩
    | int _ _ => simp [toD] at h; subst h; exact hc
    | bool _ => simp [toD] at h; subst h; exact hc
    | str _ => simp [toD] at h; subst h; exact hc
    | slc _ _ _ => simp [toD] at h; subst h; exact hc
  | own r n e g => simp [toD] at h; subst h; exact hc.1
  | ptr _ _ => simp [toD] at h
  | ref _ _ => simp [toD] at h
  | fn _ _ _ => simp [toD] at h
  | unk => simp [toD] at h

theorem toDs_ok : ∀ {cs : List C} {ds : List D} {vs : List Value}, toDs cs = some ds → F2 (CR w I ρ M) cs vs → F2 (DR w I) ds vs
  | [], ds, vs, h, hc => by simp [toDs] at h; subst h; obtain rfl := F2.nil_left hc; trivial
  | c :: cs, ds, vs, h, hc => by
    obtain ⟨v, vs, rfl, h1, h2⟩ := F2.cons_left hc
    simp only [toDs] at h
    cases ha : toD c with
    | none => simp [ha] at h
    | some x =>
      cases hb : toDs cs with
      | none => simp [ha, hb] at h
      | some xs => simp [ha, hb] at h; subst h; exact ⟨toD_ok ha h1, toDs_ok hb h2⟩

theorem range_zero (z : Array Value) (e : Nat) (he : 0 < e) (hz : z.size = e) : ∀ n, ((Array.range (n * e)).map (fun i => z[i % z.size]!)).toList = (List.replicate n z.toList).flatten := by
  intro n
  apply List.ext_getElem?
  intro j
  induction n generalizing j with
  | zero => simp
  | succ n ih =>
    rw [List.replicate_succ', List.flatten_append]
    simp only [List.flatten_cons, List.flatten_nil, List.append_nil]
    rw [List.getElem?_append]
    have hlen : (List.replicate n z.toList).flatten.length = n * e := by simp [List.length_flatten, hz]
    rw [hlen]
    split
    · rename_i hj
      rw [← ih j]
      simp [Array.getElem?_range, hj, show j < (n + 1) * e from by rw [Nat.add_mul]; omega]
    · rename_i hj
      by_cases hj2 : j < (n + 1) * e
      · have hm : j % e = j - n * e := by
          rw [Nat.add_mul] at hj2
          have : j = e * n + (j - n * e) := by rw [Nat.mul_comm e n]; omega
          rw [this, Nat.mul_add_mod, Nat.mod_eq_of_lt (by omega)]
          rw [Nat.mul_comm e n]; omega
        rw [Nat.add_mul] at hj2
        have hlt : j - n * e < z.size := by omega
        simp [Array.getElem?_range, show j < (n + 1) * e from by rw [Nat.add_mul]; omega, hz, hm, hlt]
        rw [getElem!_pos z _ hlt, Array.getElem?_eq_getElem hlt]
      · rw [Nat.add_mul] at hj2
        simp [Array.getElem?_range, show ¬ j < (n + 1) * e from by rw [Nat.add_mul]; omega]
        omega

theorem core_buildSlice {o : Oper} {a : Act} {ts : List V} {t e : TypeId} {len s : Nat} {ps : Array (Nat × Operand)} {us : List (Nat × U)} {cs z : List C} {ds : List D} {i : TypeInfo} (hS : Sat I ρ M w) (hT : F2 (VR w I ρ M) ts a.tmps.toList) (ho : o.op = .buildSlice t len ps)
    (ht : P.underlying t = some (.slice e)) (hi : P.info? e = some i) (hz : zeroC P e = some z) (hp : partsU (opnd ts) ps.toList = some us) (h1 : len * i.size ≤ 16777216) (h2 : z.length = i.size) (h3 : 0 < i.size)
    (hf : fillU (fun j => some (j * i.size, i.size)) us (List.replicate len z).flatten = some cs) (hd : toDs cs = some ds) (hg : M[s]? = some .gone) :
    Leads P o a k I ρ M w (.w (.one (.own s len i.size fun a j => ds.getD (a * i.size + j) .nil))) (M.set s (.tick len i.size)) := by
  obtain ⟨v, hv1, hv2, i', hi', hz'⟩ := zeroC_ok (w := w) (I := I) (ρ := ρ) (M := M) hz
  rw [hi] at hi'; cases hi'
  have hvs : v.cells.size = i.size := by have := F2.length hv2; simp at this; omega
  have hzero : F2 (CR w I ρ M) (List.replicate len z).flatten ((Array.range (len * i.size)).map (fun j => v.cells[j % v.cells.size]!)).toList := by
    rw [range_zero v.cells i.size h3 hvs len]
    have hrep : ∀ n, F2 (CR w I ρ M) (List.replicate n z).flatten (List.replicate n v.cells.toList).flatten := by
      intro n
      induction n with
      | zero => trivial
      | succ n ih => rw [List.replicate_succ, List.replicate_succ]; exact F2.append hv2 ih
    exact hrep len
  obtain ⟨cells, hc1, hc2⟩ := fillU_ok us _ _ _ _ (partsU_ok hT _ _ hp) hzero hf
  have hdr := toDs_ok hd hc2
  have hlcs : cells.size = len * i.size := by
    have e1 := F2.length hc2
    have e2 : ∀ (us : List (Nat × U)) (a b : List C), fillU (fun j => some (j * i.size, i.size)) us a = some b → b.length = a.length := by
      intro us
      induction us with
      | nil => intro a b h; simp [fillU] at h; rw [h]
      | cons u us ih =>
        intro a b h
        obtain ⟨j, u⟩ := u
        simp only [fillU] at h
        cases hb : Nat.beq (ucells u).length i.size && Nat.ble (j * i.size + i.size) a.length with
        | false => simp [hb] at h
        | true =>
          simp only [hb, cond_true] at h
          simp only [Bool.and_eq_true, Nat.beq_eq, Nat.ble_eq] at hb
          rw [ih _ _ h, setAt_length _ _ _ (by omega)]
    have e3 := e2 _ _ _ hf
    have e4 : (List.replicate len z).flatten.length = len * i.size := by simp [List.length_flatten, h2]
    simp at e1
    omega
  obtain ⟨I', r1, r2, r3⟩ := allocRow (k := k) (T := e) (s := s) (n := len) (e := i.size) (cap := len) (g := fun a j => ds.getD (a * i.size + j) .nil) (arr := cells) hS (.inl hg) h3 (Nat.le_refl _) hlcs (fun x hx j hj => by
    have hlt : x * i.size + j < len * i.size := by
      have : (x + 1) * i.size ≤ len * i.size := Nat.mul_le_mul_right _ hx
      rw [Nat.add_mul] at this; omega
    have hld : ds.length = cells.size := by have := F2.length hdr; simpa using this
    obtain ⟨y, hy1, hy2⟩ := F2.get hdr (List.getElem?_eq_getElem (show x * i.size + j < ds.length by omega))
    refine ⟨y, by simpa using hy1, ?_⟩
    have : ds.getD (x * i.size + j) .nil = ds[x * i.size + j]'(by omega) := by simp [List.getD, show x * i.size + j < ds.length from by omega]
    rw [this]; exact hy2)
  refine .value (u := .slice (some ⟨w.heap.size, 0, none⟩) len len) ?_ r1 r3 r2
  have hfill : Instr.fill (fun j => some (j * i.size, i.size)) ((Array.range (len * i.size)).map (fun j => v.cells[j % v.cells.size]!)) (ps.map fun x => (x.1, a.eval x.2)).toList = some cells := by rw [Array.toList_map]; exact hc1
  have hnb : ¬ 2 ^ 24 < len * i.size := by omega
  by_cases h0 : len * i.size = 0
  · have hz0 : ((Array.range (len * i.size)).map (fun j => v.cells[j % v.cells.size]!)) = #[] := by rw [h0]; simp
    rw [hz0] at hfill
    simp only [execOp, ho, Instr.buildSlice, Sem.run_bind, run_underlying ht, Result.andThen_ok, run_sizeOf' hi, Sem.run_ite, gt_iff_lt, hnb, if_false, h0, if_true, Sem.run_pure, Array.range_zero', Array.map_empty]
    have hfill' := hfill
    rw [hfill']
    simp [newRow]
  · simp only [execOp, ho, Instr.buildSlice, Sem.run_bind, run_underlying ht, Result.andThen_ok, run_sizeOf' hi, Sem.run_ite, gt_iff_lt, hnb, if_false, h0, Sem.run_pure, hv1]
    rw [hfill]
    simp [newRow]

end
end Sh
end Go.Proofs.YtamdjlpobonmiaaDoor
