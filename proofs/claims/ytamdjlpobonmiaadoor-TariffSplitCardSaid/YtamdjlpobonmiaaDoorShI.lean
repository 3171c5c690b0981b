/- Conversions, addresses, slices, lengths; and all operations together. -/
import Derived.Test.YtamdjlpobonmiaaDoorShH
import Derived.Laws.IdiomStrings
namespace Go.Proofs.YtamdjlpobonmiaaDoor
namespace Sh
open Go.RowKit

section
variable {P : Program} {k : Nat} {I I' I'' : Addr → Prop} {ρ ρ' ρ'' : List (Option Nat)} {M M' M'' : List B} {w w' w'' : World}

theorem core_binOp {o : Oper} {a : Act} {ts : List V} {op : BinOp} {t yt : TypeId} {x y : Operand} {v : V} (hS : Sat I ρ M w) (hT : F2 (VR w I ρ M) ts a.tmps.toList) (ho : o.op = .binOp op t x y yt)
    (h : binU P op t (opnd ts x) (opnd ts y) = some (true, v)) : Leads P o a k I ρ M w v M := by
  obtain ⟨u, hu, hv⟩ := binU_ok h (opnd_ok hT x) (opnd_ok hT y) x y
  refine .pure hS (u := u) ?_ hv
  have e : execOp a.eval o = (do let v ← (do eqGuard op t x y (a.eval x) (a.eval y); binOp op t (a.eval x) (a.eval y) : Sem Value); pure (.value v)) := by
    simp only [execOp, ho]
  rw [e, Sem.run_bind, hu]
  rfl

theorem unU_ok {op : UnOp} {x v : V} {a : Value} (h : unU op x = some v) (hx : VR w I ρ M x a) : ∃ u, (Op.unary op a).run P w = .ok u w ∧ VR w I ρ M v u := by
  unfold unU at h
  split at h
  · obtain rfl : a = _ := hx
    simp only [Option.some.injEq] at h; subst h
    exact ⟨_, by simp [Op.unary, Op.intArith], rfl⟩
  · rename_i kk n
    obtain rfl : a = _ := hx
    simp only [Option.some.injEq] at h; subst h
    exact ⟨.int kk (bits .xor kk (if kk.signed then -1 else kk.max) n), rfl, rfl⟩
  · obtain rfl : a = _ := hx
    simp only [Option.some.injEq] at h; subst h
    exact ⟨_, rfl, rfl⟩
  · cases h

theorem core_unOp {o : Oper} {a : Act} {ts : List V} {op : UnOp} {t : TypeId} {x : Operand} {v : V} (hS : Sat I ρ M w) (hT : F2 (VR w I ρ M) ts a.tmps.toList) (ho : o.op = .unOp op t x)
    (h : unU op (opnd ts x) = some v) : Leads P o a k I ρ M w v M := by
  obtain ⟨u, hu, hv⟩ := unU_ok (P := P) (w := w) h (opnd_ok hT x)
  exact .pure hS (u := u) (by simp only [execOp, ho, Sem.run_bind, hu, Result.andThen_ok, Sem.run_pure]) hv

theorem core_convert_int {o : Oper} {a : Act} {src dst : TypeId} {x : Operand} {d : TypeDesc} {kk kd : IntKind} {n : Int} (hS : Sat I ρ M w) (ho : o.op = .convert src dst x) (h1 : P.underlying src = some d) (h2 : P.underlying dst = some (.int kk)) (hx : a.eval x = .int kd n) :
    Leads P o a k I ρ M w (.w (.one (.d (.int kk (kk.wrap n))))) M := by
  refine .pure hS (u := .int kk (kk.wrap n)) ?_ rfl
  simp only [execOp, ho, hx, convert, Sem.run_bind, run_underlying h1, run_underlying h2, Result.andThen_ok, Conv.intToInt, Sem.run_pure]

theorem core_convert_str {o : Oper} {a : Act} {src dst : TypeId} {x : Operand} {d : TypeDesc} {s : ByteArray} (hS : Sat I ρ M w) (ho : o.op = .convert src dst x) (h1 : P.underlying src = some d) (h2 : P.underlying dst = some .string) (hx : a.eval x = .string s) :
    Leads P o a k I ρ M w (.w (.one (.d (.str s)))) M := by
  refine .pure hS (u := .string s) ?_ rfl
  simp only [execOp, ho, hx, convert, Sem.run_bind, run_underlying h1, run_underlying h2, Result.andThen_ok]
  cases d <;> simp

theorem byteOk_elim {x : D} (h : byteOk x = true) : ∃ z : Int, x = .int .u8 z ∧ 0 ≤ z ∧ z ≤ 255 ∧ (((byteOf x).toNat : Nat) : Int) = z := by
  unfold byteOk at h
  split at h
  · rename_i z
    simp only [Bool.and_eq_true, decide_eq_true_eq] at h
    refine ⟨z, rfl, h.1, h.2, ?_⟩
    have : z.toNat < 256 := by omega
    simp only [byteOf, UInt8.toNat_ofNat', Nat.reducePow, Nat.mod_eq_of_lt this]
    omega
  · cases h

theorem core_convert_bytes {o : Oper} {a : Act} {src dst te : TypeId} {x : Operand} {n : Nat} {g : Nat → Nat → D} (hS : Sat I ρ M w) (ho : o.op = .convert src dst x) (h1 : P.underlying src = some (.slice te)) (h2 : P.underlying dst = some .string)
    (h3 : P.underlying te = some (.int .u8)) (hx : DR w I (.slc n 1 g) (a.eval x)) (hn : 0 < n) (hg : byteG n g = true) : Leads P o a k I ρ M w (.w (.one (.d (.str (byteS n g))))) M := by
  obtain ⟨A, cap, hv, hcap, hd⟩ := hx
  obtain ⟨ad, u0, hA, _, _, _⟩ := hd 0 hn 0 (by omega)
  subst hA
  have hall : ∀ i, i < n → byteOk (g i 0) = true := fun i hi => List.all_eq_true.1 hg i (List.mem_range.2 hi)
  have hlen : ((List.range n).map fun i => byteOf (g i 0)).length = n := by simp
  have hc : ∀ j (hj : j < ((List.range n).map fun i => byteOf (g i 0)).length), w.cell? (ad.add j) = some (.int .u8 ((((List.range n).map fun i => byteOf (g i 0))[j].toNat : Nat) : Int)) := by
    intro j hj
    rw [hlen] at hj
    obtain ⟨ad', u, hA', _, hu, hdr⟩ := hd j hj 0 (by omega)
    injection hA' with hA'; subst hA'
    obtain ⟨z, e1, _, _, e2⟩ := byteOk_elim (hall j hj)
    rw [show j * 1 + 0 = j by omega] at hu
    rw [hu]
    have hdr' : u = .int .u8 z := by rw [e1] at hdr; exact hdr
    rw [hdr']
    simp only [List.getElem_map, List.getElem_range]
    rw [e2]
  have hrun := run_convert_bytes_back (P := P) w src dst te ad cap _ h1 h3 h2 hc
  rw [hlen] at hrun
  refine .pure hS (u := .string (byteS n g)) ?_ rfl
  simp only [execOp, ho, hv, Sem.run_bind]
  rw [hrun]
  rfl

theorem core_makeFunc {o : Oper} {a : Act} {ts : List V} {g : FuncId} {fs cs : Array Operand} {ps qs : List (Nat × Nat)} (hS : Sat I ρ M w) (hT : F2 (VR w I ρ M) ts a.tmps.toList) (ho : o.op = .makeFunc (.func g) fs cs)
    (h1 : ptrsOf (opnd ts) fs.toList = some ps) (h2 : ptrsOf (opnd ts) cs.toList = some qs) : Leads P o a k I ρ M w (.w (.one (.fn g ps qs))) M := by
  refine .pure hS (u := .func (.func g) (fs.map a.eval) (cs.map a.eval)) (by simp [execOp, ho, Instr.makeFunc]) ⟨_, _, rfl, ?_, ?_⟩
  · rw [Array.toList_map]; exact ptrsOf_ok hT _ _ h1
  · rw [Array.toList_map]; exact ptrsOf_ok hT _ _ h2

theorem fieldOf_ok {s f fo fs : Nat} (h : fieldOf P s f = some (fo, fs)) : ∃ fields q i, P.underlying s = some (.struct fields) ∧ fields[f]? = some q ∧ P.info? q.type = some i ∧ q.offset = fo ∧ i.size = fs := by
  unfold fieldOf at h
  split at h
  · rename_i fields hu
    split at h
    · rename_i q hq
      split at h
      · rename_i i hi
        simp only [Option.some.injEq, Prod.mk.injEq] at h
        exact ⟨fields, q, i, hu, hq, hi, h.1, h.2⟩
      · cases h
    · cases h
  · cases h

theorem run_fieldAt {s f fo fs : Nat} {ad : Addr} (h : fieldOf P s f = some (fo, fs)) (h0 : 0 < fs) : (Instr.fieldAt s (.pointer (some ad)) f).run P w = .ok (.pointer (some (ad.add fo))) w := by
  obtain ⟨fields, q, i, h1, h2, h3, h4, h5⟩ := fieldOf_ok h
  have hne : ¬ i.size = 0 := by omega
  simp only [Instr.fieldAt, Sem.run_bind, run_underlying h1, Result.andThen_ok, h2, Instr.sureAddr, Sem.run_pure, fieldPlace, run_sizeOf' h3, hne, if_false, h4]

theorem core_fieldAddr_ptr {o : Oper} {a : Act} {x : Operand} {s f fo fs b off : Nat} (hS : Sat I ρ M w) (ho : o.op = .fieldAddr s x f) (hx : VR w I ρ M (.w (.one (.ptr b off))) (a.eval x)) (h : fieldOf P s f = some (fo, fs)) (h0 : 0 < fs) :
    Leads P o a k I ρ M w (.w (.one (.ptr b (off + fo)))) M := by
  obtain ⟨rb, cs, h1, h2, h3⟩ := hx
  refine .pure hS (u := .pointer (some ⟨rb, off + fo, none⟩)) ?_ ⟨rb, cs, h1, h2, rfl⟩
  simp only [execOp, ho, h3, Sem.run_bind, run_fieldAt h h0, Result.andThen_ok, Sem.run_pure, add_lit]

theorem add_add_spot {ad : Addr} {m n : Nat} (h : ∃ u, w.cell? (ad.add m) = some u) : (ad.add m).add n = ad.add (m + n) := by
  obtain ⟨u, hu⟩ := h
  obtain ⟨b, off, sp⟩ := ad
  unfold Addr.add at *
  by_cases hm : m = 0
  · subst hm; simp
  · by_cases hn : n = 0
    · subst hn; simp [hm]
    · have : ¬ (m + n = 0) := by omega
      simp [hm, hn]; omega

theorem core_fieldAddr_ref {o : Oper} {a : Act} {x : Operand} {s f fo fs sz : Nat} {g : Nat → D} (hS : Sat I ρ M w) (ho : o.op = .fieldAddr s x f) (hx : VR w I ρ M (.w (.one (.ref sz g))) (a.eval x)) (h : fieldOf P s f = some (fo, fs)) (h0 : 0 < fs) (hl : fo + fs ≤ sz) :
    Leads P o a k I ρ M w (.w (.one (.ref fs fun j => g (fo + j)))) M := by
  obtain ⟨ad, h1, h2⟩ := hx
  refine .pure hS (u := .pointer (some (ad.add fo))) ?_ ⟨ad.add fo, rfl, fun j hj => ?_⟩
  · simp only [execOp, ho, h1, Sem.run_bind, run_fieldAt h h0, Result.andThen_ok, Sem.run_pure]
  · obtain ⟨u, h3, h4, h5⟩ := h2 (fo + j) (by omega)
    obtain ⟨u0, _, h6, _⟩ := h2 fo (by omega)
    rw [add_add_spot (w := w) ⟨u0, h6⟩]
    exact ⟨u, h3, h4, h5⟩

theorem core_field_agg {o : Oper} {a : Act} {x : Operand} {s f fo fs : Nat} {cs : List C} {fields : Array Field} (hS : Sat I ρ M w) (ho : o.op = .field s x f) (hx : VR w I ρ M (.w (.agg cs)) (a.eval x)) (h : fieldOf P s f = some (fo, fs)) (hu : P.underlying s = some (.struct fields))
    (hk : ((fields[f]?).bind fun q => kindOf P q.type) = some true) : Leads P o a k I ρ M w (.w (.agg ((cs.drop fo).take fs))) M := by
  obtain ⟨arr, h1, h2⟩ := hx
  obtain ⟨fields', q, i, h3, h4, h5, h6, h7⟩ := fieldOf_ok h
  rw [hu] at h3; cases h3
  rw [h4] at hk
  refine .pure hS (u := .agg (arr.extract fo (fo + fs))) ?_ ⟨_, rfl, ?_⟩
  · simp only [execOp, ho, h1, Instr.field, Sem.run_bind, run_underlying hu, Result.andThen_ok, h4, asAgg, Sem.run_pure, h6, part_run (cellsOf_eq h5 |>.trans h7) hk]
  · rw [Array.toList_extract, List.extract_eq_take_drop]; simpa using F2.take fs (F2.drop fo h2)

theorem core_field_one {o : Oper} {a : Act} {x : Operand} {s f fo fs : Nat} {cs : List C} {c : C} {fields : Array Field} (hS : Sat I ρ M w) (ho : o.op = .field s x f) (hx : VR w I ρ M (.w (.agg cs)) (a.eval x)) (h : fieldOf P s f = some (fo, fs)) (hu : P.underlying s = some (.struct fields))
    (hk : ((fields[f]?).bind fun q => kindOf P q.type) = some false) (hc : cs[fo]? = some c) : Leads P o a k I ρ M w (.w (.one c)) M := by
  obtain ⟨arr, h1, h2⟩ := hx
  obtain ⟨fields', q, i, h3, h4, h5, h6, h7⟩ := fieldOf_ok h
  rw [hu] at h3; cases h3
  rw [h4] at hk
  obtain ⟨v, hv, hcr⟩ := F2.get h2 hc
  refine .pure hS (u := v) ?_ hcr
  simp only [execOp, ho, h1, Instr.field, Sem.run_bind, run_underlying hu, Result.andThen_ok, h4, asAgg, Sem.run_pure, h6, part_run1 hk (show arr[fo]? = some v by simpa using hv)]

/-- What a slice of ours reads as. -/
theorem sliceC_ok {c : C} {n e : Nat} {g : Nat → Nat → D} {v : Value} (h : sliceC c = some (n, e, g)) (hc : CR w I ρ M c v) : DR w I (.slc n e g) v := by
  cases c with
  | d x =>
    cases x with
    | nil =>
      simp only [sliceC, Option.some.injEq, Prod.mk.injEq] at h
      obtain ⟨rfl, rfl, rfl⟩ := h
      exact ⟨none, 0, hc, Nat.le_refl _, fun i hi => by omega⟩
    | slc n' e' g' =>
      simp only [sliceC, Option.some.injEq, Prod.mk.injEq] at h
      obtain ⟨rfl, rfl, rfl⟩ := h
      exact hc
    | int _ _ => simp [sliceC] at h
    | bool _ => simp [sliceC] at h
    | str _ => simp [sliceC] at h
  | own r n' e' g' =>
    simp only [sliceC, Option.some.injEq, Prod.mk.injEq] at h
    obtain ⟨rfl, rfl, rfl⟩ := h
    exact hc.1
  | ptr _ _ => simp [sliceC] at h
  | ref _ _ => simp [sliceC] at h
  | fn _ _ _ => simp [sliceC] at h
  | unk => simp [sliceC] at h

theorem core_indexAddr_slice {o : Oper} {a : Act} {x ix : Operand} {t te : TypeId} {kk : IntKind} {i : Int} {n e : Nat} {g : Nat → Nat → D} {q : TypeInfo} (hS : Sat I ρ M w) (ho : o.op = .indexAddr t x ix) (hx : DR w I (.slc n e g) (a.eval x)) (hix : a.eval ix = .int kk i)
    (ht : P.underlying t = some (.slice te)) (hq : P.info? te = some q) (h0 : 0 ≤ i) (h1 : i < n) (he : e = q.size) (he0 : 0 < e) : Leads P o a k I ρ M w (.w (.one (.ref e (g i.toNat)))) M := by
  obtain ⟨A, cap, hv, hcap, hd⟩ := hx
  have hilt : i.toNat < n := by omega
  obtain ⟨ad, u0, hA, _, hu0, _⟩ := hd i.toNat hilt 0 he0
  subst hA
  refine .pure hS (u := .pointer (some (ad.add (i.toNat * e)))) ?_ ⟨_, rfl, fun j hj => ?_⟩
  · simp only [execOp, ho, hv, hix, Instr.indexAt, Sem.run_bind, asIntOf, Sem.run_pure, Result.andThen_ok, run_underlying ht, Sem.run_ite, h0, h1, and_self, if_true, run_sizeOf' hq, he]
  · obtain ⟨ad', u, hA', hI, hu, hdr⟩ := hd i.toNat hilt j hj
    injection hA' with hA'; subst hA'
    rw [Nat.add_zero] at hu0
    rw [add_add_spot (w := w) ⟨u0, hu0⟩]
    exact ⟨u, hI, hu, hdr⟩

theorem core_indexAddr_array {o : Oper} {a : Act} {x ix : Operand} {t te : TypeId} {kk : IntKind} {i : Int} {len b off : Nat} {q : TypeInfo} (hS : Sat I ρ M w) (ho : o.op = .indexAddr t x ix) (hx : VR w I ρ M (.w (.one (.ptr b off))) (a.eval x)) (hix : a.eval ix = .int kk i)
    (ht : P.underlying t = some (.array len te)) (hq : P.info? te = some q) (h0 : 0 ≤ i) (h1 : i < len) : Leads P o a k I ρ M w (.w (.one (.ptr b (off + i.toNat * q.size)))) M := by
  obtain ⟨rb, cs, g1, g2, hv⟩ := hx
  refine .pure hS (u := .pointer (some ⟨rb, off + i.toNat * q.size, none⟩)) ?_ ⟨rb, cs, g1, g2, rfl⟩
  simp only [execOp, ho, hv, hix, Instr.indexAt, Sem.run_bind, asIntOf, Sem.run_pure, Result.andThen_ok, run_underlying ht, Instr.sureAddr, Sem.run_ite, h0, h1, and_self, if_true, run_sizeOf' hq, add_lit]

theorem core_indexAddr_refarr {o : Oper} {a : Act} {x ix : Operand} {t te : TypeId} {kk : IntKind} {i : Int} {len sz : Nat} {g : Nat → D} {q : TypeInfo} (hS : Sat I ρ M w) (ho : o.op = .indexAddr t x ix) (hx : VR w I ρ M (.w (.one (.ref sz g))) (a.eval x)) (hix : a.eval ix = .int kk i)
    (ht : P.underlying t = some (.array len te)) (hq : P.info? te = some q) (h0 : 0 ≤ i) (h1 : i < len) (hsz : len * q.size ≤ sz) (hq0 : 0 < q.size) : Leads P o a k I ρ M w (.w (.one (.ref q.size fun j => g (i.toNat * q.size + j)))) M := by
  obtain ⟨ad, hv, hd⟩ := hx
  have hb : ∀ j, j < q.size → i.toNat * q.size + j < sz := fun j hj => by
    have : (i.toNat + 1) * q.size ≤ len * q.size := Nat.mul_le_mul_right _ (by omega)
    rw [Nat.add_mul] at this; omega
  refine .pure hS (u := .pointer (some (ad.add (i.toNat * q.size)))) ?_ ⟨_, rfl, fun j hj => ?_⟩
  · simp only [execOp, ho, hv, hix, Instr.indexAt, Sem.run_bind, asIntOf, Sem.run_pure, Result.andThen_ok, run_underlying ht, Instr.sureAddr, Sem.run_ite, h0, h1, and_self, if_true, run_sizeOf' hq]
  · obtain ⟨u, h3, h4, h5⟩ := hd (i.toNat * q.size + j) (hb j hj)
    obtain ⟨u0, _, h6, _⟩ := hd (i.toNat * q.size) (by have := hb 0 hq0; omega)
    rw [add_add_spot (w := w) ⟨u0, h6⟩]
    exact ⟨u, h3, h4, h5⟩

theorem core_index_str {o : Oper} {a : Act} {x ix : Operand} {t : TypeId} {kk : IntKind} {i : Int} {s : ByteArray} (hS : Sat I ρ M w) (ho : o.op = .index t x ix) (hx : a.eval x = .string s) (hix : a.eval ix = .int kk i)
    (ht : P.underlying t = some .string) (h0 : 0 ≤ i) (h1 : i < s.size) : Leads P o a k I ρ M w (.w (.one (.d (.int .u8 (((s.data.toList.getD i.toNat 0).toNat : Nat) : Int))))) M := by
  have hlt : i.toNat < s.size := by omega
  have hlt' : i.toNat < s.data.toList.length := by rw [Array.length_toList]; exact hlt
  refine .pure hS (u := .int .u8 ((s.data.toList.getD i.toNat 0).toNat : Nat)) ?_ rfl
  have hget : s.data.toList.getD i.toNat 0 = s[i.toNat]'hlt := by
    simp only [List.getD, List.getElem?_eq_getElem hlt', Option.getD_some]
    rfl
  have hc : 0 ≤ i ∧ i < s.size := ⟨h0, h1⟩
  simp only [execOp, ho, hx, hix, Sem.run_bind, run_index_string w t s kk i ht, hc, and_self, dif_pos, Result.andThen_ok, Sem.run_pure, hget]

theorem core_index_agg {o : Oper} {a : Act} {x ix : Operand} {t te : TypeId} {kk : IntKind} {i : Int} {len : Nat} {cs : List C} {q : TypeInfo} (hS : Sat I ρ M w) (ho : o.op = .index t x ix) (hx : VR w I ρ M (.w (.agg cs)) (a.eval x)) (hix : a.eval ix = .int kk i)
    (ht : P.underlying t = some (.array len te)) (hq : P.info? te = some q) (hk : kindOf P te = some true) (h0 : 0 ≤ i) (h1 : i < len) : Leads P o a k I ρ M w (.w (.agg ((cs.drop (i.toNat * q.size)).take q.size))) M := by
  obtain ⟨arr, g1, g2⟩ := hx
  refine .pure hS (u := .agg (arr.extract (i.toNat * q.size) (i.toNat * q.size + q.size))) ?_ ⟨_, rfl, ?_⟩
  · simp only [execOp, ho, g1, hix, Instr.index, Sem.run_bind, asIntOf, Sem.run_pure, Result.andThen_ok, run_underlying ht, Sem.run_ite, h0, h1, and_self, if_true, run_sizeOf' hq, part_run (cellsOf_eq hq) hk]
  · rw [Array.toList_extract, List.extract_eq_take_drop]; simpa using F2.take q.size (F2.drop _ g2)

theorem core_index_one {o : Oper} {a : Act} {x ix : Operand} {t te : TypeId} {kk : IntKind} {i : Int} {len : Nat} {cs : List C} {c : C} {q : TypeInfo} (hS : Sat I ρ M w) (ho : o.op = .index t x ix) (hx : VR w I ρ M (.w (.agg cs)) (a.eval x)) (hix : a.eval ix = .int kk i)
    (ht : P.underlying t = some (.array len te)) (hq : P.info? te = some q) (hk : kindOf P te = some false) (hc : cs[i.toNat * q.size]? = some c) (h0 : 0 ≤ i) (h1 : i < len) : Leads P o a k I ρ M w (.w (.one c)) M := by
  obtain ⟨arr, g1, g2⟩ := hx
  obtain ⟨v, hv, hcr⟩ := F2.get g2 hc
  refine .pure hS (u := v) ?_ hcr
  simp only [execOp, ho, g1, hix, Instr.index, Sem.run_bind, asIntOf, Sem.run_pure, Result.andThen_ok, run_underlying ht, Sem.run_ite, h0, h1, and_self, if_true, run_sizeOf' hq, part_run1 hk (show arr[i.toNat * q.size]? = some v by simpa using hv)]

theorem core_extract {o : Oper} {a : Act} {x : Operand} {i : Nat} {us : List U} {u : U} (hS : Sat I ρ M w) (ho : o.op = .extract x i) (hx : VR w I ρ M (.tup us) (a.eval x)) (hu : us[i]? = some u) : Leads P o a k I ρ M w (.w u) M := by
  obtain ⟨arr, g1, g2⟩ := hx
  obtain ⟨v, hv, hcr⟩ := F2.get g2 hu
  refine .pure hS (u := v) ?_ hcr
  have : arr[i]? = some v := by simpa using hv
  simp only [execOp, ho, g1, Instr.extract, this, Sem.run_bind, Sem.run_pure, Result.andThen_ok]

theorem boundOf_ok {ts : List V} {a : Act} (hT : F2 (VR w I ρ M) ts a.tmps.toList) {x : Option Operand} {l : Option Int} (h : boundOf (opnd ts) x = some l) : (x = none ∧ l = none) ∨ ∃ y kk i, x = some y ∧ l = some i ∧ a.eval y = .int kk i := by
  cases x with
  | none => simp [boundOf] at h; exact .inl ⟨rfl, h.symm⟩
  | some y =>
    simp only [boundOf] at h
    have hy := opnd_ok hT y
    split at h
    · rename_i kk i he
      rw [he] at hy
      simp only [Option.some.injEq] at h
      exact .inr ⟨y, kk, i, rfl, h.symm, hy⟩
    · cases h

theorem run_bounds {ts : List V} {a : Act} (hT : F2 (VR w I ρ M) ts a.tmps.toList) {lo hi : Option Operand} {l h : Option Int} (hl : boundOf (opnd ts) lo = some l) (hh : boundOf (opnd ts) hi = some h) (isS : Bool) (len cap : Nat) (h0 : 0 ≤ l.getD 0) (h1 : l.getD 0 ≤ h.getD len) (h2 : h.getD len ≤ len) (hc : len ≤ cap) :
    (Instr.sliceBounds isS len cap (lo.map a.eval) (hi.map a.eval) none).run P w = .ok ((l.getD 0).toNat, (h.getD len).toNat, cap) w := by
  rcases boundOf_ok hT hl with ⟨rfl, rfl⟩ | ⟨y, kk, i, rfl, rfl, hy⟩ <;> rcases boundOf_ok hT hh with ⟨rfl, rfl⟩ | ⟨z, kk', j, rfl, rfl, hz⟩
  · simp [Instr.sliceBounds]
  · simp only [Option.getD_some, Option.getD_none] at h0 h1 h2
    have hj : 0 ≤ j ∧ j ≤ (cap : Int) := ⟨by omega, by omega⟩
    simp only [Instr.sliceBounds, Option.map_none, Option.map_some, hz, Instr.sliceBound, asIntOf, Sem.run_bind, Sem.run_pure, Result.andThen_ok, Sem.run_ite, hj, and_self, if_true, Option.getD_some, Option.getD_none]
    rfl
  · simp only [Option.getD_some, Option.getD_none] at h0 h1 h2
    have hi' : 0 ≤ i ∧ i ≤ (len : Int) := ⟨by omega, by omega⟩
    simp only [Instr.sliceBounds, Option.map_none, Option.map_some, hy, Instr.sliceBound, asIntOf, Sem.run_bind, Sem.run_pure, Result.andThen_ok, Sem.run_ite, hi', and_self, if_true, Option.getD_some, Option.getD_none]
    simp
  · simp only [Option.getD_some] at h0 h1 h2
    have hj : 0 ≤ j ∧ j ≤ (cap : Int) := ⟨by omega, by omega⟩
    have hi' : 0 ≤ i ∧ i ≤ (j.toNat : Int) := ⟨by omega, by omega⟩
    simp only [Instr.sliceBounds, Option.map_some, hy, hz, Instr.sliceBound, asIntOf, Sem.run_bind, Sem.run_pure, Result.andThen_ok, Sem.run_ite, hj, hi', and_self, if_true, Option.getD_some]

theorem core_slice_str {o : Oper} {a : Act} {ts : List V} {t : TypeId} {x : Operand} {lo hi : Option Operand} {l h : Option Int} {s : ByteArray} (hS : Sat I ρ M w) (hT : F2 (VR w I ρ M) ts a.tmps.toList) (ho : o.op = .slice t x lo hi none) (hx : a.eval x = .string s)
    (ht : P.underlying t = some .string) (hl : boundOf (opnd ts) lo = some l) (hh : boundOf (opnd ts) hi = some h) (h0 : 0 ≤ l.getD 0) (h1 : l.getD 0 ≤ h.getD s.size) (h2 : h.getD s.size ≤ s.size) :
    Leads P o a k I ρ M w (.w (.one (.d (.str (s.extract (l.getD 0).toNat (h.getD s.size).toNat))))) M := by
  refine .pure hS (u := .string (s.extract (l.getD 0).toNat (h.getD s.size).toNat)) ?_ rfl
  have hb := run_bounds (P := P) (w := w) hT hl hh false s.size s.size h0 h1 h2 (Nat.le_refl _)
  simp only [execOp, ho, hx, Option.map_none, Sem.run_bind, Instr.sliceAt, run_underlying ht, Result.andThen_ok, Instr.slice, Option.isSome_none, Bool.false_eq_true, if_false, Sem.run_pure, hb]

theorem core_slice_slc {o : Oper} {a : Act} {ts : List V} {t te : TypeId} {x : Operand} {lo hi : Option Operand} {l h : Option Int} {n e : Nat} {g : Nat → Nat → D} {q : TypeInfo} (hS : Sat I ρ M w) (hT : F2 (VR w I ρ M) ts a.tmps.toList) (ho : o.op = .slice t x lo hi none) (hx : DR w I (.slc n e g) (a.eval x))
    (ht : P.underlying t = some (.slice te)) (hq : P.info? te = some q) (hl : boundOf (opnd ts) lo = some l) (hh : boundOf (opnd ts) hi = some h) (h0 : 0 ≤ l.getD 0) (h1 : l.getD 0 ≤ h.getD n) (h2 : h.getD n ≤ n) (he : e = q.size ∨ n = 0) :
    Leads P o a k I ρ M w (.w (.one (.d (.slc ((h.getD n).toNat - (l.getD 0).toNat) e fun i j => g ((l.getD 0).toNat + i) j)))) M := by
  obtain ⟨A, cap, hv, hcap, hd⟩ := hx
  have hb := run_bounds (P := P) (w := w) hT hl hh true n cap h0 h1 h2 hcap
  generalize hlv : (l.getD 0).toNat = lv at *
  generalize hhv : (h.getD n).toNat = hv' at *
  have hle : lv ≤ hv' := by omega
  have hle2 : hv' ≤ n := by omega
  refine .pure hS (u := .slice (if cap = lv then A else A.map (·.add (lv * q.size))) (hv' - lv) (cap - lv)) ?_ ⟨_, _, rfl, by omega, fun i hi j hj => ?_⟩
  · simp only [execOp, ho, hv, Option.map_none, Sem.run_bind, Instr.sliceAt, run_underlying ht, Result.andThen_ok, Instr.slice, hb, run_sizeOf' hq, Sem.run_pure]
  · have hil : lv + i < n := by omega
    have hne : ¬ cap = lv := by omega
    have he' : e = q.size := by rcases he with h | h <;> omega
    obtain ⟨ad, u, hA, hI, hu, hdr⟩ := hd (lv + i) hil j hj
    obtain ⟨ad0, u0, hA0, _, hu0, _⟩ := hd lv (by omega) 0 (by omega)
    subst hA
    injection hA0 with hA0; subst hA0
    rw [if_neg hne]
    refine ⟨_, u, rfl, ?_, ?_, hdr⟩
    · rw [add_add_spot (w := w) ⟨u0, by rw [← he']; exact hu0⟩, ← he', show lv * e + (i * e + j) = (lv + i) * e + j from by rw [Nat.add_mul]; omega]; exact hI
    · rw [add_add_spot (w := w) ⟨u0, by rw [← he']; exact hu0⟩, ← he', show lv * e + (i * e + j) = (lv + i) * e + j from by rw [Nat.add_mul]; omega]; exact hu

theorem core_slice_refarr {o : Oper} {a : Act} {ts : List V} {t te : TypeId} {x : Operand} {lo hi : Option Operand} {l h : Option Int} {len sz : Nat} {g : Nat → D} {q : TypeInfo} (hS : Sat I ρ M w) (hT : F2 (VR w I ρ M) ts a.tmps.toList) (ho : o.op = .slice t x lo hi none) (hx : VR w I ρ M (.w (.one (.ref sz g))) (a.eval x))
    (ht : P.underlying t = some (.array len te)) (hq : P.info? te = some q) (hl : boundOf (opnd ts) lo = some l) (hh : boundOf (opnd ts) hi = some h) (h0 : 0 ≤ l.getD 0) (h1 : l.getD 0 ≤ h.getD len) (h2 : h.getD len ≤ len) (hsz : len * q.size ≤ sz) (hq0 : 0 < q.size) :
    Leads P o a k I ρ M w (.w (.one (.d (.slc ((h.getD len).toNat - (l.getD 0).toNat) q.size fun i j => g (((l.getD 0).toNat + i) * q.size + j))))) M := by
  obtain ⟨ad, hv, hd⟩ := hx
  have hb := run_bounds (P := P) (w := w) hT hl hh false len len h0 h1 h2 (Nat.le_refl _)
  generalize hlv : (l.getD 0).toNat = lv at *
  generalize hhv : (h.getD len).toNat = hv' at *
  have hle : lv ≤ hv' := by omega
  have hle2 : hv' ≤ len := by omega
  refine .pure hS (u := .slice (some (if len = lv then ad else ad.add (lv * q.size))) (hv' - lv) (len - lv)) ?_ ⟨_, _, rfl, by omega, fun i hi j hj => ?_⟩
  · simp only [execOp, ho, hv, Option.map_none, Sem.run_bind, Instr.sliceAt, run_underlying ht, Result.andThen_ok, Instr.sureAddr, hb, run_sizeOf' hq, Sem.run_pure]
  · have hil : lv + i < len := by omega
    have hne : ¬ len = lv := by omega
    have hlt : (lv + i) * q.size + j < sz := by
      have : (lv + i + 1) * q.size ≤ len * q.size := Nat.mul_le_mul_right _ (by omega)
      rw [Nat.add_mul] at this; omega
    have hlt0 : lv * q.size < sz := by
      have : lv * q.size ≤ (lv + i) * q.size := Nat.mul_le_mul_right _ (by omega)
      omega
    obtain ⟨u, hI, hu, hdr⟩ := hd ((lv + i) * q.size + j) hlt
    obtain ⟨u0, _, hu0, _⟩ := hd (lv * q.size) hlt0
    rw [if_neg hne]
    refine ⟨_, u, rfl, ?_, ?_, hdr⟩
    · rw [add_add_spot (w := w) ⟨u0, hu0⟩, show lv * q.size + (i * q.size + j) = (lv + i) * q.size + j from by rw [Nat.add_mul]; omega]; exact hI
    · rw [add_add_spot (w := w) ⟨u0, hu0⟩, show lv * q.size + (i * q.size + j) = (lv + i) * q.size + j from by rw [Nat.add_mul]; omega]; exact hu

theorem builtin_run {o : Oper} {a : Act} {b : Builtin} {args : Array Operand} {argTypes : Array TypeId} {vals : Array Value} (ho : o.op = .call { callee := .builtin b, args := args, argTypes := argTypes }) (hv : args.map a.eval = vals) :
    ∃ consts, execOp a.eval o = builtin b argTypes o.type consts vals := by
  refine ⟨args.map fun | .const _ => true | _ => false, ?_⟩
  simp only [execOp, ho, resolve, pure_bind, invoke, hv]
  exact congrArg (fun f => builtin b argTypes o.type (Array.map f args) vals) (funext fun x => by cases x <;> rfl)

theorem core_len {o : Oper} {a : Act} {x : Operand} {t : TypeId} {args : Array Operand} {argTypes : Array TypeId} {xv v : V} (hS : Sat I ρ M w) (ho : o.op = .call { callee := .builtin .len, args := args, argTypes := argTypes }) (hargs : args.toList = [x]) (hat : argTypes.toList = [t])
    (hx : VR w I ρ M xv (a.eval x)) (h : lenU P t xv = some v) : Leads P o a k I ρ M w v M := by
  have hargs' : args = #[x] := by apply Array.ext'; simpa using hargs
  have hat' : argTypes = #[t] := by apply Array.ext'; simpa using hat
  subst hargs'; subst hat'
  obtain ⟨consts, he⟩ := builtin_run (a := a) ho (vals := #[a.eval x]) (by simp)
  have key : ∃ u, (Builtin.len_ #[t] o.type #[a.eval x]).run P w = .ok u w ∧ VR w I ρ M v u := by
    unfold lenU at h
    split at h
    · rename_i s ht
      obtain hx : a.eval x = _ := hx
      simp only [Option.some.injEq] at h; subst h
      exact ⟨_, by simp [Builtin.len_, run_underlying ht, hx]; rfl, rfl⟩
    · rename_i n te ht
      simp only [Option.some.injEq] at h; subst h
      exact ⟨goInt n, by simp [Builtin.len_, run_underlying ht], rfl⟩
    · rename_i te c ht
      split at h
      · rename_i n e g hs
        obtain ⟨A, cap, hv, _⟩ := sliceC_ok hs hx
        simp only [Option.some.injEq] at h; subst h
        exact ⟨goInt n, by simp [Builtin.len_, run_underlying ht, hv], rfl⟩
      · cases h
    · cases h
  obtain ⟨u, hu, hv⟩ := key
  exact .pure hS (u := u) (by rw [he]; simp only [builtin, Sem.run_bind, hu, Result.andThen_ok, Sem.run_pure]) hv

theorem core_min {o : Oper} {a : Act} {vals : Array Value} {args : Array Operand} {argTypes : Array TypeId} {kk : IntKind} {n : Int} (hS : Sat I ρ M w) (ho : o.op = .call { callee := .builtin .min, args := args, argTypes := argTypes }) (hv : args.map a.eval = vals)
    (hr : (Builtin.min_ argTypes o.type vals).run P w = .ok (.int kk n) w) : Leads P o a k I ρ M w (.w (.one (.d (.int kk n)))) M := by
  obtain ⟨consts, he⟩ := builtin_run (a := a) ho hv
  exact .pure hS (u := .int kk n) (by rw [he]; simp only [builtin, Sem.run_bind, hr, Result.andThen_ok, Sem.run_pure]) rfl

theorem core_max {o : Oper} {a : Act} {vals : Array Value} {args : Array Operand} {argTypes : Array TypeId} {kk : IntKind} {n : Int} (hS : Sat I ρ M w) (ho : o.op = .call { callee := .builtin .max, args := args, argTypes := argTypes }) (hv : args.map a.eval = vals)
    (hr : (Builtin.max_ argTypes o.type vals).run P w = .ok (.int kk n) w) : Leads P o a k I ρ M w (.w (.one (.d (.int kk n)))) M := by
  obtain ⟨consts, he⟩ := builtin_run (a := a) ho hv
  exact .pure hS (u := .int kk n) (by rw [he]; simp only [builtin, Sem.run_bind, hr, Result.andThen_ok, Sem.run_pure]) rfl

end
end Sh
end Go.Proofs.YtamdjlpobonmiaaDoor
