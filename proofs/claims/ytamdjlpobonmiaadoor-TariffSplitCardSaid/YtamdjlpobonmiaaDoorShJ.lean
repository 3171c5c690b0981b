/- All operations that are no calls of functions, together. -/
import Derived.Test.YtamdjlpobonmiaaDoorShI
namespace Go.Proofs.YtamdjlpobonmiaaDoor
namespace Sh
open Go.RowKit

section
variable {P : Program} {k : Nat} {I I' I'' : Addr → Prop} {ρ ρ' ρ'' : List (Option Nat)} {M M' M'' : List B} {w w' w'' : World}

theorem and3 {a b c : Bool} (h : (a && b && c) = true) : a = true ∧ b = true ∧ c = true := by simpa [Bool.and_eq_true, and_assoc] using h

theorem core_ok {o : Oper} {a : Act} {ts : List V} {slot : Nat} {out : Out} (hS : Sat I ρ M w) (hT : F2 (VR w I ρ M) ts a.tmps.toList)
    (h : core P o (opnd ts) (restrict M (foot o.op (opnd ts))) slot = some out) (hok : out.ok = true) (hg : ∀ j, j < out.al.length → M[slot + j]? = some .gone) :
    Leads P o a k I ρ M w out.v (setAll (upd M out.m) slot out.al) := by
  cases ho : o.op with
  | move x =>
    simp only [core, ho, foot, restrict] at h
    have hx := opnd_ok hT x
    split at h
    · rename_i he
      rw [he] at hx
      split at h
      · simp only [Option.some.injEq] at h; subst h
        exact core_nil hS (.inl ho) hx (hg 0 (by simp))
      · simp only [Option.some.injEq] at h; subst h
        exact core_move hS (.inl ho) hx
    · simp only [Option.some.injEq] at h; subst h
      exact core_move hS (.inl ho) hx
  | assign x =>
    simp only [core, ho, foot, restrict] at h
    have hx := opnd_ok hT x
    split at h
    · rename_i he
      rw [he] at hx
      split at h
      · simp only [Option.some.injEq] at h; subst h
        exact core_nil hS (.inr ho) hx (hg 0 (by simp))
      · simp only [Option.some.injEq] at h; subst h
        exact core_move hS (.inr ho) hx
    · simp only [Option.some.injEq] at h; subst h
      exact core_move hS (.inr ho) hx
  | pick c x y =>
    simp only [core, ho, foot, restrict] at h
    have hc := opnd_ok hT c
    have hx := opnd_ok hT x
    have hy := opnd_ok hT y
    split at h
    · rename_i b he
      rw [he] at hc
      split at h
      · rename_i p q h1 h2
        simp only [Option.some.injEq] at h; subst h
        rw [h1] at hx; rw [h2] at hy
        refine core_pick hS ho hc ?_
        cases b with
        | true => exact hx
        | false => exact hy
      · cases b with
        | true => simp only [cond_true, Option.some.injEq] at h; subst h; exact core_pick hS ho hc hx
        | false => simp only [cond_false, Option.some.injEq] at h; subst h; exact core_pick hS ho hc hy
    · cases h
  | alloc t =>
    simp only [core, ho, foot, restrict] at h
    split at h
    · rename_i cs hz
      simp only [Option.some.injEq] at h; subst h
      exact core_alloc hS ho hz hg
    · cases h
  | box t x =>
    simp only [core, ho, foot, restrict] at h
    have hx := opnd_ok hT x
    split at h
    · rename_i u he
      rw [he] at hx
      simp only [Option.some.injEq] at h; subst h
      exact core_box hS ho hx (hg 0 (by simp))
    · cases h
  | build t ps =>
    simp only [core, ho, foot, restrict] at h
    split at h
    · rename_i us hp
      split at h
      · rename_i cs hb
        simp only [Option.some.injEq] at h; subst h
        exact core_build hS hT ho hp hb hg
      · cases h
    · cases h
  | buildSlice t len ps =>
    simp only [core, ho, foot, restrict] at h
    split at h
    · rename_i e ht
      split at h
      · rename_i i z us hi hz hp
        cases hb : Nat.ble (len * i.size) 16777216 && Nat.beq z.length i.size && Nat.blt 0 i.size with
        | false => simp [hb] at h
        | true =>
          simp only [hb, cond_true] at h
          simp only [Bool.and_eq_true, Nat.ble_eq, Nat.beq_eq, Nat.blt_eq] at hb
          split at h
          · rename_i cs hf
            split at h
            · rename_i ds hd
              simp only [Option.some.injEq] at h; subst h
              exact core_buildSlice hS hT ho ht hi hz hp hb.1.1 hb.1.2 hb.2 hf hd (hg 0 (by simp))
            · cases h
          · cases h
      · cases h
    · cases h
  | load t x =>
    simp only [core, ho, foot] at h
    have hx := opnd_ok hT x
    split at h
    · rename_i b off he hk
      rw [he] at hx
      simp only [he] at h
      split at h
      · rename_i cs hl
        have hM := look_one hl (by simp)
        cases hb : Nat.ble (off + P.cellsOf t) cs.length with
        | false => simp [hb] at h
        | true =>
          simp only [hb, cond_true, Option.some.injEq] at h; subst h
          rw [Nat.ble_eq] at hb
          rw [upd_restrict]
          exact core_load_ptr_agg hS ho hx hk hM hb
      · cases h
    · rename_i b off he hk
      rw [he] at hx
      simp only [he] at h
      split at h
      · rename_i cs hl
        have hM := look_one hl (by simp)
        split at h
        · rename_i c hc
          simp only [Option.some.injEq] at h; subst h
          rw [upd_restrict]
          exact core_load_ptr_one hS ho hx hk hM hc
        · cases h
      · cases h
    · rename_i sz g he hk
      rw [he] at hx
      simp only [he] at h
      cases hb : Nat.ble (P.cellsOf t) sz with
      | false => simp [hb] at h
      | true =>
        simp only [hb, cond_true, Option.some.injEq] at h; subst h
        rw [Nat.ble_eq] at hb
        exact core_load_ref_agg hS ho hx hk hb
    · rename_i sz g he hk
      rw [he] at hx
      simp only [he] at h
      cases hb : Nat.blt 0 sz with
      | false => simp [hb] at h
      | true =>
        simp only [hb, cond_true, Option.some.injEq] at h; subst h
        rw [Nat.blt_eq] at hb
        exact core_load_ref_one hS ho hx hk hb
    · cases h
  | store t x y =>
    simp only [core, ho, foot] at h
    have hx := opnd_ok hT x
    have hy := opnd_ok hT y
    split at h
    · rename_i b off u he hu
      rw [he] at hx; rw [hu] at hy
      simp only [he] at h
      split at h
      · rename_i cs i hl hi
        have hM := look_one hl (by simp)
        cases hb : Nat.beq (ucells u).length i.size && Nat.ble (off + i.size) cs.length with
        | false => simp [hb] at h
        | true =>
          simp only [hb, cond_true, Option.some.injEq] at h; subst h
          simp only [Bool.and_eq_true, Nat.ble_eq, Nat.beq_eq] at hb
          simp only [upd_put_one]
          exact core_store hS ho hx hy hi hM hb.1 hb.2
      · cases h
    · cases h
  | nilCheck x =>
    simp only [core, ho, foot, restrict] at h
    have hx := opnd_ok hT x
    split at h
    · rename_i b off he
      rw [he] at hx
      simp only [Option.some.injEq] at h; subst h
      exact core_nilCheck hS ho hx (.inl ⟨b, off, rfl⟩)
    · rename_i f p q he
      rw [he] at hx
      simp only [Option.some.injEq] at h; subst h
      exact core_nilCheck hS ho hx (.inr (.inl ⟨f, p, q, rfl⟩))
    · rename_i sz g he
      rw [he] at hx
      simp only [Option.some.injEq] at h; subst h
      exact core_nilCheck hS ho hx (.inr (.inr ⟨sz, g, rfl⟩))
    · cases h
  | binOp op t x y yt =>
    simp only [core, ho, foot, restrict] at h
    split at h
    · rename_i ok v hb
      simp only [Option.some.injEq] at h; subst h
      simp only at hok; subst hok
      exact core_binOp hS hT ho hb
    · cases h
  | unOp op t x =>
    simp only [core, ho, foot, restrict] at h
    split at h
    · rename_i v hb
      simp only [Option.some.injEq] at h; subst h
      exact core_unOp hS hT ho hb
    · cases h
  | convert src dst x =>
    simp only [core, ho, foot, restrict] at h
    have hx := opnd_ok hT x
    split at h
    · rename_i d kk kd n h1 h2 he
      rw [he] at hx
      simp only [Option.some.injEq] at h; subst h
      exact core_convert_int hS ho h1 h2 hx
    · rename_i d s h1 h2 he
      rw [he] at hx
      simp only [Option.some.injEq] at h; subst h
      exact core_convert_str hS ho h1 h2 hx
    · rename_i te c h1 h2 he
      rw [he] at hx
      split at h
      · rename_i n e g hs h3
        simp only [Option.some.injEq] at h; subst h
        simp only [Bool.and_eq_true, Nat.blt_eq, Nat.beq_eq] at hok
        obtain ⟨⟨q1, q2⟩, q3⟩ := hok
        subst q2
        exact core_convert_bytes hS ho h1 h2 h3 (sliceC_ok hs hx) q1 q3
      · cases h
    · cases h
  | makeFunc fn fs cs =>
    cases fn with
    | func g =>
      simp only [core, ho, foot, restrict] at h
      split at h
      · rename_i p q h1 h2
        simp only [Option.some.injEq] at h; subst h
        exact core_makeFunc hS hT ho h1 h2
      · cases h
    | _ => simp [core, ho] at h
  | slice t x lo hi mx =>
    cases mx with
    | some m => simp [core, ho] at h
    | none =>
      simp only [core, ho, foot, restrict] at h
      have hx := opnd_ok hT x
      split at h
      · rename_i l hh s hl hh' he ht
        rw [he] at hx
        simp only [Option.some.injEq] at h; subst h
        obtain ⟨h1, h2, h3⟩ := and3 hok
        exact core_slice_str hS hT ho hx ht hl hh' (of_decide_eq_true h1) (of_decide_eq_true h2) (of_decide_eq_true h3)
      · rename_i l hh c te hl hh' he ht
        rw [he] at hx
        split at h
        · rename_i n e g q hs hq
          simp only [Option.some.injEq] at h; subst h
          simp only [Bool.and_eq_true, decide_eq_true_eq, Bool.or_eq_true, Nat.beq_eq] at hok
          obtain ⟨⟨⟨h1, h2⟩, h3⟩, h4⟩ := hok
          exact core_slice_slc hS hT ho (sliceC_ok hs hx) ht hq hl hh' h1 h2 h3 h4
        · cases h
      · rename_i l hh sz g len te hl hh' he ht
        rw [he] at hx
        split at h
        · rename_i q hq
          simp only [Option.some.injEq] at h; subst h
          simp only [Bool.and_eq_true, decide_eq_true_eq, Nat.ble_eq, Nat.blt_eq] at hok
          obtain ⟨⟨⟨h1, h2⟩, h3⟩, h4, h5⟩ := hok
          exact core_slice_refarr hS hT ho hx ht hq hl hh' h1 h2 h3 h4 h5
        · cases h
      · cases h
  | fieldAddr s x f =>
    simp only [core, ho, foot, restrict] at h
    have hx := opnd_ok hT x
    split at h
    · rename_i b off fo fs he hf
      rw [he] at hx
      cases hb : Nat.blt 0 fs with
      | false => simp [hb] at h
      | true =>
        simp only [hb, cond_true, Option.some.injEq] at h; subst h
        rw [Nat.blt_eq] at hb
        exact core_fieldAddr_ptr hS ho hx hf hb
    · rename_i sz g fo fs he hf
      rw [he] at hx
      cases hb : Nat.blt 0 fs && Nat.ble (fo + fs) sz with
      | false => simp [hb] at h
      | true =>
        simp only [hb, cond_true, Option.some.injEq] at h; subst h
        simp only [Bool.and_eq_true, Nat.ble_eq, Nat.blt_eq] at hb
        exact core_fieldAddr_ref hS ho hx hf hb.1 hb.2
    · cases h
  | field s x f =>
    simp only [core, ho, foot, restrict] at h
    have hx := opnd_ok hT x
    split at h
    · rename_i cs fo fs fields he hf hu
      rw [he] at hx
      split at h
      · rename_i hk
        cases hb : Nat.ble (fo + fs) cs.length with
        | false => simp [hb] at h
        | true =>
          simp only [hb, cond_true, Option.some.injEq] at h; subst h
          exact core_field_agg hS ho hx hf hu hk
      · rename_i hk
        split at h
        · rename_i c hc
          simp only [Option.some.injEq] at h; subst h
          exact core_field_one hS ho hx hf hu hk hc
        · cases h
      · cases h
    · cases h
  | indexAddr t x ix =>
    simp only [core, ho, foot, restrict] at h
    have hx := opnd_ok hT x
    have hix := opnd_ok hT ix
    split at h
    · rename_i b off kk i len e he hi ht
      rw [he] at hx; rw [hi] at hix
      split at h
      · rename_i q hq
        simp only [Option.some.injEq] at h; subst h
        simp only [Bool.and_eq_true, decide_eq_true_eq] at hok
        exact core_indexAddr_array hS ho hx hix ht hq hok.1 hok.2
      · cases h
    · rename_i c kk i te he hi ht
      rw [he] at hx; rw [hi] at hix
      split at h
      · rename_i n e g q hs hq
        simp only [Option.some.injEq] at h; subst h
        simp only [Bool.and_eq_true, decide_eq_true_eq, Nat.beq_eq, Nat.blt_eq] at hok
        exact core_indexAddr_slice hS ho (sliceC_ok hs hx) hix ht hq hok.1.1 hok.1.2 hok.2.1 hok.2.2
      · cases h
    · rename_i sz g kk i len e he hi ht
      rw [he] at hx; rw [hi] at hix
      split at h
      · rename_i q hq
        simp only [Option.some.injEq] at h; subst h
        simp only [Bool.and_eq_true, decide_eq_true_eq, Nat.ble_eq, Nat.blt_eq] at hok
        exact core_indexAddr_refarr hS ho hx hix ht hq hok.1.1 hok.1.2 hok.2.1 hok.2.2
      · cases h
    · cases h
  | index t x ix =>
    simp only [core, ho, foot, restrict] at h
    have hx := opnd_ok hT x
    have hix := opnd_ok hT ix
    split at h
    · rename_i s kk i he hi ht
      rw [he] at hx; rw [hi] at hix
      simp only [Option.some.injEq] at h; subst h
      simp only [Bool.and_eq_true, decide_eq_true_eq] at hok
      exact core_index_str hS ho hx hix ht hok.1 hok.2
    · rename_i cs kk i len e he hi ht
      rw [he] at hx; rw [hi] at hix
      split at h
      · rename_i q hq hk
        simp only [Option.some.injEq] at h; subst h
        simp only [Bool.and_eq_true, decide_eq_true_eq] at hok
        exact core_index_agg hS ho hx hix ht hq hk hok.1.1 hok.1.2
      · rename_i q hq hk
        split at h
        · rename_i c hc
          simp only [Option.some.injEq] at h; subst h
          simp only [Bool.and_eq_true, decide_eq_true_eq] at hok
          exact core_index_one hS ho hx hix ht hq hk hc hok.1 hok.2
        · cases h
      · cases h
    · cases h
  | extract x i =>
    simp only [core, ho, foot, restrict] at h
    have hx := opnd_ok hT x
    split at h
    · rename_i us he
      rw [he] at hx
      split at h
      · rename_i u hu
        simp only [Option.some.injEq] at h; subst h
        exact core_extract hS ho hx hu
      · cases h
    · cases h
  | call c =>
    obtain ⟨callee, args, argTypes⟩ := c
    cases callee with
    | value f => simp [core, ho] at h
    | invoke r m => simp [core, ho] at h
    | builtin b =>
      simp only [core, ho] at h
      split at h
      · rename_i x t h1 h2
        have hx := opnd_ok hT x
        split at h
        · rename_i v hl
          simp only [Option.some.injEq] at h; subst h
          rw [upd_restrict]
          exact core_len hS ho h1 h2 hx hl
        · cases h
      · rename_i x y h1
        have hx := opnd_ok hT x
        have hy := opnd_ok hT y
        split at h
        · rename_i kk p kk' q he1 he2
          rw [he1] at hx; rw [he2] at hy
          simp only [Option.some.injEq] at h; subst h
          rw [upd_restrict]
          have hx' : a.eval x = _ := hx
          have hy' : a.eval y = _ := hy
          have hv : args.map a.eval = #[.int kk p, .int kk' q] := by apply Array.ext'; simp [h1, hx', hy']
          exact core_min hS ho hv (run_min_int2 _ _ _ _ _ _ _)
        · cases h
      · rename_i x y h1
        have hx := opnd_ok hT x
        have hy := opnd_ok hT y
        split at h
        · rename_i kk p kk' q he1 he2
          rw [he1] at hx; rw [he2] at hy
          simp only [Option.some.injEq] at h; subst h
          rw [upd_restrict]
          have hx' : a.eval x = _ := hx
          have hy' : a.eval y = _ := hy
          have hv : args.map a.eval = #[.int kk p, .int kk' q] := by apply Array.ext'; simp [h1, hx', hy']
          exact core_max hS ho hv (run_max_int2 _ _ _ _ _ _ _)
        · cases h
      · rename_i x y z u h1
        have hx := opnd_ok hT x
        have hy := opnd_ok hT y
        have hz := opnd_ok hT z
        have hu := opnd_ok hT u
        split at h
        · rename_i k1 p k2 q k3 r k4 s he1 he2 he3 he4
          rw [he1] at hx; rw [he2] at hy; rw [he3] at hz; rw [he4] at hu
          simp only [Option.some.injEq] at h; subst h
          rw [upd_restrict]
          have hx' : a.eval x = _ := hx
          have hy' : a.eval y = _ := hy
          have hz' : a.eval z = _ := hz
          have hu' : a.eval u = _ := hu
          have hv : args.map a.eval = #[.int k1 p, .int k2 q, .int k3 r, .int k4 s] := by apply Array.ext'; simp [h1, hx', hy', hz', hu']
          exact core_min hS ho hv (by simp [Builtin.min_, Builtin.min2, List.foldlM])
        · cases h
      · rename_i x y z u h1
        have hx := opnd_ok hT x
        have hy := opnd_ok hT y
        have hz := opnd_ok hT z
        have hu := opnd_ok hT u
        split at h
        · rename_i k1 p k2 q k3 r k4 s he1 he2 he3 he4
          rw [he1] at hx; rw [he2] at hy; rw [he3] at hz; rw [he4] at hu
          simp only [Option.some.injEq] at h; subst h
          rw [upd_restrict]
          have hx' : a.eval x = _ := hx
          have hy' : a.eval y = _ := hy
          have hz' : a.eval z = _ := hz
          have hu' : a.eval u = _ := hu
          have hv : args.map a.eval = #[.int k1 p, .int k2 q, .int k3 r, .int k4 s] := by apply Array.ext'; simp [h1, hx', hy', hz', hu']
          exact core_max hS ho hv (by simp [Builtin.max_, Builtin.max2, List.foldlM])
        · cases h
      · rename_i x y t t' h1 h2
        have hx := opnd_ok hT x
        have hy := opnd_ok hT y
        split at h
        · rename_i r n e g c te te' he1 he2 ht ht'
          rw [he1] at hx; rw [he2] at hy
          simp only [foot, h1, he1] at h
          split at h
          · rename_i n' e' g' kt e'' i hs hl hi
            have hM := look_one hl (by simp)
            cases hb : Nat.beq e i.size && Nat.beq e e'' && (Nat.beq e e' || Nat.beq n' 0) && Nat.blt 0 e && Nat.beq ((zeroC P te).getD []).length e && Nat.beq te te' with
            | false => simp [hb] at h
            | true =>
              simp only [hb, cond_true, Option.some.injEq] at h; subst h
              simp only [Bool.and_eq_true, Bool.or_eq_true, Nat.beq_eq, Nat.blt_eq] at hb
              obtain ⟨⟨⟨⟨⟨b1, b2⟩, b3⟩, b4⟩, b5⟩, b6⟩ := hb
              subst b2; subst b6
              simp only [Bool.and_eq_true, Nat.beq_eq, Nat.ble_eq] at hok
              obtain ⟨o1, o2⟩ := hok
              subst o1
              obtain ⟨z, hz⟩ : ∃ z, zeroC P te = some z := by
                cases hz : zeroC P te with
                | some z => exact ⟨z, rfl⟩
                | none => simp [hz] at b5; omega
              rw [hz] at b5
              simp only [upd_put_one]
              have hdr : DR w I (.slc n' e g') (a.eval y) := by
                have := sliceC_ok hs hy
                rcases b3 with b3 | b3
                · rw [b3]; exact this
                · obtain ⟨A, cap, q1, q2, q3⟩ := this
                  exact ⟨A, cap, q1, q2, fun i hi => by omega⟩
              exact core_append hS ho (by apply Array.ext'; simpa using h1) (by apply Array.ext'; simpa using h2) hx hdr ht ht' hi hz (by simpa using b5) b1 b4 hM o2
          · cases h
        · cases h
      · cases h
  | _ => simp [core, ho] at h

end
end Sh
end Go.Proofs.YtamdjlpobonmiaaDoor
