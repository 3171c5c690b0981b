/- Loads and stores. -/
import Derived.Test.YtamdjlpobonmiaaDoorShC
namespace Go.Proofs.YtamdjlpobonmiaaDoor
namespace Sh
open Go.RowKit

section
variable {P : Program} {k : Nat} {I I' I'' : Addr → Prop} {ρ ρ' ρ'' : List (Option Nat)} {M M' M'' : List B} {w w' w'' : World}

theorem F2.setAt {α β : Type} {R : α → β → Prop} {xs : List α} {ys : List β} {us : List α} {vs : List β} (n : Nat) (h : F2 R xs ys) (h' : F2 R us vs) : F2 R (setAt xs n us) (setAt ys n vs) := by
  unfold Sh.setAt
  rw [F2.length h']
  exact F2.append (F2.append (F2.take n h) h') (F2.drop _ h)

theorem setAt_length {α : Type} (xs : List α) (n : Nat) (us : List α) (h : n + us.length ≤ xs.length) : (setAt xs n us).length = xs.length := by
  unfold Sh.setAt
  simp
  omega

theorem setAt_get_lt {α : Type} (xs : List α) (n : Nat) (us : List α) (j : Nat) (h : j < n) (hn : n ≤ xs.length) : (setAt xs n us)[j]? = xs[j]? := by
  unfold Sh.setAt
  rw [List.append_assoc, List.getElem?_append_left (by simp; omega), List.getElem?_take_of_lt h]

theorem setAt_get_in {α : Type} (xs : List α) (n : Nat) (us : List α) (j : Nat) (hj : j < us.length) (hn : n ≤ xs.length) : (setAt xs n us)[n + j]? = us[j]? := by
  unfold Sh.setAt
  have hl : (xs.take n).length = n := by simp; omega
  rw [List.append_assoc, List.getElem?_append_right (by omega), hl, List.getElem?_append_left (by omega)]
  congr 1
  omega

theorem add_lit (b o n : Nat) : Addr.add ⟨b, o, none⟩ n = ⟨b, o + n, none⟩ := by simp [Addr.add_lit]

theorem set_setAt {α : Type} (xs : List α) (n : Nat) (u : α) (us : List α) (h : n < xs.length) : setAt (xs.set n u) (n + 1) us = setAt xs n (u :: us) := by
  unfold Sh.setAt
  have h1 : (xs.set n u).take (n + 1) = xs.take n ++ [u] := by
    rw [List.take_succ_eq_append_getElem (by simpa using h), List.take_set_of_le (Nat.le_refl n)]
    simp
  rw [h1, List.drop_set_of_lt (by omega)]
  simp
  congr 1
  omega

theorem run_storeCells (P : Program) (rb off : Nat) (T : TypeId) : ∀ (vs : List Value) (arr : Array Value) (i : Nat) (w : World), w.heap[rb]? = some (.cells arr T (0, 0)) → off + i + vs.length ≤ arr.size → (∀ v ∈ vs, v.oneCell' = true) →
    ∃ w1 arr1, (storeCells ⟨rb, off, none⟩ vs i).run P w = .ok () w1 ∧ w1.heap[rb]? = some (.cells arr1 T (0, 0)) ∧ arr1.toList = setAt arr.toList (off + i) vs ∧ (∀ b, b ≠ rb → w1.heap[b]? = w.heap[b]?) ∧
      w1.heap.size = w.heap.size ∧ w1.os = w.os ∧ w1.tape = w.tape ∧ w1.output = w.output := by
  intro vs
  induction vs with
  | nil => intro arr i w h _ _; exact ⟨w, arr, rfl, h, by simp [setAt], fun _ _ => rfl, rfl, rfl, rfl, rfl⟩
  | cons v vs ih =>
    intro arr i w h hl ho
    have hv := ho v (by simp)
    have hc : w.cell? ⟨rb, off + i, none⟩ = some (arr[off + i]'(by simp at hl; omega)) := by
      rw [cell_of_row w rb (off + i) arr T (0, 0) h]
      simp at hl
      exact Array.getElem?_eq_getElem (by omega)
    have hfz : w.frozen? ⟨rb, off + i, none⟩ = false := frozen_of_row w rb (off + i) arr T h
    have h1 := heap_setCell_same w rb (off + i) arr T v h
    obtain ⟨w1, arr1, r1, r2, r3, r4, r5, r6, r7, r8⟩ := ih (arr.setIfInBounds (off + i) v) (i + 1) (w.setCell ⟨rb, off + i, none⟩ v) h1 (by simp at hl ⊢; omega) (fun u hu => ho u (by simp [hu]))
    refine ⟨w1, arr1, ?_, r2, ?_, fun b hb => (r4 b hb).trans (heap_setCell_other w _ b v hb), r5.trans (by simp), r6, r7, r8⟩
    · simp only [storeCells, Sem.run_bind, add_lit]
      rw [run_store P w _ v _ hv, hc]
      simp only [hfz, Bool.false_eq_true, if_false, Result.andThen_ok]
      exact r1
    · rw [r3, Array.toList_setIfInBounds, ← Nat.add_assoc, set_setAt _ _ _ _ (by simp at hl ⊢; omega)]

/-- A block of our own is written. -/
theorem write_cr {s rb : Nat} {X : B} {arr arr1 : Array Value} {T : TypeId} (hS : Sat I ρ M w) (hI : ∀ a, I a → I' a) (hρ : ρ[s]? = some (some rb)) (hh : w.heap[rb]? = some (.cells arr T (0, 0))) (hh1 : w'.heap[rb]? = some (.cells arr1 T (0, 0)))
    (hsz : arr1.size = arr.size) (ho : ∀ b, b ≠ rb → w'.heap[b]? = w.heap[b]?) (hk : ∀ a, I a → w'.cell? a = w.cell? a)
    (hs : (∃ cs cs', M[s]? = some (.var cs) ∧ X = .var cs') ∨ ∃ m e m' e', M[s]? = some (.tick m e) ∧ X = .tick m' e' ∧ m ≤ m') :
    ∀ c v, CR w I ρ M c v → CR w' I' ρ (M.set s X) c v := by
  have hlt : s < M.length := by rw [← hS.len]; exact lt_of_getElem? hρ
  intro c v
  refine CR.step hI hk (fun b cs rb' h1 h2 => ⟨?_, h2⟩) (fun r m e h => ?_)
  · by_cases hne : s = b
    · subst hne
      rcases hs with ⟨_, cs', _, hX⟩ | ⟨_, _, _, _, h3, _⟩
      · exact ⟨cs', by rw [List.getElem?_set]; simp [hlt, hX]⟩
      · rw [h1] at h3; cases h3
    · exact ⟨cs, by rw [List.getElem?_set_ne hne]; exact h1⟩
  · by_cases hne : s = r
    · subst hne
      rcases hs with ⟨_, cs', h3, hX⟩ | ⟨m0, e0, m', e', h3, hX, hm⟩
      · rw [h] at h3; cases h3
      · rw [h] at h3; cases h3
        refine ⟨m', e', by rw [List.getElem?_set]; simp [hlt, hX], hm, fun _ rb' arr' T' h4 h5 => ⟨h4, ?_⟩⟩
        rw [hρ] at h4; simp at h4; subst h4
        rw [hh] at h5; cases h5
        exact ⟨arr1, hh1, hsz⟩
    · refine ⟨m, e, by rw [List.getElem?_set_ne hne]; exact h, Nat.le_refl _, fun _ rb' arr' T' h4 h5 => ⟨h4, arr', ?_, rfl⟩⟩
      have : rb' ≠ rb := by rintro rfl; exact hne (hS.inj _ _ _ hρ h4)
      rw [ho _ this]; exact h5

theorem write_sat {s rb : Nat} {X : B} {arr arr1 : Array Value} {T : TypeId} (hS : Sat I ρ M w) (hI : ∀ a, I a → I' a) (hI' : ∀ a, I' a → I a ∨ (a.block = rb ∧ a.spot = none ∧ a.off < arr.size))
    (hρ : ρ[s]? = some (some rb)) (hh : w.heap[rb]? = some (.cells arr T (0, 0))) (hh1 : w'.heap[rb]? = some (.cells arr1 T (0, 0)))
    (hsz : arr1.size = arr.size) (ho : ∀ b, b ≠ rb → w'.heap[b]? = w.heap[b]?) (hk : ∀ a, I a → w'.cell? a = w.cell? a)
    (hs : (∃ cs cs', M[s]? = some (.var cs) ∧ X = .var cs' ∧ F2 (CR w I ρ M) cs' arr1.toList ∧ ∀ a, I' a → I a) ∨ ∃ m e m' e', M[s]? = some (.tick m e) ∧ X = .tick m' e' ∧ m ≤ m' ∧ ∀ a, I' a → a.block = rb → a.off < m' * e') :
    Sat I' ρ (M.set s X) w' := by
  have hs' : (∃ cs cs', M[s]? = some (.var cs) ∧ X = .var cs') ∨ ∃ m e m' e', M[s]? = some (.tick m e) ∧ X = .tick m' e' ∧ m ≤ m' := by
    rcases hs with ⟨a, b, c, d, _⟩ | ⟨a, b, c, d, e, f, g, _⟩
    · exact .inl ⟨a, b, c, d⟩
    · exact .inr ⟨a, b, c, d, e, f, g⟩
  have hcr := write_cr (w' := w') hS hI hρ hh hh1 hsz ho hk hs'
  refine ⟨by simp [hS.len], fun r cs h => ?_, fun r n e rb' h h2 => ?_, fun r h => ?_, hS.inj, fun a ha => ?_, hS.glob.step hI hk (fun b arr' T' f h => ?_)⟩
  · rcases getElem?_set_of h with ⟨rfl, h1, h2⟩ | ⟨hne, h1⟩
    · rcases hs with ⟨cs0, cs', h3, h4, h5, h6⟩ | ⟨_, _, _, _, _, h4, _⟩
      · rw [h4] at h1; cases h1
        obtain ⟨arr', T', h7, h8, h9⟩ := heap_of_var hS h3 hρ
        exact ⟨rb, arr1, T, hρ, hh1, F2.mono hcr h5, fun a ha => h9 a (h6 a ha)⟩
      · rw [h4] at h1; cases h1
    · obtain ⟨rb', arr', T', h2, h3, h4, h5⟩ := hS.var r cs h1
      have hne' : rb' ≠ rb := by rintro rfl; exact hne (hS.inj _ _ _ hρ h2)
      refine ⟨rb', arr', T', h2, by rw [ho _ hne']; exact h3, F2.mono hcr h4, fun a ha => ?_⟩
      rcases hI' a ha with h6 | ⟨h6, _⟩
      · exact h5 a h6
      · rw [h6]; exact fun e => hne' e.symm
  · rcases getElem?_set_of h with ⟨rfl, h1, h3⟩ | ⟨hne, h1⟩
    · rcases hs with ⟨_, _, _, h4, _⟩ | ⟨m, e0, m', e', h3, h4, h5, h6⟩
      · rw [h4] at h1; cases h1
      · rw [h4] at h1; cases h1
        rw [hρ] at h2; simp at h2; subst h2
        exact ⟨⟨arr1, T, hh1⟩, h6⟩
    · obtain ⟨⟨arr', T', h3⟩, h4⟩ := hS.tick r n e rb' h1 h2
      have hne' : rb' ≠ rb := by rintro rfl; exact hne (hS.inj _ _ _ hρ h2)
      refine ⟨⟨arr', T', by rw [ho _ hne']; exact h3⟩, fun a ha hb => ?_⟩
      rcases hI' a ha with h6 | ⟨h6, _⟩
      · exact h4 a h6 hb
      · exact absurd (hb.symm.trans h6) hne'
  · rcases getElem?_set_of h with ⟨rfl, h1, h3⟩ | ⟨hne, h1⟩
    · rcases hs with ⟨_, _, _, h4, _⟩ | ⟨m, e0, m', e', h3, h4, _⟩ <;> rw [h4] at h1 <;> cases h1
    · exact hS.gone r h1
  · rcases hI' a ha with h1 | ⟨h1, h2, h3⟩
    · rw [hk a h1]; exact hS.imm a h1
    · obtain ⟨b, o, sp⟩ := a
      simp only at h1 h2 h3; subst h1; subst h2
      refine ⟨arr1[o]'(by omega), ?_⟩
      rw [cell_of_row w' b o arr1 T (0, 0) hh1]
      exact Array.getElem?_eq_getElem (by omega)
  · by_cases hb : b = rb
    · subst hb
      rw [hh] at h
      cases h
      exact ⟨arr1, hh1, hsz⟩
    · exact ⟨arr', by rw [ho b hb]; exact h, rfl⟩

theorem write_ext {s rb : Nat} {X : B} {arr arr1 : Array Value} {T : TypeId} (hS : Sat I ρ M w) (hI : ∀ a, I a → I' a) (hI' : ∀ a, I' a → I a ∨ a.block = rb)
    (hρ : ρ[s]? = some (some rb)) (hh : w.heap[rb]? = some (.cells arr T (0, 0))) (hh1 : w'.heap[rb]? = some (.cells arr1 T (0, 0)))
    (hsz : arr1.size = arr.size) (ho : ∀ b, b ≠ rb → w'.heap[b]? = w.heap[b]?) (hk : ∀ a, I a → w'.cell? a = w.cell? a)
    (hs : (∃ cs cs', M[s]? = some (.var cs) ∧ X = .var cs') ∨ ∃ m e m' e', M[s]? = some (.tick m e) ∧ X = .tick m' e' ∧ m ≤ m')
    (hos : w'.os = w.os) (htp : w'.tape = w.tape) (hou : w'.output = w.output) (hsize : w'.heap.size = w.heap.size) :
    Ext k I ρ M w I' ρ (M.set s X) w' where
  os := hos
  tape := htp
  output := hou
  size := by omega
  imm := hI
  keep := hk
  frame b _ hn := ho b (by rintro rfl; exact hn s hρ)
  inew a ha := by
    rcases hI' a ha with h | h
    · exact .inl h
    · exact .inr (.inr ⟨s, by rw [h]; exact hρ⟩)
  img r b h := .inr ⟨r, h⟩
  cr c v _ := write_cr hS hI hρ hh hh1 hsz ho hk hs c v

theorem cell_other {rb : Nat} (ho : ∀ b, b ≠ rb → w'.heap[b]? = w.heap[b]?) {a : Addr} (h : a.block ≠ rb) : w'.cell? a = w.cell? a := World.cell?_of_block (ho _ h)

theorem kind_info {t : TypeId} {b : Bool} (h : kindOf P t = some b) : ∃ i, P.info? t = some i := by
  unfold kindOf Program.underlying at h
  cases hi : P.info? t with
  | none => simp [hi] at h
  | some i => exact ⟨i, rfl⟩

theorem run_typeInfo {t : TypeId} {i : TypeInfo} (h : P.info? t = some i) (w : World) : (typeInfo t).run P w = .ok i w := by simp [typeInfo, h]
theorem cellsOf_eq {t : TypeId} {i : TypeInfo} (h : P.info? t = some i) : P.cellsOf t = i.size := by simp [Program.cellsOf, h]
theorem run_sizeOf' {t : TypeId} {i : TypeInfo} (h : P.info? t = some i) (w : World) : (sizeOf t).run P w = .ok i.size w := by simp [sizeOf, run_typeInfo h]
theorem run_isAgg {t : TypeId} {b : Bool} (h : kindOf P t = some b) (w : World) : (isAgg t).run P w = .ok b w := by
  unfold kindOf at h
  cases hu : P.underlying t with
  | none => simp [hu] at h
  | some d =>
    simp only [isAgg, Sem.run_bind, run_underlying hu, Result.andThen_ok]
    cases d <;> simp [hu] at h <;> subst h <;> rfl

theorem run_loadVar_agg {t : TypeId} {a : Addr} (hk : kindOf P t = some true) (vs : List Value) (hl : vs.length = P.cellsOf t) (h : ∀ (j : Nat) v, vs[j]? = some v → w.cell? (a.add j) = some v) :
    (loadVar t a).run P w = .ok (.agg vs.toArray) w := by
  obtain ⟨i, hi⟩ := kind_info hk
  rw [cellsOf_eq hi] at hl
  simp only [loadVar, Sem.run_bind, run_isAgg hk, Result.andThen_ok, if_true, run_sizeOf' hi, ← hl, run_loadCells_list w a vs h, Sem.run_pure]

theorem run_loadVar_one {t : TypeId} {a : Addr} {v : Value} (hk : kindOf P t = some false) (h : w.cell? a = some v) : (loadVar t a).run P w = .ok v w := by
  simp only [loadVar, Sem.run_bind, run_isAgg hk, Result.andThen_ok, Bool.false_eq_true, if_false, run_load, h]

end
end Sh
end Go.Proofs.YtamdjlpobonmiaaDoor
