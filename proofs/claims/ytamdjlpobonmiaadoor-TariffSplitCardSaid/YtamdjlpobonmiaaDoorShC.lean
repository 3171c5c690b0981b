/- What the model does to memory at a new block and at a store, as steps of the relation. -/
import Derived.Test.YtamdjlpobonmiaaDoorShB
namespace Go.Proofs.YtamdjlpobonmiaaDoor
namespace Sh
open Go.RowKit

section
variable {P : Program} {k : Nat} {I I' I'' : Addr → Prop} {ρ ρ' ρ'' : List (Option Nat)} {M M' M'' : List B} {w w' w'' : World}

theorem hOld (w : World) (o : Obj) (i : Nat) (h : i < w.heap.size) : (w.alloc o).heap[i]? = w.heap[i]? := Below.heap_alloc w o i h
theorem hNew (w : World) (o : Obj) : (w.alloc o).heap[w.heap.size]? = some o := by
  show (w.heap.push o)[w.heap.size]? = some o
  rw [Array.getElem?_push, if_pos rfl]
theorem cOld (w : World) (o : Obj) {a : Addr} (h : a.block < w.heap.size) : (w.alloc o).cell? a = w.cell? a := World.cell?_of_block (Below.heap_alloc w o a.block h)

theorem DR.one : ∀ {x : D} {v : Value}, DR w I x v → v.oneCell' = true
  | .int _ _, _, h => by rw [show _ = _ from h]; rfl
  | .bool _, _, h => by rw [show _ = _ from h]; rfl
  | .str _, _, h => by rw [show _ = _ from h]; rfl
  | .nil, _, h => by rw [show _ = _ from h]; rfl
  | .slc _ _ _, _, ⟨A, cap, h, _⟩ => by rw [h]; rfl
theorem CR.one {c : C} {v : Value} (h : CR w I ρ M c v) : v.oneCell' = true := by
  cases c with
  | d x => exact DR.one h
  | own r n e g => exact DR.one (x := .slc n e g) h.1
  | ptr b o => obtain ⟨_, _, _, _, h⟩ := h; rw [h]; rfl
  | ref sz g => obtain ⟨_, h, _⟩ := h; rw [h]; rfl
  | fn f fs cs => obtain ⟨_, _, h, _⟩ := h; rw [h]; rfl
  | unk => exact h
theorem cells_of_one {v : Value} (h : v.oneCell' = true) : v.cells = #[v] := by cases v <;> first | rfl | cases h
theorem UR.cells : ∀ {u : U} {v : Value}, UR w I ρ M u v → F2 (CR w I ρ M) (ucells u) v.cells.toList
  | .one c, v, h => by rw [cells_of_one (CR.one h)]; exact ⟨h, trivial⟩
  | .agg cs, v, ⟨arr, hv, h⟩ => by rw [hv]; exact h

theorem heap_of_var {r : Nat} {cs : List C} {rb : Nat} (hS : Sat I ρ M w) (h : M[r]? = some (.var cs)) (h2 : ρ[r]? = some (some rb)) :
    ∃ arr T, w.heap[rb]? = some (.cells arr T (0, 0)) ∧ F2 (CR w I ρ M) cs arr.toList ∧ ∀ a, I a → a.block ≠ rb := by
  obtain ⟨rb', arr, T, h3, h4⟩ := hS.var r cs h
  rw [h2] at h3
  obtain rfl : rb = rb' := by simpa using h3
  exact ⟨arr, T, h4⟩

theorem Sat.lt (hS : Sat I ρ M w) {r rb : Nat} (h : ρ[r]? = some (some rb)) : rb < w.heap.size := by
  have hr : r < M.length := by rw [← hS.len]; exact lt_of_getElem? h
  obtain ⟨b, hb⟩ : ∃ b, M[r]? = some b := ⟨_, List.getElem?_eq_getElem hr⟩
  cases b with
  | var cs => obtain ⟨arr, T, h1, _⟩ := heap_of_var hS hb h; exact (Array.getElem?_eq_some_iff.1 h1).1
  | tick n e => obtain ⟨⟨arr, T, h1⟩, _⟩ := hS.tick r n e rb hb h; exact (Array.getElem?_eq_some_iff.1 h1).1
  | gone => have := hS.gone r hb; rw [this] at h; cases h

theorem Sat.immLt (hS : Sat I ρ M w) {a : Addr} (h : I a) : a.block < w.heap.size := by
  obtain ⟨u, hu⟩ := hS.imm a h
  exact World.block_lt_of_cell? w a hu

/-- A new block: what held of cells holds still. -/
theorem alloc_cr {s : Nat} {X : B} {arr : Array Value} {T : TypeId} (hS : Sat I ρ M w) (hI : ∀ a, I a → I' a)
    (hs : M[s]? = some .gone ∨ ∃ m e m' e', M[s]? = some (.tick m e) ∧ X = .tick m' e' ∧ m < m') :
    ∀ c v, CR w I ρ M c v → CR (w.alloc (.cells arr T)) I' (ρ.set s (some w.heap.size)) (M.set s X) c v := by
  have hlt : s < M.length := by rcases hs with h | ⟨_, _, _, _, h, _⟩ <;> exact lt_of_getElem? h
  intro c v
  refine CR.step hI (fun a ha => cOld _ _ (hS.immLt ha)) (fun b cs rb h1 h2 => ?_) (fun r m e h => ?_)
  · have hne : s ≠ b := by
      rintro rfl
      rcases hs with h | ⟨_, _, _, _, h, _⟩ <;> rw [h1] at h <;> cases h
    exact ⟨⟨cs, by rw [List.getElem?_set_ne hne]; exact h1⟩, by rw [List.getElem?_set_ne hne]; exact h2⟩
  · by_cases hne : s = r
    · subst hne
      rcases hs with h0 | ⟨m0, e0, m', e', h0, hX, hm⟩
      · rw [h] at h0; cases h0
      · rw [h] at h0
        cases h0
        exact ⟨m', e', by rw [List.getElem?_set]; simp [hlt, hX], Nat.le_of_lt hm, fun h => by omega⟩
    · refine ⟨m, e, by rw [List.getElem?_set_ne hne]; exact h, Nat.le_refl _, fun _ rb arr' T' h1 h2 => ⟨by rw [List.getElem?_set_ne hne]; exact h1, arr', ?_, rfl⟩⟩
      rw [hOld w _ rb (Array.getElem?_eq_some_iff.1 h2).1]; exact h2

theorem alloc_ext {s : Nat} {X : B} {arr : Array Value} {T : TypeId} (hS : Sat I ρ M w) (hI : ∀ a, I a → I' a) (hI' : ∀ a, I' a → I a ∨ a.block = w.heap.size)
    (hs : M[s]? = some .gone ∨ ∃ m e m' e', M[s]? = some (.tick m e) ∧ X = .tick m' e' ∧ m < m') :
    Ext k I ρ M w I' (ρ.set s (some w.heap.size)) (M.set s X) (w.alloc (.cells arr T)) where
  os := rfl
  tape := rfl
  output := rfl
  size := by simp
  imm := hI
  keep a ha := cOld _ _ (hS.immLt ha)
  frame b hb _ := hOld w _ b hb
  inew a ha := by
    rcases hI' a ha with h | h
    · exact .inl h
    · exact .inr (.inl (by omega))
  img r b h := by
    rcases getElem?_set_of h with ⟨_, h1, _⟩ | ⟨_, h1⟩
    · simp at h1; exact .inl (by omega)
    · exact .inr ⟨r, h1⟩
  cr c v _ := alloc_cr hS hI hs c v

/-- The relation behind a new block, but for what is in the place itself. -/
theorem alloc_sat {s : Nat} {X : B} {arr : Array Value} {T : TypeId} (hS : Sat I ρ M w) (hI : ∀ a, I a → I' a) (hI' : ∀ a, I' a → I a ∨ (a.block = w.heap.size ∧ a.spot = none ∧ a.off < arr.size))
    (hs : M[s]? = some .gone ∨ ∃ m e m' e', M[s]? = some (.tick m e) ∧ X = .tick m' e' ∧ m < m')
    (hX : (∃ cs, X = .var cs ∧ F2 (CR w I ρ M) cs arr.toList ∧ ∀ a, I' a → I a) ∨ ∃ n e, X = .tick n e ∧ ∀ a, I' a → a.block = w.heap.size → a.off < n * e) :
    Sat I' (ρ.set s (some w.heap.size)) (M.set s X) (w.alloc (.cells arr T)) where
  len := by simp [hS.len]
  var r cs h := by
    rcases getElem?_set_of h with ⟨rfl, h1, h2⟩ | ⟨hne, h1⟩
    · rcases hX with ⟨cs', h3, h4, h5⟩ | ⟨n, e, h3, _⟩
      · rw [h3] at h1; cases h1
        refine ⟨w.heap.size, arr, T, by rw [List.getElem?_set]; simp [hS.len, h2], hNew _ _, F2.mono (alloc_cr hS hI hs) h4, fun a ha => ?_⟩
        have := hS.immLt (h5 a ha); omega
      · rw [h3] at h1; cases h1
    · obtain ⟨rb, arr', T', h2, h3, h4, h5⟩ := hS.var r cs h1
      refine ⟨rb, arr', T', by rw [List.getElem?_set_ne hne]; exact h2, ?_, F2.mono (alloc_cr hS hI hs) h4, fun a ha => ?_⟩
      · rw [hOld w _ rb (hS.lt h2)]; exact h3
      · rcases hI' a ha with h | ⟨h, _⟩
        · exact h5 a h
        · have := hS.lt h2; omega
  tick r n e rb h1 h2 := by
    rcases getElem?_set_of h1 with ⟨rfl, h3, h4⟩ | ⟨hne, h3⟩
    · rw [List.getElem?_set] at h2
      simp [hS.len, h4] at h2
      subst h2
      refine ⟨⟨arr, T, hNew _ _⟩, fun a ha hb => ?_⟩
      rcases hX with ⟨cs', h5, _⟩ | ⟨n', e', h5, h6⟩
      · rw [h5] at h3; cases h3
      · rw [h5] at h3; cases h3; exact h6 a ha hb
    · rw [List.getElem?_set_ne hne] at h2
      obtain ⟨⟨arr', T', h4⟩, h5⟩ := hS.tick r n e rb h3 h2
      refine ⟨⟨arr', T', by rw [hOld w _ rb (hS.lt h2)]; exact h4⟩, fun a ha hb => ?_⟩
      rcases hI' a ha with h | ⟨h, _⟩
      · exact h5 a h hb
      · have := hS.lt h2; omega
  gone r h := by
    rcases getElem?_set_of h with ⟨rfl, h1, _⟩ | ⟨hne, h1⟩
    · rcases hX with ⟨cs', h5, _⟩ | ⟨n', e', h5, _⟩ <;> rw [h5] at h1 <;> cases h1
    · rw [List.getElem?_set_ne hne]; exact hS.gone r h1
  inj r r' rb h1 h2 := by
    rcases getElem?_set_of h1 with ⟨rfl, h3, _⟩ | ⟨hne, h3⟩ <;> rcases getElem?_set_of h2 with ⟨rfl, h4, _⟩ | ⟨hne', h4⟩
    · rfl
    · simp at h3; have := hS.lt h4; omega
    · simp at h4; have := hS.lt h3; omega
    · exact hS.inj r r' rb h3 h4
  imm a ha := by
    rcases hI' a ha with h | ⟨h1, h2, h3⟩
    · obtain ⟨u, hu⟩ := hS.imm a h
      exact ⟨u, by rw [cOld _ _ (hS.immLt h)]; exact hu⟩
    · obtain ⟨b, o, sp⟩ := a
      simp only at h1 h2 h3; subst h1; subst h2
      exact ⟨arr[o], by simp [h3]⟩
  glob := hS.glob.step hI (fun a ha => cOld _ _ (hS.immLt ha)) (fun b arr' T' f h => ⟨arr', by rw [hOld w _ b (Array.getElem?_eq_some_iff.1 h).1]; exact h, rfl⟩)

/-- A variable of our own. -/
theorem allocVar {s : Nat} {cs : List C} {arr : Array Value} {T : TypeId} (hS : Sat I ρ M w) (hs : M[s]? = some .gone) (hf : F2 (CR w I ρ M) cs arr.toList) :
    Sat I (ρ.set s (some w.heap.size)) (M.set s (.var cs)) (w.alloc (.cells arr T)) ∧ Ext k I ρ M w I (ρ.set s (some w.heap.size)) (M.set s (.var cs)) (w.alloc (.cells arr T)) ∧
      CR (w.alloc (.cells arr T)) I (ρ.set s (some w.heap.size)) (M.set s (.var cs)) (.ptr s 0) (.pointer (some ⟨w.heap.size, 0, none⟩)) := by
  have hlt := lt_of_getElem? hs
  refine ⟨alloc_sat hS (fun _ h => h) (fun _ h => .inl h) (.inl hs) (.inl ⟨cs, rfl, hf, fun _ h => h⟩), alloc_ext hS (fun _ h => h) (fun _ h => .inl h) (.inl hs), ?_⟩
  exact ⟨w.heap.size, cs, by rw [List.getElem?_set]; simp [hlt], by rw [List.getElem?_set]; simp [hS.len, hlt], rfl⟩

/-- A row of our own in a new block. -/
theorem allocRow {s n e cap : Nat} {g : Nat → Nat → D} {arr : Array Value} {T : TypeId} (hS : Sat I ρ M w)
    (hs : M[s]? = some .gone ∨ ∃ m e', M[s]? = some (.tick m e') ∧ m < n) (he : 0 < e) (hn : n ≤ cap) (hsz : arr.size = cap * e)
    (hd : ∀ i, i < n → ∀ j, j < e → ∃ u, arr[i * e + j]? = some u ∧ DR w I (g i j) u) :
    ∃ I', Sat I' (ρ.set s (some w.heap.size)) (M.set s (.tick n e)) (w.alloc (.cells arr T)) ∧ Ext k I ρ M w I' (ρ.set s (some w.heap.size)) (M.set s (.tick n e)) (w.alloc (.cells arr T)) ∧
      CR (w.alloc (.cells arr T)) I' (ρ.set s (some w.heap.size)) (M.set s (.tick n e)) (.own s n e g) (.slice (some ⟨w.heap.size, 0, none⟩) n cap) := by
  have hlt : s < M.length := by rcases hs with h | ⟨_, _, h, _⟩ <;> exact lt_of_getElem? h
  have hs' : M[s]? = some .gone ∨ ∃ m e0 m' e', M[s]? = some (.tick m e0) ∧ B.tick n e = .tick m' e' ∧ m < m' := by
    rcases hs with h | ⟨m, e', h, hm⟩
    · exact .inl h
    · exact .inr ⟨m, e', n, e, h, rfl, hm⟩
  have hne : n * e ≤ arr.size := by rw [hsz]; exact Nat.mul_le_mul_right e hn
  refine ⟨fun a => I a ∨ (a.block = w.heap.size ∧ a.spot = none ∧ a.off < n * e), ?_, ?_, ?_⟩
  · refine alloc_sat hS (fun _ h => .inl h) (fun a h => h.imp id fun h => ⟨h.1, h.2.1, by omega⟩) hs' (.inr ⟨n, e, rfl, fun a ha hb => ?_⟩)
    rcases ha with h | h
    · have := hS.immLt h; omega
    · exact h.2.2
  · exact alloc_ext hS (fun _ h => .inl h) (fun a h => h.imp id fun h => h.1) hs'
  · have hcell : ∀ i, i < n → ∀ j, j < e → i * e + j < n * e := fun i hi j hj => by
      have : (i + 1) * e ≤ n * e := Nat.mul_le_mul_right e hi
      rw [Nat.add_mul] at this; omega
    refine ⟨⟨some ⟨w.heap.size, 0, none⟩, cap, rfl, hn, fun i hi j hj => ?_⟩, n, e, by rw [List.getElem?_set]; simp [hlt], Nat.le_refl _, fun _ => ⟨_, cap, rfl, .inr ⟨w.heap.size, arr, T, rfl, by rw [List.getElem?_set]; simp [hS.len, hlt], hNew _ _, hsz⟩⟩⟩
    obtain ⟨u, hu, hd⟩ := hd i hi j hj
    have hadd : Addr.add ⟨w.heap.size, 0, none⟩ (i * e + j) = ⟨w.heap.size, i * e + j, none⟩ := by simp [Addr.add_lit]
    refine ⟨_, u, rfl, ?_, ?_, DR.mono (fun _ h => .inl h) (fun a ha => cOld _ _ (hS.immLt ha)) _ hd⟩
    · rw [hadd]; exact .inr ⟨rfl, rfl, hcell i hi j hj⟩
    · rw [hadd]; simp [hu]

end
end Sh
end Go.Proofs.YtamdjlpobonmiaaDoor
