/- The relation between shadow memory and the model's world, and the steps that keep it. -/
import Derived.Test.YtamdjlpobonmiaaDoorShX
namespace Go.Proofs.YtamdjlpobonmiaaDoor
namespace Sh

def F2 {α β : Type} (R : α → β → Prop) : List α → List β → Prop
  | [], [] => True
  | x :: xs, y :: ys => R x y ∧ F2 R xs ys
  | _, _ => False

section
variable {α β γ : Type} {R R' : α → β → Prop}
theorem F2.mono (h : ∀ x y, R x y → R' x y) : ∀ {xs : List α} {ys : List β}, F2 R xs ys → F2 R' xs ys
  | [], [], _ => trivial
  | _ :: _, _ :: _, ⟨a, b⟩ => ⟨h _ _ a, F2.mono h b⟩
theorem F2.mono_mem : ∀ {xs : List α} {ys : List β}, (∀ x ∈ xs, ∀ y, R x y → R' x y) → F2 R xs ys → F2 R' xs ys
  | [], [], _, _ => trivial
  | _ :: _, _ :: _, h, ⟨a, b⟩ => ⟨h _ (List.mem_cons_self ..) _ a, F2.mono_mem (fun x hx => h x (List.mem_cons_of_mem _ hx)) b⟩
theorem F2.length : ∀ {xs : List α} {ys : List β}, F2 R xs ys → xs.length = ys.length
  | [], [], _ => rfl
  | _ :: _, _ :: _, ⟨_, b⟩ => by simp [F2.length b]
theorem F2.get : ∀ {xs : List α} {ys : List β} {i : Nat} {x : α}, F2 R xs ys → xs[i]? = some x → ∃ y, ys[i]? = some y ∧ R x y
  | _ :: _, _ :: _, 0, _, ⟨a, _⟩, h => by simp at h; subst h; exact ⟨_, rfl, a⟩
  | _ :: _, _ :: _, i + 1, _, ⟨_, b⟩, h => by simp at h ⊢; exact F2.get b h
theorem F2.of_get : ∀ {xs : List α} {ys : List β}, xs.length = ys.length → (∀ (i : Nat) x y, xs[i]? = some x → ys[i]? = some y → R x y) → F2 R xs ys
  | [], [], _, _ => trivial
  | [], _ :: _, h, _ => by simp at h
  | _ :: _, [], h, _ => by simp at h
  | _ :: _, _ :: _, h, k => ⟨k 0 _ _ rfl rfl, F2.of_get (by simpa using h) fun i x y hx hy => k (i + 1) x y (by simpa using hx) (by simpa using hy)⟩
theorem F2.append : ∀ {xs : List α} {ys : List β} {xs' : List α} {ys' : List β}, F2 R xs ys → F2 R xs' ys' → F2 R (xs ++ xs') (ys ++ ys')
  | [], [], _, _, _, h => h
  | _ :: _, _ :: _, _, _, ⟨a, b⟩, h => ⟨a, F2.append b h⟩
theorem F2.take : ∀ {xs : List α} {ys : List β} (n : Nat), F2 R xs ys → F2 R (xs.take n) (ys.take n)
  | _, _, 0, _ => trivial
  | [], [], _ + 1, _ => trivial
  | _ :: _, _ :: _, n + 1, ⟨a, b⟩ => ⟨a, F2.take n b⟩
theorem F2.drop : ∀ {xs : List α} {ys : List β} (n : Nat), F2 R xs ys → F2 R (xs.drop n) (ys.drop n)
  | _, _, 0, h => h
  | [], [], _ + 1, _ => trivial
  | _ :: _, _ :: _, n + 1, ⟨_, b⟩ => F2.drop n b
theorem F2.set : ∀ {xs : List α} {ys : List β} (n : Nat) {x : α} {y : β}, F2 R xs ys → R x y → F2 R (xs.set n x) (ys.set n y)
  | [], [], _, _, _, _, _ => trivial
  | _ :: _, _ :: _, 0, _, _, ⟨_, b⟩, h => ⟨h, b⟩
  | _ :: _, _ :: _, n + 1, _, _, ⟨a, b⟩, h => ⟨a, F2.set n b h⟩
theorem F2.map {f : γ → α} {Q : γ → β → Prop} (h : ∀ x y, Q x y → R (f x) y) : ∀ {xs : List γ} {ys : List β}, F2 Q xs ys → F2 R (xs.map f) ys
  | [], [], _ => trivial
  | _ :: _, _ :: _, ⟨a, b⟩ => ⟨h _ _ a, F2.map h b⟩
theorem F2.map' {f : α → γ} {Q : γ → β → Prop} (h : ∀ x y, R x y → Q (f x) y) {xs : List α} {ys : List β} (H : F2 R xs ys) : F2 Q (xs.map f) ys := F2.map (Q := R) h H
theorem F2.self_map {f : β → α} (h : ∀ y, R (f y) y) : ∀ (ys : List β), F2 R (ys.map f) ys
  | [] => trivial
  | _ :: ys => ⟨h _, F2.self_map h ys⟩
theorem F2.replicate {x : α} {y : β} (h : R x y) : ∀ n, F2 R (List.replicate n x) (List.replicate n y)
  | 0 => trivial
  | n + 1 => ⟨h, F2.replicate h n⟩
theorem F2.nil_left {ys : List β} (h : F2 R [] ys) : ys = [] := by cases ys with | nil => rfl | cons _ _ => exact h.elim
theorem F2.cons_left {x : α} {xs : List α} {ys : List β} (h : F2 R (x :: xs) ys) : ∃ y zs, ys = y :: zs ∧ R x y ∧ F2 R xs zs := by
  cases ys with
  | nil => exact h.elim
  | cons y zs => exact ⟨y, zs, rfl, h.1, h.2⟩
end

def DR (w : World) (I : Addr → Prop) : D → Value → Prop
  | .int k n, v => v = .int k n
  | .bool b, v => v = .bool b
  | .str s, v => v = .string s
  | .nil, v => v = .slice none 0 0
  | .slc n e g, v => ∃ A cap, v = .slice A n cap ∧ n ≤ cap ∧ ∀ i, i < n → ∀ j, j < e → ∃ a u, A = some a ∧ I (a.add (i * e + j)) ∧ w.cell? (a.add (i * e + j)) = some u ∧ DR w I (g i j) u

theorem DR.mono {w w' : World} {I I' : Addr → Prop} (hi : ∀ a, I a → I' a) (hk : ∀ a, I a → w'.cell? a = w.cell? a) : ∀ (x : D) {v : Value}, DR w I x v → DR w' I' x v
  | .int _ _, _, h | .bool _, _, h | .str _, _, h | .nil, _, h => h
  | .slc n e g, v, ⟨A, cap, hv, hc, h⟩ => ⟨A, cap, hv, hc, fun i hi' j hj => by
      obtain ⟨a, u, ha, hI, hu, hd⟩ := h i hi' j hj
      exact ⟨a, u, ha, hi _ hI, (hk _ hI).trans hu, DR.mono hi hk (g i j) hd⟩⟩

def PtrR (ρ : List (Option Nat)) (M : List B) (p : Nat × Nat) (v : Value) : Prop :=
  ∃ rb cs, M[p.1]? = some (.var cs) ∧ ρ[p.1]? = some (some rb) ∧ v = .pointer (some ⟨rb, p.2, none⟩)

def Head (w : World) (ρ : List (Option Nat)) (r n e : Nat) (v : Value) : Prop :=
  ∃ A cap, v = .slice A n cap ∧ ((A = none ∧ n = 0 ∧ cap = 0) ∨ ∃ rb arr T, A = some ⟨rb, 0, none⟩ ∧ ρ[r]? = some (some rb) ∧ w.heap[rb]? = some (.cells arr T (0, 0)) ∧ arr.size = cap * e)

def CR (w : World) (I : Addr → Prop) (ρ : List (Option Nat)) (M : List B) : C → Value → Prop
  | .d x, v => DR w I x v
  | .own r n e g, v => DR w I (.slc n e g) v ∧ ∃ m e', M[r]? = some (.tick m e') ∧ n ≤ m ∧ (n = m → Head w ρ r n e v)
  | .ptr b o, v => PtrR ρ M (b, o) v
  | .ref sz g, v => ∃ a, v = .pointer (some a) ∧ ∀ j, j < sz → ∃ u, I (a.add j) ∧ w.cell? (a.add j) = some u ∧ DR w I (g j) u
  | .fn f fs cs, v => ∃ vf vc, v = .func (.func f) vf vc ∧ F2 (PtrR ρ M) fs vf.toList ∧ F2 (PtrR ρ M) cs vc.toList
  | .unk, v => v.oneCell' = true

def UR (w : World) (I : Addr → Prop) (ρ : List (Option Nat)) (M : List B) : U → Value → Prop
  | .one c, v => CR w I ρ M c v
  | .agg cs, v => ∃ arr, v = .agg arr ∧ F2 (CR w I ρ M) cs arr.toList

def VR (w : World) (I : Addr → Prop) (ρ : List (Option Nat)) (M : List B) : V → Value → Prop
  | .w u, v => UR w I ρ M u v
  | .tup us, v => ∃ arr, v = .tuple arr ∧ F2 (UR w I ρ M) us arr.toList
  | .any, _ => True

structure Sat (I : Addr → Prop) (ρ : List (Option Nat)) (M : List B) (w : World) : Prop where
  len : ρ.length = M.length
  var : ∀ (r : Nat) cs, M[r]? = some (.var cs) → ∃ rb arr T, ρ[r]? = some (some rb) ∧ w.heap[rb]? = some (.cells arr T (0, 0)) ∧ F2 (CR w I ρ M) cs arr.toList ∧ ∀ a, I a → a.block ≠ rb
  tick : ∀ (r : Nat) n e rb, M[r]? = some (.tick n e) → ρ[r]? = some (some rb) → (∃ arr T, w.heap[rb]? = some (.cells arr T (0, 0))) ∧ ∀ a, I a → a.block = rb → a.off < n * e
  gone : ∀ r : Nat, M[r]? = some .gone → ρ[r]? = some none
  inj : ∀ (r r' rb : Nat), ρ[r]? = some (some rb) → ρ[r']? = some (some rb) → r = r'
  imm : ∀ a, I a → ∃ u, w.cell? a = some u
  glob : Glob I w

structure Ext (k : Nat) (I : Addr → Prop) (ρ : List (Option Nat)) (M : List B) (w : World) (I' : Addr → Prop) (ρ' : List (Option Nat)) (M' : List B) (w' : World) : Prop where
  os : w'.os = w.os
  tape : w'.tape = w.tape
  output : w'.output = w.output
  size : w.heap.size ≤ w'.heap.size
  imm : ∀ a, I a → I' a
  keep : ∀ a, I a → w'.cell? a = w.cell? a
  frame : ∀ b : Nat, b < w.heap.size → (∀ r : Nat, ρ[r]? ≠ some (some b)) → w'.heap[b]? = w.heap[b]?
  inew : ∀ a, I' a → I a ∨ w.heap.size ≤ a.block ∨ ∃ r : Nat, ρ[r]? = some (some a.block)
  img : ∀ r b : Nat, ρ'[r]? = some (some b) → w.heap.size ≤ b ∨ ∃ r' : Nat, ρ[r']? = some (some b)
  cr : ∀ c v, belowC k c = true → CR w I ρ M c v → CR w' I' ρ' M' c v

section
variable {k : Nat} {I I' I'' : Addr → Prop} {ρ ρ' ρ'' : List (Option Nat)} {M M' M'' : List B} {w w' w'' : World}

theorem Ext.refl : Ext k I ρ M w I ρ M w :=
  ⟨rfl, rfl, rfl, Nat.le_refl _, fun _ h => h, fun _ _ => rfl, fun _ _ _ => rfl, fun _ h => .inl h, fun r _ h => .inr ⟨r, h⟩, fun _ _ _ h => h⟩

theorem Ext.trans (h : Ext k I ρ M w I' ρ' M' w') (h' : Ext k I' ρ' M' w' I'' ρ'' M'' w'') : Ext k I ρ M w I'' ρ'' M'' w'' where
  os := h'.os.trans h.os
  tape := h'.tape.trans h.tape
  output := h'.output.trans h.output
  size := Nat.le_trans h.size h'.size
  imm a ha := h'.imm a (h.imm a ha)
  keep a ha := (h'.keep a (h.imm a ha)).trans (h.keep a ha)
  frame b hb hn := by
    refine (h'.frame b (Nat.lt_of_lt_of_le hb h.size) fun r hr => ?_).trans (h.frame b hb hn)
    rcases h.img r b hr with h1 | ⟨r', h1⟩
    · omega
    · exact hn r' h1
  inew a ha := by
    rcases h'.inew a ha with h1 | h1 | ⟨r, h1⟩
    · exact h.inew a h1
    · exact .inr (.inl (Nat.le_trans h.size h1))
    · rcases h.img r _ h1 with h2 | h2
      · exact .inr (.inl h2)
      · exact .inr (.inr h2)
  img r b hr := by
    rcases h'.img r b hr with h1 | ⟨r', h1⟩
    · exact .inl (Nat.le_trans h.size h1)
    · exact h.img r' b h1
  cr c v hc hcr := h'.cr c v hc (h.cr c v hc hcr)

theorem Ext.dr (h : Ext k I ρ M w I' ρ' M' w') (x : D) {v : Value} (hd : DR w I x v) : DR w' I' x v := DR.mono h.imm h.keep x hd

theorem UR.ext (h : Ext k I ρ M w I' ρ' M' w') : ∀ {u : U} {v : Value}, belowU k u = true → UR w I ρ M u v → UR w' I' ρ' M' u v
  | .one c, v, hb, hu => h.cr c v (by simpa [belowU, ucells] using hb) hu
  | .agg cs, v, hb, ⟨arr, hv, hf⟩ => ⟨arr, hv, F2.mono_mem (fun c hc y hy => h.cr c y (List.all_eq_true.1 hb c hc) hy) hf⟩

theorem VR.ext (h : Ext k I ρ M w I' ρ' M' w') : ∀ {x : V} {v : Value}, belowV k x = true → VR w I ρ M x v → VR w' I' ρ' M' x v
  | .w _, _, hb, hu => UR.ext h hb hu
  | .tup _, _, hb, ⟨arr, hv, hf⟩ => ⟨arr, hv, F2.mono_mem (fun _ hc _ hy => UR.ext h (List.all_eq_true.1 hb _ hc) hy) hf⟩
  | .any, _, _, _ => trivial

/-- What holds of a cell stays: from what the step does to memory. -/
theorem CR.step (imm : ∀ a, I a → I' a) (keep : ∀ a, I a → w'.cell? a = w.cell? a)
    (hv : ∀ (b : Nat) cs rb, M[b]? = some (.var cs) → ρ[b]? = some (some rb) → (∃ cs', M'[b]? = some (.var cs')) ∧ ρ'[b]? = some (some rb))
    (ht : ∀ (r : Nat) m e, M[r]? = some (.tick m e) → ∃ m' e', M'[r]? = some (.tick m' e') ∧ m ≤ m' ∧ (m = m' → ∀ rb arr T, ρ[r]? = some (some rb) → w.heap[rb]? = some (.cells arr T (0, 0)) →
      ρ'[r]? = some (some rb) ∧ ∃ arr', w'.heap[rb]? = some (.cells arr' T (0, 0)) ∧ arr'.size = arr.size)) :
    ∀ {c : C} {v : Value}, CR w I ρ M c v → CR w' I' ρ' M' c v := by
  have hp : ∀ p u, PtrR ρ M p u → PtrR ρ' M' p u := by
    rintro p u ⟨rb, cs, h1, h2, h3⟩
    obtain ⟨⟨cs', h4⟩, h5⟩ := hv _ _ _ h1 h2
    exact ⟨rb, cs', h4, h5, h3⟩
  intro c v h
  cases c with
  | d x => exact DR.mono imm keep x h
  | own r n e g =>
    obtain ⟨hd, m, e', hm, hn, hh⟩ := h
    obtain ⟨m', e'', hm', hle, hk⟩ := ht r m e' hm
    refine ⟨DR.mono imm keep _ hd, m', e'', hm', by omega, fun hnm => ?_⟩
    have e1 : n = m := by omega
    have e2 : m = m' := by omega
    obtain ⟨A, cap, hA, hA'⟩ := hh e1
    refine ⟨A, cap, hA, ?_⟩
    rcases hA' with h1 | ⟨rb, arr, T, h1, h2, h3, h4⟩
    · exact .inl h1
    · obtain ⟨h5, arr', h6, h7⟩ := hk e2 rb arr T h2 h3
      exact .inr ⟨rb, arr', T, h1, h5, h6, h7.trans h4⟩
  | ptr b o => exact hp _ _ h
  | ref sz g =>
    obtain ⟨a, ha, h⟩ := h
    refine ⟨a, ha, fun j hj => ?_⟩
    obtain ⟨u, h1, h2, h3⟩ := h j hj
    exact ⟨u, imm _ h1, (keep _ h1).trans h2, DR.mono imm keep _ h3⟩
  | fn f fs cs =>
    obtain ⟨vf, vc, h1, h2, h3⟩ := h
    exact ⟨vf, vc, h1, F2.mono hp h2, F2.mono hp h3⟩
  | unk => exact h

/-- A draw. -/
theorem CR.heap (hw : w'.heap = w.heap) {c : C} {v : Value} (h : CR w I ρ M c v) : CR w' I ρ M c v :=
  CR.step (fun _ h => h) (fun a _ => by simp only [World.cell?, hw]) (fun b cs rb h1 h2 => ⟨⟨cs, h1⟩, h2⟩)
    (fun r m e h => ⟨m, e, h, Nat.le_refl _, fun _ rb arr T h1 h2 => ⟨h1, arr, by rw [hw]; exact h2, rfl⟩⟩) h

theorem Sat.heap (hw : w'.heap = w.heap) (h : Sat I ρ M w) : Sat I ρ M w' where
  len := h.len
  var r cs hr := by
    obtain ⟨rb, arr, T, h1, h2, h3, h4⟩ := h.var r cs hr
    exact ⟨rb, arr, T, h1, by rw [hw]; exact h2, F2.mono (fun _ _ => CR.heap hw) h3, h4⟩
  tick r n e rb h1 h2 := by rw [hw]; exact h.tick r n e rb h1 h2
  gone := h.gone
  inj := h.inj
  imm a ha := by simp only [World.cell?, hw]; exact h.imm a ha
  glob := h.glob.step (fun _ h => h) (fun a _ => by simp only [World.cell?, hw]) (fun b arr T f h => ⟨arr, by rw [hw]; exact h, rfl⟩)

theorem Ext.drew : Ext k I ρ M w I ρ M { w with drawn := w.drawn + 1 } :=
  ⟨rfl, rfl, rfl, Nat.le_refl _, fun _ h => h, fun _ _ => rfl, fun _ _ _ => rfl, fun _ h => .inl h, fun r _ h => .inr ⟨r, h⟩, fun _ _ _ h => CR.heap (w := w) (w' := { w with drawn := w.drawn + 1 }) rfl h⟩

theorem getElem?_set_of {α : Type} {l : List α} {i j : Nat} {x y : α} (h : (l.set i x)[j]? = some y) : (i = j ∧ x = y ∧ j < l.length) ∨ (i ≠ j ∧ l[j]? = some y) := by
  by_cases e : i = j
  · subst e
    rw [List.getElem?_set] at h
    simp at h
    exact .inl ⟨rfl, h.2, h.1⟩
  · rw [List.getElem?_set_ne e] at h
    exact .inr ⟨e, h⟩

theorem lt_of_getElem? {α : Type} {l : List α} {i : Nat} {x : α} (h : l[i]? = some x) : i < l.length := (List.getElem?_eq_some_iff.1 h).1

/-- A row of length 0 of our own, in a place that was free. -/
theorem tick0 {s e : Nat} (hS : Sat I ρ M w) (hs : M[s]? = some .gone) :
    Sat I ρ (M.set s (.tick 0 e)) w ∧ Ext k I ρ M w I ρ (M.set s (.tick 0 e)) w ∧ CR w I ρ (M.set s (.tick 0 e)) (.own s 0 e dg) (.slice none 0 0) ∧ ∀ c v, CR w I ρ M c v → CR w I ρ (M.set s (.tick 0 e)) c v := by
  have hlt := lt_of_getElem? hs
  have hcr : ∀ c v, CR w I ρ M c v → CR w I ρ (M.set s (.tick 0 e)) c v := fun c v =>
    CR.step (fun _ h => h) (fun _ _ => rfl)
      (fun b cs rb h1 h2 => by
        have hne : s ≠ b := by rintro rfl; rw [hs] at h1; cases h1
        exact ⟨⟨cs, by rw [List.getElem?_set_ne hne]; exact h1⟩, h2⟩)
      (fun r m e' h => by
        have hne : s ≠ r := by rintro rfl; rw [hs] at h; cases h
        exact ⟨m, e', by rw [List.getElem?_set_ne hne]; exact h, Nat.le_refl _, fun _ rb arr T h1 h2 => ⟨h1, arr, h2, rfl⟩⟩)
  refine ⟨⟨by simp [hS.len], fun r cs h => ?_, fun r n e' rb h h2 => ?_, fun r h => ?_, hS.inj, hS.imm, hS.glob⟩, ⟨rfl, rfl, rfl, Nat.le_refl _, fun _ h => h, fun _ _ => rfl, fun _ _ _ => rfl, fun _ h => .inl h, fun r _ h => .inr ⟨r, h⟩, fun c v _ => hcr c v⟩, ?_, hcr⟩
  · rcases getElem?_set_of h with ⟨_, h1, _⟩ | ⟨_, h1⟩
    · cases h1
    · obtain ⟨rb, arr, T, h2, h3, h4, h5⟩ := hS.var r cs h1
      exact ⟨rb, arr, T, h2, h3, F2.mono hcr h4, h5⟩
  · rcases getElem?_set_of h with ⟨rfl, _, _⟩ | ⟨_, h1⟩
    · have := hS.gone _ hs; rw [this] at h2; cases h2
    · exact hS.tick r n e' rb h1 h2
  · rcases getElem?_set_of h with ⟨_, h1, _⟩ | ⟨_, h1⟩
    · cases h1
    · exact hS.gone r h1
  · exact ⟨⟨none, 0, rfl, Nat.le_refl _, fun i hi => by omega⟩, 0, e, by rw [List.getElem?_set]; simp [hlt], Nat.le_refl _, fun _ => ⟨none, 0, rfl, .inl ⟨rfl, rfl, rfl⟩⟩⟩

theorem setAll_get (bs : List B) : ∀ (M : List B) (s j : Nat), j < s → (setAll M s bs)[j]? = M[j]? := by
  induction bs with
  | nil => intro M s j _; rfl
  | cons b bs ih =>
    intro M s j h
    rw [setAll, ih _ _ _ (by omega), List.getElem?_set_ne (by omega)]

theorem setAll_length (bs : List B) : ∀ (M : List B) (s : Nat), (setAll M s bs).length = M.length := by
  induction bs with
  | nil => intro M s; rfl
  | cons b bs ih => intro M s; rw [setAll, ih]; simp

/-- The nil slices of some cells become rows of our own. -/
theorem nilOwn_ok (hS : Sat I ρ M w) : ∀ (es : List Nat) (cs : List C) (vs : List Value) (s : Nat), F2 (CR w I ρ M) cs vs → (∀ j, j < (nilOwn es cs s).2.length → M[s + j]? = some .gone) →
    Sat I ρ (setAll M s (nilOwn es cs s).2) w ∧ Ext k I ρ M w I ρ (setAll M s (nilOwn es cs s).2) w ∧ (∀ c v, CR w I ρ M c v → CR w I ρ (setAll M s (nilOwn es cs s).2) c v) ∧
      F2 (CR w I ρ (setAll M s (nilOwn es cs s).2)) (nilOwn es cs s).1 vs := by
  intro es
  induction es generalizing M with
  | nil => intro cs vs s hf _; exact ⟨hS, .refl, fun _ _ h => h, by cases cs <;> exact hf⟩
  | cons e es ih =>
    intro cs vs s hf hg
    cases cs with
    | nil => obtain rfl := F2.nil_left hf; exact ⟨hS, .refl, fun _ _ h => h, trivial⟩
    | cons c cs =>
      obtain ⟨v, vs, rfl, hc, hf'⟩ := F2.cons_left hf
      have other : ∀ (h : nilOwn (e :: es) (c :: cs) s = (c :: (nilOwn es cs s).1, (nilOwn es cs s).2)), Sat I ρ (setAll M s (nilOwn (e :: es) (c :: cs) s).2) w ∧ Ext k I ρ M w I ρ (setAll M s (nilOwn (e :: es) (c :: cs) s).2) w ∧ (∀ c' v', CR w I ρ M c' v' → CR w I ρ (setAll M s (nilOwn (e :: es) (c :: cs) s).2) c' v') ∧
          F2 (CR w I ρ (setAll M s (nilOwn (e :: es) (c :: cs) s).2)) (nilOwn (e :: es) (c :: cs) s).1 (v :: vs) := by
        intro h
        rw [h] at hg ⊢
        obtain ⟨h1, h2, h3, h4⟩ := ih hS cs vs s hf' hg
        exact ⟨h1, h2, h3, h3 _ _ hc, h4⟩
      cases c with
      | d x =>
        cases x with
        | nil =>
          cases e with
          | zero => exact other rfl
          | succ e =>
            simp only [nilOwn] at hg ⊢
            obtain rfl : v = .slice none 0 0 := hc
            have hs : M[s]? = some .gone := hg 0 (by simp)
            obtain ⟨t1, t2, t3, t4⟩ := tick0 (k := k) (e := e) hS hs
            obtain ⟨h1, h2, h3, h4⟩ := ih t1 cs vs (s + 1) (F2.mono t4 hf') (fun j hj => by
              rw [List.getElem?_set_ne (by omega)]
              have := hg (j + 1) (by simpa using hj)
              rwa [show s + 1 + j = s + (j + 1) from by omega])
            exact ⟨h1, t2.trans h2, fun c v h => h3 _ _ (t4 c v h), h3 _ _ t3, h4⟩
        | _ => exact other rfl
      | _ => exact other rfl

end
end Sh
end Go.Proofs.YtamdjlpobonmiaaDoor
