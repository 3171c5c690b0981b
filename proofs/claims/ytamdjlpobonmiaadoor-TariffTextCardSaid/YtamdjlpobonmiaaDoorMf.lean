/- Texts joined: what the proof of this law needs. -/
import Derived.Test.YtamdjlpobonmiaaDoorMe
import Derived.Lib.SplitLaws
import Derived.Lib.CutLaws
import Derived.Lib.ItoaNum
import Derived.Lib.Strings
import Derived.Lib.AtoiAll
import Derived.Lib.Join
import Derived.Test.YtamdjlpobonmiaaDoorShelf
/- Valid tariffs: classes, values, steps; the plain laws. -/
namespace Go.Proofs.YtamdjlpobonmiaaDoor
namespace Sh

theorem own_cz {n : Nat} {g : Nat → Nat → Int} : cz n 2 (toI (cd n 2 (rowI (cz n 2 g)))) = cz n 2 g := by rw [cz_cd, cz_cz]

section
variable {s : ByteArray} {n : Nat} {g : Nat → Nat → Int}

theorem firstFrom_ff (wt : Int) (k : Nat) : firstFrom n g wt k = ffrom (fun j => decide (wt < g j 0)) n k := rfl

/-- The class of a weight. -/
def InC (n : Nat) (g : Nat → Nat → Int) (w : Int) (k : Nat) : Prop := k < n ∧ g k 0 ≤ w ∧ (k + 1 < n → w < g (k + 1) 0)

theorem Vd.le (V : Vd s n g) {i j : Nat} (hij : i ≤ j) (hj : j < n) : g i 0 ≤ g j 0 := by
  rcases Nat.lt_or_ge i j with h | h
  · exact Int.le_of_lt (V.mono h hj)
  · rw [show i = j by omega]; exact Int.le_refl _

theorem inC_of (V : Vd s n g) {w : Int} (h0 : 0 ≤ w) : ∃ k, InC n g w k ∧ firstFrom n g w 0 = k + 1 := by
  have hsp := ffrom_spec (p := fun j => decide (w < g j 0)) (n := n) _ 0 rfl (Nat.zero_le _)
  rw [← firstFrom_ff] at hsp
  obtain ⟨_, h2, h3, h4⟩ := hsp
  have hpos : firstFrom n g w 0 ≠ 0 := fun e => by
    rw [e] at h4
    have := h4 (by have := V.one; omega)
    simp only [decide_eq_true_eq] at this
    have := V.zero
    omega
  refine ⟨firstFrom n g w 0 - 1, ⟨by omega, ?_, fun h => ?_⟩, by omega⟩
  · have := h3 (firstFrom n g w 0 - 1) (Nat.zero_le _) (by omega)
    simp only [decide_eq_false_iff_not] at this
    omega
  · have := h4 (by omega)
    simp only [decide_eq_true_eq] at this
    rwa [show firstFrom n g w 0 - 1 + 1 = firstFrom n g w 0 by omega]
theorem inC_unique (V : Vd s n g) {w : Int} {i j : Nat} (hi : InC n g w i) (hj : InC n g w j) : i = j := by
  obtain ⟨a1, a2, a3⟩ := hi
  obtain ⟨b1, b2, b3⟩ := hj
  rcases Nat.lt_trichotomy i j with h | h | h
  · have := a3 (by omega)
    have := V.le (i := i + 1) (j := j) h b1
    omega
  · exact h
  · have := b3 (by omega)
    have := V.le (i := j + 1) (j := i) h a1
    omega
theorem first_of (V : Vd s n g) {w : Int} {k : Nat} (h : InC n g w k) : firstFrom n g w 0 = k + 1 := by
  have h0 : 0 ≤ w := by have := V.from0 h.1; have := h.2.1; omega
  obtain ⟨k', h1, h2⟩ := inC_of V h0
  rw [h2, inC_unique V h1 h]
theorem class_of (V : Vd s n g) {w : Int} {k : Nat} (h : InC n g w k) : classB n g w = k := by
  unfold classB
  rw [first_of V h]; omega
theorem inC_mono (V : Vd s n g) {a b : Int} {i j : Nat} (h : a ≤ b) (hi : InC n g a i) (hj : InC n g b j) : i ≤ j := by
  obtain ⟨a1, a2, a3⟩ := hi
  obtain ⟨b1, b2, b3⟩ := hj
  rcases Nat.lt_or_ge j i with h1 | h1
  · have := b3 (by omega)
    have := V.le (i := j + 1) (j := i) h1 a1
    omega
  · exact h1

/-- The value of a weight at a price. -/
def vAt (p w : Int) : Int := w * p / 1000
theorem mul_bd {w p : Int} (h0 : 0 ≤ w) (h1 : w ≤ 1000000) (h2 : 0 ≤ p) (h3 : p ≤ 1000000) : 0 ≤ w * p ∧ w * p ≤ 1000000000000 := by
  refine ⟨Int.mul_nonneg h0 h2, ?_⟩
  calc w * p ≤ 1000000 * p := Int.mul_le_mul_of_nonneg_right h1 h2
    _ ≤ 1000000 * 1000000 := Int.mul_le_mul_of_nonneg_left h3 (by decide)
    _ = 1000000000000 := by decide
theorem value_of (V : Vd s n g) {w : Int} {k : Nat} (h : InC n g w k) (h1 : w ≤ 1000000) : valueB n g w = vAt (g k 1) w := by
  unfold valueB vAt
  rw [class_of V h, Int.toNat_natCast]
  have h0 : 0 ≤ w := by have := V.from0 h.1; have := h.2.1; omega
  obtain ⟨m0, m1⟩ := mul_bd h0 h1 (V.price0 k h.1) (V.price1 k h.1)
  have e1 : IntKind.i64.wrap (w * g k 1) = w * g k 1 := wrap_id (by omega) (by omega)
  rw [e1, Int.tdiv_eq_ediv_of_nonneg m0]
  exact wrap_id (by omega) (by omega)
theorem vAt_mono {p a b : Int} (hp : 0 ≤ p) (h : a ≤ b) : vAt p a ≤ vAt p b := by
  unfold vAt
  exact Int.ediv_le_ediv (by decide) (Int.mul_le_mul_of_nonneg_right h hp)
theorem vAt_bd {w p : Int} (h0 : 0 ≤ w) (h1 : w ≤ 1000000) (h2 : 0 ≤ p) (h3 : p ≤ 1000000) : 0 ≤ vAt p w ∧ vAt p w ≤ 1000000000 := by
  obtain ⟨m0, m1⟩ := mul_bd h0 h1 h2 h3
  unfold vAt; omega

theorem same_class (V : Vd s n g) {a b : Int} {k : Nat} (h : a ≤ b) (hb : b ≤ 1000000) (ha : InC n g a k) (hb' : InC n g b k) : valueB n g a ≤ valueB n g b := by
  rw [value_of V ha (by omega), value_of V hb' hb]
  exact vAt_mono (V.price0 k ha.1) h

theorem fair_iff (V : Vd s n g) : fairB s n g = true ↔ ∀ i, i + 1 < n → valueB n g (g (i + 1) 0 - 1) ≤ valueB n g (g (i + 1) 0) := by
  unfold fairB
  rw [valid_iff.2 V, Bool.true_and]
  have hsp := ffrom_spec (p := unf n g) (n := n - 1) _ 0 rfl (Nat.zero_le _)
  obtain ⟨_, h2, h3, h4⟩ := hsp
  simp only [Bool.not_eq_true', decide_eq_false_iff_not]
  constructor
  · intro h i hi
    have := h3 i (Nat.zero_le _) (by omega)
    unfold unf at this
    simp only [decide_eq_false_iff_not] at this
    rw [show i + 1 = 1 + i by omega]
    omega
  · intro h h5
    have h7 := h4 h5
    generalize ffrom (unf n g) (n - 1) 0 = q at h5 h7
    unfold unf at h7
    simp only [decide_eq_true_eq] at h7
    have h6 := h q (by omega)
    rw [show q + 1 = 1 + q by omega] at h6
    omega

theorem fair_mono (V : Vd s n g) (hf : ∀ i, i + 1 < n → valueB n g (g (i + 1) 0 - 1) ≤ valueB n g (g (i + 1) 0)) : ∀ (d : Nat) {a b : Int} {i j : Nat}, d = j - i → a ≤ b → b ≤ 1000000 → InC n g a i → InC n g b j → valueB n g a ≤ valueB n g b := by
  intro d
  induction d with
  | zero =>
    intro a b i j hd h hb hi hj
    have := inC_mono V h hi hj
    obtain rfl : i = j := by omega
    exact same_class V h hb hi hj
  | succ d ih =>
    intro a b i j hd h hb hi hj
    have h1 : i + 1 ≤ j := by omega
    have h2 : i + 1 < n := by have := hj.1; omega
    have hup := V.up i h2
    have e1 : InC n g (g (i + 1) 0) (i + 1) := ⟨h2, Int.le_refl _, fun h3 => V.up (i + 1) h3⟩
    have e2 : InC n g (g (i + 1) 0 - 1) i := ⟨hi.1, by omega, fun _ => by omega⟩
    have hle := V.le (i := i + 1) (j := j) h1 hj.1
    have hbj := hj.2.1
    have b1 := same_class V (a := a) (b := g (i + 1) 0 - 1) (by have := hi.2.2 h2; omega) (by omega) hi e2
    have b2 := hf i h2
    have b3 := ih (a := g (i + 1) 0) (b := b) (i := i + 1) (j := j) (by omega) (by omega) hb e1 hj
    omega

theorem err_zero {w : Int} (h : errB s n g w = 0) : validB s n g = true ∧ outW w = false := by
  unfold errB at h
  cases hv : validB s n g with
  | false => rw [hv] at h; cases h
  | true =>
    rw [hv] at h
    cases hw : outW w with
    | true => rw [hw] at h; cases h
    | false => exact ⟨rfl, rfl⟩
theorem outW_iff {w : Int} : outW w = false ↔ 0 ≤ w ∧ w ≤ 1000000 := by
  unfold outW
  simp only [Bool.or_eq_false_iff, decide_eq_false_iff_not]; omega
end
end Sh
end Go.Proofs.YtamdjlpobonmiaaDoor

/- Contracts that are known of the world: as entries. -/
namespace Go.Proofs.YtamdjlpobonmiaaDoor
namespace Sh
open Go.RowKit

theorem cell_lt {w : World} {a : Addr} {u : Value} (h : w.cell? a = some u) : a.block < w.heap.size := by
  unfold World.cell? at h
  split at h
  · rename_i h1; exact (Array.getElem?_eq_some_iff.1 h1).1
  · cases h

theorem ent_of_calls {P : Program} {f : FuncId} {us : List U} {v : V} (he : Enters P f) (hus : us.all pureU = true) (hv : pureV v = true)
    (h : ∀ (I : Addr → Prop) (w : World) (vs : List Value), (∀ a, I a → ∃ u, w.cell? a = some u) → Glob I w → F2 (UR w I [] []) us vs →
      Calls P f vs.toArray w fun e w' => ∃ u, e = .returned u ∧ Below w.heap.size w w' ∧ ∃ I', (∀ a, I a → I' a) ∧ (∀ a, I' a → I a ∨ (w.heap.size ≤ a.block ∧ ∃ u, w'.cell? a = some u)) ∧ VR w' I' [] [] v u) : EntOK P f us v := by
  intro m hm
  refine ⟨he, fun k I ρ M w vs hS hmM hu => ?_⟩
  have hsame : upd M m = M := upd_same fun p hp => hmM p hp (noGone_ok hm p hp)
  rw [hsame]
  refine (h I w vs hS.imm hS.glob (F2.mono_mem (fun u hmem y hy => pureU_any (List.all_eq_true.1 hus u hmem) hy) hu)).mono ?_
  rintro e w' ⟨u, rfl, hB, I', hI, hI', hV⟩
  have hkeep : ∀ a, I a → w'.cell? a = w.cell? a := fun a ha => by
    obtain ⟨x, hx⟩ := hS.imm a ha
    exact hB.cell (cell_lt hx)
  have himm : ∀ a, I' a → ∃ u, w'.cell? a = some u := fun a ha => by
    rcases hI' a ha with h1 | ⟨_, h1⟩
    · obtain ⟨x, hx⟩ := hS.imm a h1
      exact ⟨x, (hkeep a h1).trans hx⟩
    · exact h1
  have hglob : Glob I' w' := hS.glob.step hI hkeep fun b arr T f h1 => ⟨arr, by rw [hB.block b (Array.getElem?_eq_some_iff.1 h1).1]; exact h1, rfl⟩
  have hS' : Sat I' [] [] w' := ⟨rfl, fun r cs h => by simp at h, fun r n e rb h => by simp at h, fun r h => by simp at h, fun r r' rb h => by simp at h, himm, hglob⟩
  have hE : Ext 0 I [] [] w I' [] [] w' := ⟨hB.os, hB.tape, hB.output, hB.size, hI, hkeep, fun b hb _ => hB.block b hb,
    fun a ha => by rcases hI' a ha with h1 | ⟨h1, _⟩; exact .inl h1; exact .inr (.inl h1), fun r b h => by simp at h,
    fun c v _ hc => CR.step hI hkeep (fun b cs rb h1 _ => by simp at h1) (fun r m e h1 => by simp at h1) hc⟩
  obtain ⟨t1, t2⟩ := frame_ok (k := k) hS hE hS'
  exact ⟨u, I', ρ, rfl, t1, pureV_any hv hV, t2⟩

/-- Where nothing new is handed back. -/
theorem ent_of_quiet {P : Program} {f : FuncId} {us : List U} {v : V} (he : Enters P f) (hus : us.all pureU = true) (hv : pureV v = true)
    (h : ∀ (I : Addr → Prop) (w : World) (vs : List Value), (∀ a, I a → ∃ u, w.cell? a = some u) → Glob I w → F2 (UR w I [] []) us vs →
      Calls P f vs.toArray w fun e w' => ∃ u, e = .returned u ∧ Below w.heap.size w w' ∧ VR w' I [] [] v u) : EntOK P f us v :=
  ent_of_calls he hus hv fun I w vs h1 h2 h3 => (h I w vs h1 h2 h3).mono fun e w' ⟨u, e1, e2, e3⟩ => ⟨u, e1, e2, I, fun _ h => h, fun _ h => .inl h, e3⟩

theorem below_drewN {w : World} (n : Nat) : Below w.heap.size w (w.drewN n) := ⟨rfl, rfl, rfl, Nat.le_refl _, fun _ _ => rfl⟩

end Sh
end Go.Proofs.YtamdjlpobonmiaaDoor

/- The library's functions on strings and numbers: plain laws on bytes. -/
namespace Go.Proofs.YtamdjlpobonmiaaDoor
namespace Sh

def bs (l : List UInt8) : ByteArray := ⟨l.toArray⟩
theorem bs_data (l : List UInt8) : (bs l).data.toList = l := by simp [bs]
theorem data_bs (s : ByteArray) : bs s.data.toList = s := by cases s; simp [bs]
theorem size_bs (l : List UInt8) : (bs l).size = l.length := by
  show (bs l).data.size = _
  simp [bs]

/-- What strings.Cut gives at a separator of one byte. -/
def cut1 (c : UInt8) : List UInt8 → List UInt8 × List UInt8 × Bool
  | [] => ([], [], false)
  | b :: l => bif b == c then ([], l, true) else (b :: (cut1 c l).1, (cut1 c l).2.1, (cut1 c l).2.2)

theorem index_cons (b c : UInt8) (l : List UInt8) : Lib.index (b :: l) [c] = if b = c then 0 else if Lib.index l [c] = -1 then -1 else Lib.index l [c] + 1 := by
  simp only [Lib.index]
  by_cases h : b = c
  · subst h; simp
  · have h' : ¬ c = b := fun e => h e.symm
    simp [h, h']

theorem cut_one (c : UInt8) : ∀ l : List UInt8, Lib.cut l [c] = cut1 c l
  | [] => by simp [Lib.cut, Lib.index, cut1]
  | b :: l => by
    have ih := cut_one c l
    have hge := Lib.index_ge l [c]
    unfold Lib.cut at ih ⊢
    rw [index_cons]
    by_cases h : b = c
    · subst h
      simp [cut1]
    · have hb : (b == c) = false := by simpa using h
      simp only [h, if_false, cut1, hb, cond_false, ← ih]
      by_cases h1 : Lib.index l [c] = -1
      · simp [h1]
      · have h2 : 0 ≤ Lib.index l [c] := by omega
        have h3 : 0 ≤ Lib.index l [c] + 1 := by omega
        simp only [h1, h2, h3, if_true, if_false]
        have e1 : (Lib.index l [c] + 1).toNat = (Lib.index l [c]).toNat + 1 := by omega
        rw [e1]
        have e2 : (Lib.index l [c]).toNat + 1 + [c].length = (Lib.index l [c]).toNat + [c].length + 1 := by omega
        rw [e2, List.take_succ_cons, List.drop_succ_cons]

/-- What strings.Split gives at a separator of one byte. -/
def splitL (c : UInt8) : List UInt8 → List (List UInt8)
  | [] => [[]]
  | b :: l => bif b == c then [] :: splitL c l else (match splitL c l with
    | x :: xs => (b :: x) :: xs
    | [] => [[b]])
theorem splitL_ne (c : UInt8) : ∀ l, splitL c l ≠ []
  | [] => by simp [splitL]
  | b :: l => by
    unfold splitL
    cases b == c with
    | true => simp
    | false => cases h : splitL c l with
      | nil => simp
      | cons x xs => simp
theorem splitL_miss (c : UInt8) : ∀ l, l.count c = 0 → splitL c l = [l]
  | [], _ => rfl
  | b :: l, h => by
    have hb : b ≠ c := fun e => by subst e; simp at h
    have hb' : (b == c) = false := by simpa using hb
    rw [List.count_cons_of_ne hb] at h
    unfold splitL
    rw [hb', cond_false, splitL_miss c l h]
theorem splitL_cons_ne {b c : UInt8} (h : b ≠ c) (l : List UInt8) : ∃ x xs, splitL c l = x :: xs ∧ splitL c (b :: l) = (b :: x) :: xs := by
  have hb' : (b == c) = false := by simpa using h
  cases hs : splitL c l with
  | nil => exact absurd hs (splitL_ne c l)
  | cons x xs => refine ⟨x, xs, rfl, ?_⟩; rw [splitL, hb', cond_false, hs]
theorem splitL_eq (c : UInt8) (l : List UInt8) : splitL c (c :: l) = [] :: splitL c l := by
  rw [splitL]; simp
theorem splitL_hit (c : UInt8) : ∀ (p l : List UInt8), p.count c = 0 → splitL c (p ++ c :: l) = p :: splitL c l
  | [], l, _ => by simp [splitL]
  | b :: p, l, h => by
    have hb : b ≠ c := fun e => by subst e; simp at h
    rw [List.count_cons_of_ne hb] at h
    obtain ⟨x, xs, h1, h2⟩ := splitL_cons_ne hb (p ++ c :: l)
    rw [List.cons_append, h2]
    rw [splitL_hit c p l h] at h1
    simp only [List.cons.injEq] at h1
    obtain ⟨rfl, rfl⟩ := h1
    rfl

theorem index_split (c : UInt8) : ∀ l : List UInt8, (Lib.index l [c] = -1 ∧ l.count c = 0) ∨ ∃ p q, l = p ++ c :: q ∧ p.count c = 0 ∧ Lib.index l [c] = p.length
  | [] => .inl ⟨by simp [Lib.index], rfl⟩
  | b :: l => by
    rw [index_cons]
    by_cases h : b = c
    · subst h; exact .inr ⟨[], l, rfl, rfl, by simp⟩
    · rcases index_split c l with ⟨h1, h2⟩ | ⟨p, q, rfl, h2, h3⟩
      · exact .inl ⟨by simp [h, h1], by rw [List.count_cons_of_ne h, h2]⟩
      · refine .inr ⟨b :: p, q, rfl, by rw [List.count_cons_of_ne h, h2], ?_⟩
        have : Lib.index (p ++ c :: q) [c] ≠ -1 := by omega
        simp only [h, this, if_false, List.length_cons]
        omega

theorem splitK_one (c : UInt8) : ∀ (k : Nat) (l : List UInt8), l.count c = k → Lib.splitK [c] 0 k l = splitL c l
  | 0, l, h => by rw [splitL_miss c l h]; rfl
  | k + 1, l, h => by
    rcases index_split c l with ⟨_, h2⟩ | ⟨p, q, rfl, h2, h3⟩
    · omega
    · rw [splitL_hit c p q h2]
      have hq : q.count c = k := by
        rw [List.count_append, h2, List.count_cons_self] at h; omega
      unfold Lib.splitK
      have h5 : (Lib.index (p ++ c :: q) [c] == -1) = false := by simp; omega
      rw [h5, h3]
      simp only [Bool.false_eq_true, if_false, Int.toNat_natCast, Nat.add_zero, List.length_singleton]
      have e1 : List.take p.length (p ++ c :: q) = p := by simp
      have e2 : List.drop (p.length + 1) (p ++ c :: q) = q := by
        rw [List.drop_append]; simp
      rw [e1, e2, splitK_one c k q hq]
theorem split_one (c : UInt8) (s : ByteArray) : (Lib.splitB ⟨#[c]⟩ 0 (Lib.countB s ⟨#[c]⟩) s).map (·.data.toList) = splitL c s.data.toList := by
  rw [Lib.splitB_data]
  refine splitK_one c _ _ ?_
  show List.count c s.data.toList = Lib.count _ _
  rw [show (⟨#[c]⟩ : ByteArray).data.toList = [c] from rfl, Lib.count_one]
theorem split_len (c : UInt8) (s : ByteArray) : Lib.countB s ⟨#[c]⟩ + 1 = (splitL c s.data.toList).length := by
  rw [← split_one, List.length_map, Lib.splitB_all ⟨#[c]⟩ (Nat.le_refl 1) 0 _ s rfl]

/-- Decimal digits. -/
def digF : Nat → Nat → List UInt8
  | 0, _ => []
  | f + 1, u => bif Nat.blt u 10 then [UInt8.ofNat (48 + u)] else digF f (u / 10) ++ [UInt8.ofNat (48 + u % 10)]
theorem digF_dec : ∀ (f u : Nat), u < 10 ^ f → 1 ≤ f → digF f u = Lib.decDigits u
  | f + 1, u, h, _ => by
    rw [Lib.decDigits]
    unfold digF
    by_cases hu : u < 10
    · have : Nat.blt u 10 = true := by simpa using hu
      rw [this, cond_true, dif_pos hu]
    · have : Nat.blt u 10 = false := by
        cases hb : Nat.blt u 10 with
        | false => rfl
        | true => rw [Nat.blt_eq] at hb; omega
      rw [this, cond_false, dif_neg hu]
      have hf : 1 ≤ f := by
        rcases Nat.eq_zero_or_pos f with rfl | hf
        · simp at h; omega
        · exact hf
      rw [digF_dec f (u / 10) (by rw [Nat.pow_succ] at h; omega) hf]
def itoaL (n : Int) : List UInt8 := bif decide (n < 0) then 45 :: digF 20 n.natAbs else digF 20 n.toNat
theorem itoaL_eq {n : Int} (h0 : -9223372036854775808 ≤ n) (h1 : n ≤ 9223372036854775807) : Lib.itoa n = itoaL n := by
  unfold Lib.itoa itoaL
  have hp : (10 : Nat) ^ 20 = 100000000000000000000 := by decide
  by_cases h : n < 0
  · simp only [h, if_true, decide_true, cond_true]
    rw [digF_dec 20 _ (by rw [hp]; omega) (by omega)]
  · simp only [h, if_false, decide_false, cond_false]
    rw [digF_dec 20 _ (by rw [hp]; omega) (by omega)]

/-- The number that strconv.Atoi hands back. -/
def atoiV (l : List UInt8) : Int := match Lib.atoiAll l with
  | .ok v => v
  | .range => Lib.atoiSat l
  | _ => 0

end Sh
end Go.Proofs.YtamdjlpobonmiaaDoor

/- The library's functions on strings and numbers: as entries. -/
namespace Go.Proofs.YtamdjlpobonmiaaDoor
namespace Sh
open Go.RowKit
set_option maxRecDepth 100000

noncomputable section

theorem enters_of {P : Program} {f : FuncId} {fn : Func} (hf : P.funcs[f]? = some fn) (hb : fn.body.isSome = true) (hn : (fn.name == "runtime.NumGoroutine") = false) : Enters P f := by
  cases h : fn.body with
  | none => rw [h] at hb; cases hb
  | some c => exact ⟨fn, c, hf, h, hn⟩

def ust (l : List UInt8) : U := .one (.d (.str (bs l)))
theorem ur_str {w : World} {I : Addr → Prop} {ρ : List (Option Nat)} {M : List B} {s : ByteArray} {v : Value} (h : UR w I ρ M (.one (.d (.str s))) v) : v = .string s := h
theorem add_own (b o n : Nat) : (⟨b, o, none⟩ : Addr).add n = ⟨b, o + n, none⟩ := by
  unfold Addr.add
  split
  · rename_i h; subst h; rfl
  · rfl
theorem mk_bs (l : List UInt8) : (⟨l.toArray⟩ : ByteArray) = bs l := rfl

theorem cut_ent (s : ByteArray) (c : UInt8) (hs : s.size < 4294967281) : EntOK Tryd.prog 28 [us s, us ⟨#[c]⟩] (.tup [ust (cut1 c s.data.toList).1, ust (cut1 c s.data.toList).2.1, .one (.d (.bool (cut1 c s.data.toList).2.2))]) := by
  refine ent_of_quiet (enters_of (fn := Tryd.f28) (by kernel_rfl) (by kernel_rfl) (by kernel_rfl)) rfl rfl fun I w vs hI hg hu => ?_
  obtain ⟨v0, l1, rfl, c0, r1⟩ := F2.cons_left hu
  obtain ⟨v1, l2, rfl, c1, r2⟩ := F2.cons_left r1
  obtain rfl := F2.nil_left r2
  obtain rfl := ur_str c0
  obtain rfl := ur_str c1
  obtain ⟨m, tS, pS, tR, pR, g0, _⟩ := hg
  obtain ⟨arr, T, f, h1, h2, h3⟩ := g0
  have hm : w.cell? ⟨0, 0, none⟩ = some (.int .i64 m) := by
    simp only [World.cell?, h1, Option.isSome_none, Bool.false_eq_true, if_false]
    rw [← Array.getElem?_toList, h2]; rfl
  refine (Tryd.strings_Cut s ⟨#[c]⟩ m w hs hm).mono ?_
  rintro e w' ⟨rfl, n, rfl⟩
  rw [show (⟨#[c]⟩ : ByteArray).data.toList = [c] from rfl, cut_one]
  exact ⟨_, rfl, below_drewN n, _, rfl, rfl, rfl, rfl, trivial⟩

theorem split_ent (s : ByteArray) (c : UInt8) (hs : s.size < 4294967281) : EntOK Tryd.prog 29 [us s, us ⟨#[c]⟩] (.w (.one (.d (.slc (splitL c s.data.toList).length 1 fun i _ => .str (bs ((splitL c s.data.toList).getD i [])))))) := by
  refine ent_of_calls (enters_of (fn := Tryd.f29) (by kernel_rfl) (by kernel_rfl) (by kernel_rfl)) rfl rfl fun I w vs hI hg hu => ?_
  obtain ⟨v0, l1, rfl, c0, r1⟩ := F2.cons_left hu
  obtain ⟨v1, l2, rfl, c1, r2⟩ := F2.cons_left r1
  obtain rfl := F2.nil_left r2
  obtain rfl := ur_str c0
  obtain rfl := ur_str c1
  obtain ⟨m, tS, pS, tR, pR, g0, _⟩ := hg
  obtain ⟨arr, T, f, h1, h2, h3⟩ := g0
  have hm : w.cell? ⟨0, 0, none⟩ = some (.int .i64 m) := by
    simp only [World.cell?, h1, Option.isSome_none, Bool.false_eq_true, if_false]
    rw [← Array.getElem?_toList, h2]; rfl
  refine (Tryd.strings_Split s ⟨#[c]⟩ m w hs hm (Nat.le_refl 1)).mono ?_
  rintro e w' ⟨rfl, rfl⟩
  have hsp := split_one c s
  have hlen : (Lib.splitB ⟨#[c]⟩ 0 (Lib.countB s ⟨#[c]⟩) s).length = (splitL c s.data.toList).length := by rw [← hsp, List.length_map]
  have hcell : ∀ i, i < (splitL c s.data.toList).length → (w.alloc (Obj.cells (List.map Value.string (Lib.splitB ⟨#[c]⟩ 0 (Lib.countB s ⟨#[c]⟩) s)).toArray 9)).cell? ⟨w.heap.size, i, none⟩ = some (.string (bs ((splitL c s.data.toList).getD i []))) := by
    intro i hi
    have h5 : i < (Lib.splitB ⟨#[c]⟩ 0 (Lib.countB s ⟨#[c]⟩) s).length := by omega
    have h6 : (w.alloc (Obj.cells (List.map Value.string (Lib.splitB ⟨#[c]⟩ 0 (Lib.countB s ⟨#[c]⟩) s)).toArray 9)).heap[w.heap.size]? = some (Obj.cells (List.map Value.string (Lib.splitB ⟨#[c]⟩ 0 (Lib.countB s ⟨#[c]⟩) s)).toArray 9) := by
      show (w.heap.push _)[w.heap.size]? = _
      exact Array.getElem?_push_size
    simp only [World.cell?, h6, Option.isSome_none, Bool.false_eq_true, if_false]
    rw [← Array.getElem?_toList]
    simp only [List.getElem?_map, List.getElem?_eq_getElem h5, Option.map_some, Option.some.injEq, Value.string.injEq]
    rw [← hsp]
    simp only [List.getD, List.getElem?_map, List.getElem?_eq_getElem h5, Option.map_some, Option.getD_some]
    exact (data_bs _).symm
  refine ⟨_, rfl, (Below.refl _ _).alloc (Nat.le_refl _) _, fun a => I a ∨ (a.block = w.heap.size ∧ a.spot = none ∧ a.off < (splitL c s.data.toList).length), fun a h => .inl h, fun a h => ?_, ?_⟩
  · rcases h with h | ⟨h4, h5, h6⟩
    · exact .inl h
    · obtain ⟨b, o, sp⟩ := a
      simp only at h4 h5 h6
      subst h4 h5
      exact .inr ⟨Nat.le_refl _, _, hcell _ h6⟩
  · refine ⟨some ⟨w.heap.size, 0, none⟩, Lib.countB s ⟨#[c]⟩ + 1, ?_, ?_, fun i hi j hj => ?_⟩
    · rw [split_len]
    · rw [split_len]; exact Nat.le_refl _
    · obtain rfl : j = 0 := by omega
      refine ⟨_, _, rfl, ?_, ?_, rfl⟩
      · rw [add_own]
        exact .inr ⟨rfl, rfl, by show 0 + (i * 1 + 0) < _; omega⟩
      · rw [add_own, show 0 + (i * 1 + 0) = i by omega]
        exact hcell i hi

theorem trimP_ent (s p : ByteArray) : EntOK Tryd.prog 30 [us s, us p] (.w (ust (Lib.trimPrefix s.data.toList p.data.toList))) := by
  refine ent_of_quiet (enters_of (fn := Tryd.f30) (by kernel_rfl) (by kernel_rfl) (by kernel_rfl)) rfl rfl fun I w vs hI hg hu => ?_
  obtain ⟨v0, l1, rfl, c0, r1⟩ := F2.cons_left hu
  obtain ⟨v1, l2, rfl, c1, r2⟩ := F2.cons_left r1
  obtain rfl := F2.nil_left r2
  obtain rfl := ur_str c0
  obtain rfl := ur_str c1
  refine (Tryd.strings_TrimPrefix s p w).mono ?_
  rintro e w' ⟨rfl, rfl⟩
  exact ⟨_, rfl, Below.refl _ _, rfl⟩

theorem atoi_ent (s : ByteArray) (hs : s.size ≤ 1000000) : EntOK Tryd.prog 31 [us s] (.tup [ui (atoiV s.data.toList), .one .unk]) := by
  refine ent_of_quiet (enters_of (fn := Tryd.f31) (by kernel_rfl) (by kernel_rfl) (by kernel_rfl)) rfl rfl fun I w vs hI hg hu => ?_
  obtain ⟨v0, l1, rfl, c0, r1⟩ := F2.cons_left hu
  obtain rfl := F2.nil_left r1
  obtain rfl := ur_str c0
  obtain ⟨m, tS, pS, tR, pR, _, _, gS, gR⟩ := hg
  have cellOf : ∀ (g : Nat) (x : Value), Laid I w g [x] → w.cell? ⟨g, 0, none⟩ = some x := by
    rintro g x ⟨arr, T, f, h1, h2, h3⟩
    simp only [World.cell?, h1, Option.isSome_none, Bool.false_eq_true, if_false]
    rw [← Array.getElem?_toList, h2]; rfl
  unfold atoiV
  cases ha : Lib.atoiAll s.data.toList with
  | ok v =>
    refine (Tryd.strconv_Atoi_ok s (by omega) v ha w).mono ?_
    rintro e w' ⟨rfl, hw⟩
    refine ⟨_, rfl, ?_, _, rfl, rfl, rfl, trivial⟩
    rcases hw with rfl | ⟨t, rfl⟩
    · exact Below.refl _ _
    · unfold Lib.bytesWorld
      refine Below.trans (b := w.drew.alloc (.cells (Lib.bytesCells w 5 t) 5)) ((Below.refl _ _).drew.alloc (Nat.le_refl _) _) ?_
      have hb : ∀ (x : World) (a : Addr) (n : Nat), w.heap.size ≤ a.block → Below w.heap.size x (x.freeze a n) := by
        intro x a n h
        refine ⟨by unfold World.freeze; split <;> rfl, by unfold World.freeze; split <;> rfl, by unfold World.freeze; split <;> rfl, ?_, fun k hk => ?_⟩
        · unfold World.freeze; split <;> simp
        · have hne : a.block ≠ k := by omega
          unfold World.freeze
          split
          · rfl
          · simp only [Array.getElem?_modify, hne, if_false]
      exact hb _ _ _ (Nat.le_refl _)
  | range =>
    refine (Tryd.strconv_Atoi_range s (by omega) ha _ w (cellOf _ _ gR) (.inr ⟨_, _, rfl⟩)).mono ?_
    rintro e w' ⟨N, rfl, _, _, hB⟩
    exact ⟨_, rfl, hB, _, rfl, rfl, rfl, trivial⟩
  | _ =>
    refine (Any.strconv_Atoi_syntax Tryd.laysC172 s (by omega) ha _ w (cellOf _ _ gS) (.inr ⟨_, _, rfl⟩)).mono ?_
    rintro e w' ⟨N, rfl, _, _, hB⟩
    exact ⟨_, rfl, hB, _, rfl, rfl, rfl, trivial⟩

theorem itoa_ent (n : Int) (h0 : -9223372036854775808 ≤ n) (h1 : n ≤ 9223372036854775807) : EntOK Tryd.prog 34 [ui n] (.w (ust (itoaL n))) := by
  refine ent_of_quiet (enters_of (fn := Tryd.f34) (by kernel_rfl) (by kernel_rfl) (by kernel_rfl)) rfl rfl fun I w vs hI hg hu => ?_
  obtain ⟨v0, l1, rfl, c0, r1⟩ := F2.cons_left hu
  obtain rfl := F2.nil_left r1
  have c0 : v0 = .int .i64 n := c0
  subst c0
  obtain ⟨m, tS, pS, tR, pR, _, gT, _⟩ := hg
  have hT : Lib.TabIs Tryd.prog w "internal/strconv.uint64pow10" .u64 Lib.pow10Tab := by
    obtain ⟨arr, T, f, h1, h2, h3⟩ := gT
    unfold Lib.TabIs World.var?
    rw [show Tryd.prog.globalNamed "internal/strconv.uint64pow10" = some 3 by kernel_rfl]
    simp only [Option.bind_some, h1]
    rw [← h2]
  refine (Tryd.strconv_Itoa n h0 h1 w hT).mono ?_
  rintro e w' ⟨rfl, k, os, rfl⟩
  rw [itoaL_eq h0 h1]
  refine ⟨_, rfl, (below_drewN k).trans ⟨rfl, rfl, rfl, ?_, fun i hi => ?_⟩, rfl⟩
  · simp [Sort.grow]
  · unfold Sort.grow
    exact Array.getElem?_append_left hi

/- Strings one behind the other. -/
def toS (g : Nat → Nat → D) (i : Nat) : ByteArray := match g i 0 with
  | .str s => s
  | _ => ⟨#[]⟩
def isStr : D → Bool
  | .str _ => true
  | _ => false
theorem isStr_elim {x : D} (h : isStr x = true) : ∃ s : ByteArray, x = D.str s := by
  unfold isStr at h
  split at h
  · exact ⟨_, rfl⟩
  · cases h
def isS (n : Nat) (g : Nat → Nat → D) : Bool := (List.range n).all fun i => isStr (g i 0)
theorem isS_elim {n : Nat} {g : Nat → Nat → D} (h : isS n g = true) : ∀ i, i < n → g i 0 = D.str (toS g i) := by
  unfold isS at h
  intro i hi
  obtain ⟨x, hx⟩ := isStr_elim (List.all_eq_true.1 h i (List.mem_range.2 hi))
  unfold toS
  rw [hx]
theorem isS_intro {n : Nat} {g : Nat → Nat → D} (h : ∀ i, i < n → ∃ x : ByteArray, g i 0 = D.str x) : isS n g = true := by
  unfold isS
  refine List.all_eq_true.2 fun i hi => ?_
  obtain ⟨x, hx⟩ := h i (List.mem_range.1 hi)
  rw [hx]; rfl
def rowS (n : Nat) (g : Nat → Nat → D) : List (List UInt8) := (List.range n).map fun i => (toS g i).data.toList

theorem join_ent (n e : Nat) (g : Nat → Nat → D) (sep : ByteArray) (hn : n ≤ 1000000) (he : n = 0 ∨ e = 1) (hS : isS n g = true) (hl : (Lib.join (rowS n g) sep.data.toList).length ≤ 140737488355328) :
    EntOK Tryd.prog 35 [.one (.d (.slc n e g)), us sep] (.w (ust (Lib.join (rowS n g) sep.data.toList))) := by
  refine ent_of_quiet (enters_of (fn := Tryd.f35) (by kernel_rfl) (by kernel_rfl) (by kernel_rfl)) rfl rfl fun I w vs hI hg hu => ?_
  obtain ⟨v0, l1, rfl, c0, r1⟩ := F2.cons_left hu
  obtain ⟨v1, l2, rfl, c1, r2⟩ := F2.cons_left r1
  obtain rfl := F2.nil_left r2
  obtain rfl := ur_str c1
  obtain ⟨A, cap, rfl, hcap, hel⟩ := c0
  rcases Nat.eq_zero_or_pos n with rfl | hpos
  · refine (Tryd.strings_Join_none A cap sep w).mono ?_
    rintro e' w' ⟨rfl, rfl⟩
    exact ⟨_, rfl, Below.refl _ _, rfl⟩
  · obtain rfl : e = 1 := by omega
    obtain ⟨a, u, rfl, _, hc, _⟩ := hel 0 hpos 0 (by omega)
    have hlt := cell_lt hc
    have hsp : a.spot = none := by
      unfold World.cell? at hc
      split at hc
      · cases hh : a.spot with
        | none => rfl
        | some x => simp [Addr.add, hh] at hc
      · cases hc
    obtain ⟨b, o, sp⟩ := a
    simp only at hsp
    subst hsp
    have hxs : ((List.range n).map fun i => toS g i).length = n := by simp
    have := Tryd.strings_Join b o cap ((List.range n).map fun i => toS g i) sep w (fun j x hx => by
      have hj : j < n := by have := lt_of_getElem? hx; rwa [hxs] at this
      simp only [List.getElem?_map, List.getElem?_range hj, Option.map_some, Option.some.injEq] at hx
      obtain ⟨a', u', ha', _, hc', hd'⟩ := hel j hj 0 (by omega)
      cases ha'
      rw [isS_elim hS j hj] at hd'
      have hd' : u' = .string (toS g j) := hd'
      rw [← hx, ← hd', ← hc', add_own, show o + (j * 1 + 0) = o + j by omega]) (by simpa [Addr.add] using hlt) (by rw [hxs]; omega) (by rw [hxs]; exact hcap) (by simpa [rowS, List.map_map, Function.comp_def] using hl)
    rw [hxs] at this
    refine this.mono ?_
    rintro e' w' ⟨rfl, hB⟩
    refine ⟨_, rfl, hB, ?_⟩
    show Value.string _ = Value.string _
    simp [rowS, List.map_map, Function.comp_def, bs]

def eCut (u : List U) : Option (Bool × V) := match u with
  | [.one (.d (.str s)), .one (.d (.str ⟨⟨[c]⟩⟩))] => some (decide (s.size ≤ 1000000), .tup [ust (cut1 c s.data.toList).1, ust (cut1 c s.data.toList).2.1, .one (.d (.bool (cut1 c s.data.toList).2.2))])
  | _ => none
def eSplit (u : List U) : Option (Bool × V) := match u with
  | [.one (.d (.str s)), .one (.d (.str ⟨⟨[c]⟩⟩))] => some (decide (s.size ≤ 1000000), .w (.one (.d (.slc (splitL c s.data.toList).length 1 fun i _ => .str (bs ((splitL c s.data.toList).getD i []))))))
  | _ => none
def eTrimP (u : List U) : Option (Bool × V) := match u with
  | [.one (.d (.str s)), .one (.d (.str p))] => some (true, .w (ust (Lib.trimPrefix s.data.toList p.data.toList)))
  | _ => none
def eAtoi (u : List U) : Option (Bool × V) := match u with
  | [.one (.d (.str s))] => some (decide (s.size ≤ 1000000), .tup [ui (atoiV s.data.toList), .one .unk])
  | _ => none
def eItoa (u : List U) : Option (Bool × V) := match u with
  | [.one (.d (.int .i64 n))] => some (decide (-9223372036854775808 ≤ n) && decide (n ≤ 9223372036854775807), .w (ust (itoaL n)))
  | _ => none
def eJoin (u : List U) : Option (Bool × V) := match u with
  | [.one (.d (.slc n e g)), .one (.d (.str sep))] => some (decide (n ≤ 1000000) && ((decide (n = 0) || decide (e = 1)) && (isS n g && decide ((Lib.join (rowS n g) sep.data.toList).length ≤ 140737488355328))), .w (ust (Lib.join (rowS n g) sep.data.toList)))
  | _ => none

def G11 : Tab := addE (addE (addE (addE (addE (addE G10 28 eCut) 29 eSplit) 30 eTrimP) 31 eAtoi) 34 eItoa) 35 eJoin
theorem G11_ok : GOK Tryd.prog G11 := by
  refine addE_ok (addE_ok (addE_ok (addE_ok (addE_ok (addE_ok G10_ok ?_) ?_) ?_) ?_) ?_) ?_
  all_goals
    intro us v h
    simp only [eCut, eSplit, eTrimP, eAtoi, eItoa, eJoin] at h
    split at h <;> try (cases h; done)
    simp only [Option.some.injEq, Prod.mk.injEq, Bool.and_eq_true, Bool.or_eq_true, decide_eq_true_eq, true_and] at h
  · obtain ⟨h1, rfl⟩ := h
    exact cut_ent _ _ (by omega)
  · obtain ⟨h1, rfl⟩ := h
    exact split_ent _ _ (by omega)
  · subst h
    exact trimP_ent _ _
  · obtain ⟨h1, rfl⟩ := h
    exact atoi_ent _ h1
  · obtain ⟨⟨h1, h2⟩, rfl⟩ := h
    exact itoa_ent _ h1 h2
  · obtain ⟨⟨h1, h2, h3, h4⟩, rfl⟩ := h
    exact join_ent _ _ _ _ h1 h2 h3 h4

end
end Sh
end Go.Proofs.YtamdjlpobonmiaaDoor

/- The example of the chapter. -/
namespace Go.Proofs.YtamdjlpobonmiaaDoor
namespace Sh
set_option maxRecDepth 100000

noncomputable section

theorem tAw : fnV Tryd.prog G11 16 Tryd.f9 [] = some (rb true) := by kernel_rfl
def eAwake (u : List U) : Option (Bool × V) := match u with
  | [] => some (true, rb true)
  | _ => none
def G12 : Tab := addE G11 9 eAwake
theorem G12_ok : GOK Tryd.prog G12 := by
  refine addE_ok G11_ok ?_
  intro us v h
  unfold eAwake at h
  split at h <;> try (cases h; done)
  simp only [Option.some.injEq, Prod.mk.injEq, true_and] at h
  subst h
  exact ent_fnV (fn := Tryd.f9) G11_ok (n := 16) (by kernel_rfl) (by kernel_rfl) tAw rfl rfl rfl

end
end Sh
end Go.Proofs.YtamdjlpobonmiaaDoor

/- Equal of both sides; Fair of the reference. -/
namespace Go.Proofs.YtamdjlpobonmiaaDoor
namespace Sh
set_option maxRecDepth 100000

noncomputable section

/-- Two classes differ. -/
def neAt (g h : Nat → Nat → Int) (j : Nat) : Bool := !(decide (g j 0 = h j 0) && (decide (g j 1 = h j 1) && true))
structure TE where
  n : Nat
  g : Nat → Nat → Int
  h : Nat → Nat → Int
  i : Nat
def LSle : LoopQ TE where
  N := 26
  live := [0, 1, 12, 13]
  liveX := [4]
  ext vals _ := match vals.getD 0 .any, vals.getD 1 .any, vals.getD 3 .any with
    | .w (.one (.d (.slc n _ g))), .w (.one (.d (.slc _ _ h))), .w (.one (.d (.int _ i))) => some ⟨n, toI g, toI h, i.toNat⟩
    | _, _, _ => none
  pre t := decide (t.n ≤ 1000000) && decide (t.i ≤ t.n)
  head t := ([.w (.one (sl t.n t.g)), .w (.one (sl t.n t.h)), ri (t.n : Int), ri t.i], [])
  res t := .br (decide (ffrom (neAt t.g t.h) t.n t.i < t.n)) (.out .ret [rb false] []) (.out (.exit 0) [.any] [])
theorem tSleL (n : Nat) (g h : Nat → Nat → Int) (i : Nat) : evN Tryd.prog G12 noPl 3 [] (loopAt Tryd.f44 0) ⟨spread [0, 1, 12, 13] [.w (.one (sl n g)), .w (.one (sl n h)), ri (n : Int), ri i] 0 26, []⟩ (LSle.s.d.obs 0) =
  bif decide ((↑i : Int) < (↑n : Int)) then
  bif decide ((↑i : Int) < (↑n : Int)) && true then
  bif decide ((↑i : Int) < (↑n : Int)) && true then
  bif !(decide (g i 0 = h i 0) && (decide (g i 1 = h i 1) && true)) then some (Ex.ret, [rb false], [])
  else some (Ex.norm, [V.w (U.one (sl n g)), V.w (U.one (sl n h)), ri (↑n : Int), ri (IntKind.i64.wrap ((↑i : Int) + 1))], [])
  else none
  else none
  else some (Ex.exit 0, [V.any], []) := by kernel_rfl

def mE (s s2 : ByteArray) (n : Nat) (g h : Nat → Nat → Int) : List B := [.var [.d (.str s), sl n g], .var [.d (.str s2), sl n h]]
structure TE2 where
  s : ByteArray
  s2 : ByteArray
  n : Nat
  g : Nat → Nat → Int
  h : Nat → Nat → Int
  i : Nat
def LReq : LoopQ TE2 where
  N := 38
  live := [2, 3, 5]
  liveX := [4]
  ext vals mem := match mem.getD 0 .gone, mem.getD 1 .gone, vals.getD 2 .any with
    | .var [.d (.str s), .d (.slc n _ g)], .var [.d (.str s2), .d (.slc _ _ h)], .w (.one (.d (.int _ i))) => some ⟨s, s2, n, toI g, toI h, i.toNat⟩
    | _, _, _ => none
  pre t := decide (t.n ≤ 1000000) && decide (t.i ≤ t.n)
  head t := ([.w (.one (.ptr 0 0)), .w (.one (.ptr 1 0)), ri t.i], mE t.s t.s2 t.n t.g t.h)
  res t := .br (decide (ffrom (neAt t.g t.h) t.n t.i < t.n)) (.out .ret [rb false] (mE t.s t.s2 t.n t.g t.h)) (.out (.exit 0) [.any] (mE t.s t.s2 t.n t.g t.h))
theorem tReqL (s s2 : ByteArray) (n : Nat) (g h : Nat → Nat → Int) (i : Nat) : evN Tryd.prog G12 noPl 3 [] (loopAt Tryd.f13 0) ⟨spread [2, 3, 5] [.w (.one (.ptr 0 0)), .w (.one (.ptr 1 0)), ri i] 0 38, mE s s2 n g h⟩ (LReq.s.d.obs 2) =
  bif decide ((↑i : Int) < (↑n : Int)) then
  bif decide ((↑i : Int) < (↑n : Int)) && true then
  bif decide ((↑i : Int) < (↑n : Int)) && true then
  bif !(decide (g i 0 = h i 0) && (decide (g i 1 = h i 1) && true)) then some (Ex.ret, [rb false], [B.var [C.d (D.str s), sl n g], B.var [C.d (D.str s2), sl n h]])
  else some (Ex.norm, [V.w (U.one (C.ptr 0 0)), V.w (U.one (C.ptr 1 0)), ri (IntKind.i64.wrap ((↑i : Int) + 1))], [B.var [C.d (D.str s), sl n g], B.var [C.d (D.str s2), sl n h]])
  else none
  else none
  else some (Ex.exit 0, [V.any], [B.var [C.d (D.str s), sl n g], B.var [C.d (D.str s2), sl n h]]) := by kernel_rfl

/-- A step at which the reference's value falls. -/
def refU (g : Nat → Nat → Int) (j : Nat) : Bool := decide (vAt (g j 1) (g j 0) < vAt (g (j - 1) 1) (g j 0 - 1))
structure TF1 where
  s : ByteArray
  n : Nat
  g : Nat → Nat → Int
  i : Nat
def LRfa : LoopQ TF1 where
  N := 42
  live := [1, 3]
  liveX := [2]
  ext vals mem := match mem.getD 0 .gone, vals.getD 1 .any with
    | .var [.d (.str s), .d (.slc n _ g)], .w (.one (.d (.int _ i))) => some ⟨s, n, toI g, i.toNat⟩
    | _, _ => none
  pre t := szG t.s t.n && (validB t.s t.n (cz t.n 2 t.g) && (decide (1 ≤ t.i) && decide (t.i ≤ t.n)))
  head t := ([.w (.one (.ptr 0 0)), ri t.i], mT t.s t.n t.g)
  res t := .br (decide (ffrom (refU t.g) t.n t.i < t.n)) (.out .ret [rb false] (mT t.s t.n t.g)) (.out (.exit 0) [.any] (mT t.s t.n t.g))
theorem tRfaL (s : ByteArray) (n : Nat) (g : Nat → Nat → Int) (i : Nat) : evN Tryd.prog G12 noPl 3 [] (loopAt Tryd.f25 0) ⟨spread [1, 3] [.w (.one (.ptr 0 0)), ri i] 0 42, mT s n g⟩ (LRfa.s.d.obs 1) =
  bif decide ((↑i : Int) < (↑n : Int)) then
  bif decide ((↑i : Int) < (↑n : Int)) && true then
  bif decide (0 ≤ IntKind.i64.wrap ((↑i : Int) - 1)) && decide (IntKind.i64.wrap ((↑i : Int) - 1) < (↑n : Int)) && true then
  bif decide ((↑i : Int) < (↑n : Int)) && true then
  bif decide (IntKind.i64.wrap ((IntKind.i64.wrap (g i 0 * g i 1)).tdiv 1000) < IntKind.i64.wrap ((IntKind.i64.wrap (IntKind.i64.wrap (g i 0 - 1) * g (IntKind.i64.wrap ((↑i : Int) - 1)).toNat 1)).tdiv 1000)) then some (Ex.ret, [rb false], (mT s n g))
  else some (Ex.norm, [V.w (U.one (C.ptr 0 0)), ri (IntKind.i64.wrap ((↑i : Int) + 1))], (mT s n g))
  else none
  else none
  else none
  else some (Ex.exit 0, [V.any], (mT s n g)) := by kernel_rfl

theorem wrapS {i n : Nat} (h : i ≤ n) (hn : n ≤ 1000000) : IntKind.i64.wrap ((i : Int) + 1) = ((i + 1 : Nat) : Int) := by rw [wrap_id (by omega) (by omega)]; omega

theorem loopSle : LoopC Tryd.prog (loopAt Tryd.f44 0) LSle.g := by
  refine loopC_q LSle G12_ok (pl := noPl) PlOK.none 3 (ls := []) LsOK.nil (fun t => t.n ≤ 1000000 ∧ t.i ≤ t.n) (fun t => t.n - t.i) ?_ ?_
  · rintro ⟨n, g, h, i⟩ hp
    simpa [LSle] using hp
  · rintro ⟨n, g, h, i⟩ ⟨hn, hi⟩
    have ht := tSleL n g h i
    simp only [LSle] at hn hi ht ⊢
    rw [show ([] : List B).length = 0 from rfl, ht]
    by_cases hlt : i < n
    · have h1 : (i : Int) < n := by omega
      rw [ffrom_step hlt]
      simp only [h1, wrapS hi hn, decide_true, cond_true, Bool.and_self]
      change (∃ s', (bif neAt g h i then _ else _) = _ ∧ _) ∨ ((bif neAt g h i then _ else _) = _ ∧ _)
      cases hp : neAt g h i with
      | true =>
        right
        simp only [cond_true, hlt, decide_true, RT.r]
        exact ⟨trivial, fun h => by cases h⟩
      | false =>
        left
        exact ⟨⟨n, g, h, i + 1⟩, rfl, ⟨hn, hlt⟩, by simp only; omega, rfl⟩
    · right
      obtain rfl : i = n := by omega
      rw [ffrom_end (Nat.le_refl _)]
      simp only [Int.lt_irrefl, Nat.lt_irrefl, decide_false, cond_false, RT.r]
      exact ⟨trivial, fun h => by cases h⟩

theorem loopReq : LoopC Tryd.prog (loopAt Tryd.f13 0) LReq.g := by
  refine loopC_q LReq G12_ok (pl := noPl) PlOK.none 3 (ls := []) LsOK.nil (fun t => t.n ≤ 1000000 ∧ t.i ≤ t.n) (fun t => t.n - t.i) ?_ ?_
  · rintro ⟨s, s2, n, g, h, i⟩ hp
    simpa [LReq] using hp
  · rintro ⟨s, s2, n, g, h, i⟩ ⟨hn, hi⟩
    have ht := tReqL s s2 n g h i
    simp only [LReq] at hn hi ht ⊢
    rw [show (mE s s2 n g h).length = 2 from rfl, ht]
    by_cases hlt : i < n
    · have h1 : (i : Int) < n := by omega
      rw [ffrom_step hlt]
      simp only [h1, wrapS hi hn, decide_true, cond_true, Bool.and_self]
      change (∃ s', (bif neAt g h i then _ else _) = _ ∧ _) ∨ ((bif neAt g h i then _ else _) = _ ∧ _)
      cases hp : neAt g h i with
      | true =>
        right
        simp only [cond_true, hlt, decide_true, RT.r]
        exact ⟨rfl, fun h => by cases h⟩
      | false =>
        left
        exact ⟨⟨s, s2, n, g, h, i + 1⟩, rfl, ⟨hn, hlt⟩, by simp only; omega, rfl⟩
    · right
      obtain rfl : i = n := by omega
      rw [ffrom_end (Nat.le_refl _)]
      simp only [Int.lt_irrefl, Nat.lt_irrefl, decide_false, cond_false, RT.r]
      exact ⟨rfl, fun h => by cases h⟩

theorem loopRfa : LoopC Tryd.prog (loopAt Tryd.f25 0) LRfa.g := by
  refine loopC_q LRfa G12_ok (pl := noPl) PlOK.none 3 (ls := []) LsOK.nil (fun t => szG t.s t.n = true ∧ validB t.s t.n (cz t.n 2 t.g) = true ∧ 1 ≤ t.i ∧ t.i ≤ t.n) (fun t => t.n - t.i) ?_ ?_
  · rintro ⟨s, n, g, i⟩ hp
    simpa [LRfa] using hp
  · rintro ⟨s, n, g, i⟩ ⟨hz, hv, h1, hi⟩
    have ht := tRfaL s n g i
    simp only [LRfa] at hz hv h1 hi ht ⊢
    rw [show (mT s n g).length = 1 from rfl, ht]
    have Vh := valid_iff.1 hv
    have hfew := Vh.few
    by_cases hlt : i < n
    · have q1 : (i : Int) < n := by omega
      have hw1 : IntKind.i64.wrap ((i : Int) - 1) = ((i - 1 : Nat) : Int) := by rw [wrap_id (by omega) (by omega)]; omega
      have q2 : ((i - 1 : Nat) : Int) < n := by omega
      have q3 : (0 : Int) ≤ ((i - 1 : Nat) : Int) := by omega
      have e0 : g i 0 = cz n 2 g i 0 := (cz_in hlt (by omega)).symm
      have e1 : g i 1 = cz n 2 g i 1 := (cz_in hlt (by omega)).symm
      have e2 : g (i - 1) 1 = cz n 2 g (i - 1) 1 := (cz_in (by omega) (by omega)).symm
      have f1 := Vh.from_le i hlt
      have f0 := Vh.mono (i := 0) (j := i) (by omega) hlt
      rw [Vh.zero] at f0
      have p0 := Vh.price0 i hlt
      have p1 := Vh.price1 i hlt
      have p2 := Vh.price0 (i - 1) (by omega)
      have p3 := Vh.price1 (i - 1) (by omega)
      rw [← e0] at f0 f1
      rw [← e1] at p0 p1
      rw [← e2] at p2 p3
      have hval : ∀ w p : Int, 0 ≤ w → w ≤ 1000000 → 0 ≤ p → p ≤ 1000000 → IntKind.i64.wrap ((IntKind.i64.wrap (w * p)).tdiv 1000) = vAt p w := by
        intro w p a b c d
        obtain ⟨m0, m1⟩ := mul_bd a b c d
        have r1 : IntKind.i64.wrap (w * p) = w * p := wrap_id (by omega) (by omega)
        rw [r1, Int.tdiv_eq_ediv_of_nonneg m0]
        exact wrap_id (by omega) (by omega)
      have hg : IntKind.i64.wrap (g i 0 - 1) = g i 0 - 1 := wrap_id (by omega) (by omega)
      rw [ffrom_step hlt]
      simp only [q1, q2, q3, hw1, hg, Int.toNat_natCast, wrapS hi (by omega : n ≤ 1000000), decide_true, cond_true, Bool.and_self]
      rw [hval _ _ (by omega) (by omega) p0 p1, hval _ _ (by omega) (by omega) p2 p3]
      change (∃ s', (bif refU g i then _ else _) = _ ∧ _) ∨ ((bif refU g i then _ else _) = _ ∧ _)
      cases hp : refU g i with
      | true =>
        right
        simp only [cond_true, hlt, decide_true, RT.r]
        exact ⟨trivial, fun h => by cases h⟩
      | false =>
        left
        exact ⟨⟨s, n, g, i + 1⟩, rfl, ⟨hz, hv, by simp only; omega, hlt⟩, by simp only; omega, rfl⟩
    · right
      obtain rfl : i = n := by omega
      rw [ffrom_end (Nat.le_refl _)]
      simp only [Int.lt_irrefl, Nat.lt_irrefl, decide_false, cond_false, RT.r]
      exact ⟨trivial, fun h => by cases h⟩

theorem tSle (n m : Nat) (g h : Nat → Nat → Int) : fnW Tryd.prog G12 noPl 6 [some LSle.g] Tryd.f44 [.one (sl n g), .one (sl m h)] =
  bif !decide ((↑n : Int) = (↑m : Int)) then some (rb false) else
  bif decide (n ≤ 1000000) && true && sameM ([V.w (U.one (sl n g)), V.w (U.one (sl m h)), ri (↑n : Int), ri 0], []) ([V.w (U.one (sl n g)), V.w (U.one (sl n h)), ri (↑n : Int), ri 0], []) then
  bif decide (ffrom (neAt g h) n 0 < n) then some (rb false)
  else some (rb true)
  else none := by kernel_rfl
theorem tReq (s s2 : ByteArray) (n m : Nat) (g h : Nat → Nat → Int) : fnW Tryd.prog G12 noPl 6 [some LReq.g] Tryd.f13 [tar s n g, tar s2 m h] =
  bif !s.toList == s2.toList then some (rb false) else
  bif !decide ((↑n : Int) = (↑m : Int)) then some (rb false) else
  bif decide (n ≤ 1000000) && true && sameM ([V.w (U.one (C.ptr 0 0)), V.w (U.one (C.ptr 1 0)), ri 0], [B.var [C.d (D.str s), sl n g], B.var [C.d (D.str s2), sl m h]]) ([V.w (U.one (C.ptr 0 0)), V.w (U.one (C.ptr 1 0)), ri 0], [B.var [C.d (D.str s), sl n g], B.var [C.d (D.str s2), sl n h]]) then
  bif decide (ffrom (neAt g h) n 0 < n) then some (rb false)
  else some (rb true)
  else none := by kernel_rfl
theorem tRfa (s : ByteArray) (n : Nat) (g : Nat → Nat → Int) : fnW Tryd.prog G12 noPl 6 [some LRfa.g] Tryd.f25 [tar s n g] =
  bif (tarG n 2 (rowI g)) && szG s n then
  bif !validB s n (cz n 2 g) then some (rb false) else
  bif szG s n && (validB s n (cz n 2 g) && decide (Int.toNat 1 ≤ n)) && sameM ([V.w (U.one (C.ptr 0 0)), ri 1], (mT s n g)) ([V.w (U.one (C.ptr 0 0)), ri (↑1 : Int)], (mT s n g)) then
  bif decide (ffrom (refU g) n (Int.toNat 1) < n) then some (rb false)
  else some (rb true)
  else none
  else none := by kernel_rfl

end
end Sh
end Go.Proofs.YtamdjlpobonmiaaDoor

/- Equal of both sides; Fair of the reference: the entries. -/
namespace Go.Proofs.YtamdjlpobonmiaaDoor
namespace Sh
set_option maxRecDepth 100000

noncomputable section

def eqR (n : Nat) (g : Nat → Nat → Int) (m : Nat) (h : Nat → Nat → Int) : Bool := decide (n = m) && !decide (ffrom (neAt g h) n 0 < n)
theorem eqR_iff {n m : Nat} {g h : Nat → Nat → Int} : eqR n g m h = true ↔ n = m ∧ ∀ i, i < n → g i 0 = h i 0 ∧ g i 1 = h i 1 := by
  obtain ⟨_, f2, f3, f4⟩ := ffrom_spec (p := neAt g h) (n := n) _ 0 rfl (Nat.zero_le _)
  have hne : ∀ i, neAt g h i = false ↔ (g i 0 = h i 0 ∧ g i 1 = h i 1) := fun i => by
    unfold neAt
    simp
  unfold eqR
  simp only [Bool.and_eq_true, decide_eq_true_eq, Bool.not_eq_true', decide_eq_false_iff_not]
  constructor
  · rintro ⟨rfl, h1⟩
    exact ⟨rfl, fun i hi => (hne i).1 (f3 i (Nat.zero_le _) (by omega))⟩
  · rintro ⟨rfl, h1⟩
    refine ⟨rfl, fun h2 => ?_⟩
    have := f4 h2
    rw [(hne _).2 (h1 _ h2)] at this
    cases this
theorem eqR_cz {n m : Nat} {g h : Nat → Nat → Int} : eqR n (cz n 2 g) m (cz m 2 h) = eqR n g m h := by
  rw [Bool.eq_iff_iff, eqR_iff, eqR_iff]
  constructor
  · rintro ⟨rfl, h1⟩
    refine ⟨rfl, fun i hi => ?_⟩
    have := h1 i hi
    rwa [cz_in hi (by omega), cz_in hi (by omega), cz_in hi (by omega), cz_in hi (by omega)] at this
  · rintro ⟨rfl, h1⟩
    refine ⟨rfl, fun i hi => ?_⟩
    rw [cz_in hi (by omega), cz_in hi (by omega), cz_in hi (by omega), cz_in hi (by omega)]
    exact h1 i hi
theorem eqR_self {n : Nat} {g : Nat → Nat → Int} : eqR n g n g = true := eqR_iff.2 ⟨rfl, fun _ _ => ⟨rfl, rfl⟩⟩

theorem sle_ent (n m : Nat) (g h : Nat → Nat → Int) (hn : n ≤ 1000000) : EntOK Tryd.prog 44 [.one (sl n g), .one (sl m h)] (rb (eqR n g m h)) := by
  refine ent_fnW (fn := Tryd.f44) G12_ok (pl := noPl) PlOK.none (n := 6) (ls := [some LSle.g]) (by kernel_rfl) (by kernel_rfl) (LsOK.one (x := loopAt Tryd.f44 0) (ls := []) (by kernel_rfl) loopSle) ?_ rfl rfl rfl
  rw [tSle]
  unfold eqR
  by_cases e : n = m
  · subst e
    rw [sameM_of rfl]
    simp only [hn, decide_true, Bool.not_true, cond_false, Bool.and_self, cond_true, Bool.true_and]
    cases decide (ffrom (neAt g h) n 0 < n) <;> rfl
  · have e' : ¬ (n : Int) = m := by omega
    simp only [e, e', decide_false, Bool.not_false, cond_true, Bool.false_and]

def eqT (s : ByteArray) (n : Nat) (g : Nat → Nat → Int) (s2 : ByteArray) (m : Nat) (h : Nat → Nat → Int) : Bool := (s.toList == s2.toList) && eqR n g m h
theorem req_ent (s s2 : ByteArray) (n m : Nat) (g h : Nat → Nat → Int) (hn : n ≤ 1000000) : EntOK Tryd.prog 13 [tar s n g, tar s2 m h] (rb (eqT s n g s2 m h)) := by
  refine ent_fnW (fn := Tryd.f13) G12_ok (pl := noPl) PlOK.none (n := 6) (ls := [some LReq.g]) (by kernel_rfl) (by kernel_rfl) (LsOK.one (x := loopAt Tryd.f13 0) (ls := []) (by kernel_rfl) loopReq) ?_ rfl rfl rfl
  rw [tReq]
  unfold eqT eqR
  cases s.toList == s2.toList with
  | false => rfl
  | true =>
    by_cases e : n = m
    · subst e
      rw [sameM_of rfl]
      simp only [hn, decide_true, Bool.not_true, cond_false, Bool.and_self, cond_true, Bool.true_and]
      cases decide (ffrom (neAt g h) n 0 < n) <;> rfl
    · have e' : ¬ (n : Int) = m := by omega
      simp only [e, e', decide_false, Bool.not_true, Bool.not_false, cond_false, cond_true, Bool.false_and, Bool.and_false]

/-- The reference's steps are the program's. -/
theorem unf_ref {s : ByteArray} {n : Nat} {g : Nat → Nat → Int} (V : Vd s n g) {i : Nat} (hi : i + 1 < n) : unf n g i = refU g (i + 1) := by
  have hup := V.up i hi
  have e1 : InC n g (g (i + 1) 0) (i + 1) := ⟨hi, Int.le_refl _, fun h3 => V.up (i + 1) h3⟩
  have e2 : InC n g (g (i + 1) 0 - 1) i := ⟨by omega, by omega, fun _ => by omega⟩
  have hle := V.from_le _ hi
  unfold unf refU
  rw [show 1 + i = i + 1 by omega, value_of V e1 hle, value_of V e2 (by omega), Nat.add_sub_cancel]
theorem ref_cz {n : Nat} {g : Nat → Nat → Int} {i : Nat} (h1 : 1 ≤ i) (h2 : i < n) : refU (cz n 2 g) i = refU g i := by
  unfold refU
  rw [cz_in h2 (by omega), cz_in h2 (by omega), cz_in (by omega) (by omega)]
theorem fair_ref {s : ByteArray} {n : Nat} {g : Nat → Nat → Int} (hv : validB s n g = true) : fairB s n g = !decide (ffrom (refU g) n 1 < n) := by
  have V := valid_iff.1 hv
  unfold fairB
  rw [hv, Bool.true_and]
  congr 1
  rw [decide_eq_decide]
  obtain ⟨_, f2, f3, f4⟩ := ffrom_spec (p := unf n g) (n := n - 1) _ 0 rfl (Nat.zero_le _)
  obtain ⟨r1, r2, r3, r4⟩ := ffrom_spec (p := refU g) (n := n) _ 1 rfl V.one
  constructor
  · intro h
    have h5 := f4 h
    rw [unf_ref V (by omega)] at h5
    rcases Nat.lt_or_ge (ffrom (refU g) n 1) n with h6 | h6
    · exact h6
    · have := r3 (ffrom (unf n g) (n - 1) 0 + 1) (by omega) (by omega)
      rw [h5] at this; cases this
  · intro h
    have h5 := r4 h
    rcases Nat.lt_or_ge (ffrom (unf n g) (n - 1) 0) (n - 1) with h6 | h6
    · exact h6
    · have := f3 (ffrom (refU g) n 1 - 1) (Nat.zero_le _) (by omega)
      rw [unf_ref V (by omega), show ffrom (refU g) n 1 - 1 + 1 = ffrom (refU g) n 1 by omega, h5] at this
      cases this
theorem ffrom_congr {p q : Nat → Bool} {n : Nat} : ∀ (m k : Nat), m = n - k → (∀ j, k ≤ j → j < n → p j = q j) → ffrom p n k = ffrom q n k := by
  intro m
  induction m with
  | zero => intro k h _; rw [ffrom_end (by omega), ffrom_end (by omega)]
  | succ m ih =>
    intro k h hpq
    rw [ffrom_step (p := p) (by omega), ffrom_step (p := q) (by omega), hpq k (Nat.le_refl _) (by omega), ih (k + 1) (by omega) (fun j h1 h2 => hpq j (by omega) h2)]

theorem rfa_ent (s : ByteArray) (n : Nat) (g : Nat → Nat → Int) (hz : szG s n = true) : EntOK Tryd.prog 25 [tar s n g] (rb (fairB s n (cz n 2 g))) := by
  refine ent_fnW (fn := Tryd.f25) G12_ok (pl := noPl) PlOK.none (n := 6) (ls := [some LRfa.g]) (by kernel_rfl) (by kernel_rfl) (LsOK.one (x := loopAt Tryd.f25 0) (ls := []) (by kernel_rfl) loopRfa) ?_ rfl rfl rfl
  rw [tRfa, tarG_rowI, Bool.true_and, hz, cond_true]
  cases hv : validB s n (cz n 2 g) with
  | false =>
    have : fairB s n (cz n 2 g) = false := by unfold fairB; rw [hv]; rfl
    rw [this]; rfl
  | true =>
    have V := valid_iff.1 hv
    have h1 : Int.toNat 1 ≤ n := V.one
    rw [sameM_of rfl, fair_ref hv, ffrom_congr (p := refU (cz n 2 g)) (q := refU g) _ 1 rfl (fun j a b => ref_cz a b)]
    simp only [h1, decide_true, Bool.not_true, cond_false, Bool.and_self, cond_true]
    change (bif decide (ffrom (refU g) n 1 < n) then _ else _) = _
    cases decide (ffrom (refU g) n 1 < n) <;> rfl

def eTT (k : ByteArray → Nat → (Nat → Nat → Int) → ByteArray → Nat → (Nat → Nat → Int) → Option (Bool × V)) : List U → Option (Bool × V) := eT fun s n g rest => match rest with
  | [.agg [.d (.str s2), .d (.slc m e h)]] => match k s n g s2 m (cz m 2 (toI h)) with
    | some (ok, v) => some (tarG m e h && ok, v)
    | none => none
  | _ => none
theorem eTT_ok {P : Program} {f : FuncId} {k : ByteArray → Nat → (Nat → Nat → Int) → ByteArray → Nat → (Nat → Nat → Int) → Option (Bool × V)} (h : ∀ s n g s2 m q v, k s n g s2 m q = some (true, v) → EntOK P f [tar s n g, tar s2 m q] v) :
    ∀ us v, eTT k us = some (true, v) → EntOK P f us v := eT_ok fun s n g rest v hk => by
  split at hk
  · rename_i s2 m e q
    split at hk
    · rename_i ok v' hk'
      simp only [Option.some.injEq, Prod.mk.injEq, Bool.and_eq_true] at hk
      obtain ⟨⟨hG, rfl⟩, rfl⟩ := hk
      refine (h s n g s2 m _ _ hk').weaken fun w I ρ M vs hu => ?_
      obtain ⟨v0, l1, rfl, c0, r1⟩ := F2.cons_left hu
      obtain ⟨v1, l2, rfl, c1, r2⟩ := F2.cons_left r1
      exact ⟨c0, tarW hG c1, r2⟩
    · cases hk
  · cases hk

/-- Two rows of classes. -/
def eSle (us : List U) : Option (Bool × V) := match us with
  | [.one (.d (.slc n e g)), .one (.d (.slc m e' h))] => some (tarG n e g && (tarG m e' h && decide (n ≤ 1000000)), rb (eqR n (toI g) m (toI h)))
  | _ => none
theorem rowW {w : World} {I : Addr → Prop} {n e : Nat} {g : Nat → Nat → D} {v : Value} (hG : tarG n e g = true) (h : DR w I (.slc n e g) v) : DR w I (.slc n 2 fun i j => .int .i64 (toI g i j)) v := by
  unfold tarG at hG
  simp only [Bool.and_eq_true, Bool.or_eq_true, decide_eq_true_eq] at hG
  obtain ⟨h0, hR⟩ := hG
  rcases h0 with rfl | rfl
  · exact slc0 h
  · exact slcR (isR_elim hR) h
theorem eSle_ok : ∀ us v, eSle us = some (true, v) → EntOK Tryd.prog 44 us v := by
  intro us v hh
  unfold eSle at hh
  split at hh
  · rename_i n e g m e' h
    simp only [Option.some.injEq, Prod.mk.injEq, Bool.and_eq_true, decide_eq_true_eq] at hh
    obtain ⟨⟨h1, h2, h3⟩, rfl⟩ := hh
    refine (sle_ent n m (toI g) (toI h) h3).weaken fun w I ρ M vs hu => ?_
    obtain ⟨v0, l1, rfl, c0, r1⟩ := F2.cons_left hu
    obtain ⟨v1, l2, rfl, c1, r2⟩ := F2.cons_left r1
    exact ⟨rowW h1 c0, rowW h2 c1, r2⟩
  · cases hh

def G14 : Tab := addE (addE (addE G12 44 eSle) 13 (eTT fun s n g s2 m h => some (decide (n ≤ 1000000), rb (eqT s n g s2 m h)))) 25 (eT0 fun s n g => some (szG s n, rb (fairB s n (cz n 2 g))))
theorem G14_ok : GOK Tryd.prog G14 := by
  refine addE_ok (addE_ok (addE_ok G12_ok eSle_ok) (eTT_ok ?_)) (eT0_ok ?_)
  · intro s n g s2 m q v hk
    simp only [Option.some.injEq, Prod.mk.injEq, decide_eq_true_eq] at hk
    obtain ⟨h1, rfl⟩ := hk
    exact req_ent s s2 n m g q h1
  · intro s n g v hk
    simp only [Option.some.injEq, Prod.mk.injEq] at hk
    obtain ⟨h1, rfl⟩ := hk
    exact rfa_ent s n g h1

theorem tPeq (s s2 : ByteArray) (n m : Nat) (g h : Nat → Nat → Int) : fnV Tryd.prog G14 6 Tryd.f24 [tar s n g, tar s2 m h] =
  bif s.toList == s2.toList then
  bif (tarG n 2 (rowI g)) && ((tarG m 2 (rowI h)) && decide (n ≤ 1000000)) then some (rb (eqR n g m h))
  else none
  else some (rb false) := by kernel_rfl

end
end Sh
end Go.Proofs.YtamdjlpobonmiaaDoor

/- Itoa of the reference. -/
namespace Go.Proofs.YtamdjlpobonmiaaDoor
namespace Sh
set_option maxRecDepth 100000

noncomputable section

theorem peq_ent (s s2 : ByteArray) (n m : Nat) (g h : Nat → Nat → Int) (hn : n ≤ 1000000) : EntOK Tryd.prog 24 [tar s n g, tar s2 m h] (rb (eqT s n g s2 m h)) := by
  refine ent_fnV (fn := Tryd.f24) G14_ok (n := 6) (by kernel_rfl) (by kernel_rfl) ?_ rfl rfl rfl
  rw [tPeq]
  unfold eqT
  cases s.toList == s2.toList with
  | false => rfl
  | true => simp only [tarG_rowI, hn, decide_true, Bool.and_self, cond_true, Bool.true_and]

/-- The digits of a number, none of 0. -/
def dgt0 (u : Nat) : List UInt8 := bif decide (u = 0) then [] else digF 20 u
theorem digF_len : ∀ (f u : Nat), (digF f u).length ≤ f
  | 0, _ => Nat.le_refl _
  | f + 1, u => by
    unfold digF
    cases Nat.blt u 10 with
    | true => simp
    | false => have := digF_len f (u / 10); simp only [cond_false, List.length_append, List.length_singleton]; omega
theorem dgt0_len (u : Nat) : (dgt0 u).length ≤ 20 := by
  unfold dgt0
  cases decide (u = 0) with
  | true => simp
  | false => exact digF_len 20 u
theorem digF_any : ∀ (f f' u : Nat), u < 10 ^ f → u < 10 ^ f' → 1 ≤ f → 1 ≤ f' → digF f u = digF f' u := fun f f' u h h' hf hf' => by rw [digF_dec f u h hf, digF_dec f' u h' hf']
theorem dgt0_step {u : Nat} (h : 0 < u) (hu : u < 10 ^ 19) : dgt0 u = dgt0 (u / 10) ++ [UInt8.ofNat (48 + u % 10)] := by
  have hp : (10 : Nat) ^ 19 = 10000000000000000000 := by decide
  unfold dgt0
  rw [show decide (u = 0) = false by simp; omega, cond_false, digF]
  by_cases h1 : u < 10
  · have : Nat.blt u 10 = true := by simpa using h1
    rw [this, cond_true, show u / 10 = 0 by omega]
    simp only [decide_true, cond_true, List.nil_append, show u % 10 = u by omega]
  · rw [blt_f h1, cond_false]
    have : decide (u / 10 = 0) = false := by simp; omega
    rw [this, cond_false]
    rw [digF_any 19 20 (u / 10) (by rw [hp]; omega) (by rw [Nat.pow_succ, hp]; omega) (by omega) (by omega)]

theorem bs_app (a b : List UInt8) : bs a ++ bs b = bs (a ++ b) := by
  apply ByteArray.ext
  rw [ByteArray.data_append]
  simp [bs]
theorem size_app (a b : ByteArray) : (a ++ b).size = a.size + b.size := ByteArray.size_append

structure TI where
  n : Nat
  acc : List UInt8
def LIto : LoopQ TI where
  N := 41
  live := [0, 3]
  liveX := [3]
  ext vals _ := match vals.getD 0 .any, vals.getD 1 .any with
    | .w (.one (.d (.int _ n))), .w (.one (.d (.str s))) => some ⟨n.toNat, s.data.toList⟩
    | _, _ => none
  pre t := decide (t.n ≤ 1000000000000000000) && decide (t.acc.length ≤ 1000000)
  head t := ([ri t.n, .w (ust t.acc)], [.tick 1 1])
  res t := .out (.exit 0) [.w (ust (dgt0 t.n ++ t.acc))] [.tick 1 1]
theorem tItoL (n : Nat) (acc : List UInt8) : evN Tryd.prog G14 noPl 3 [] (loopAt Tryd.f42 0) ⟨spread [0, 3] [ri n, .w (ust acc)] 0 41, [.tick 1 1]⟩ (LIto.s.d.obs 1) =
  bif decide (0 < (↑n : Int)) then
  bif byteG 1 fun a j => [D.int IntKind.u8 (IntKind.u8.wrap (IntKind.i64.wrap (48 + (↑n : Int).tmod 10)))].getD (a * 1 + j) D.nil then
  bif decide ((byteS 1 fun a j => [D.int IntKind.u8 (IntKind.u8.wrap (IntKind.i64.wrap (48 + (↑n : Int).tmod 10)))].getD (a * 1 + j) D.nil).size + (bs acc).size ≤ 9223372036854775807) then some (Ex.norm, [ri (IntKind.i64.wrap ((↑n : Int).tdiv 10)), V.w (U.one (C.d (D.str ((byteS 1 fun a j => [D.int IntKind.u8 (IntKind.u8.wrap (IntKind.i64.wrap (48 + (↑n : Int).tmod 10)))].getD (a * 1 + j) D.nil) ++ bs acc))))], [B.tick 1 1])
  else none
  else none
  else some (Ex.exit 0, [V.w (U.one (C.d (D.str (bs acc))))], [B.tick 1 1]) := by kernel_rfl
theorem tIto (n : Nat) : fnW Tryd.prog G14 noPl 6 [some LIto.g] Tryd.f42 [ui n] =
  bif byteG 1 fun a j => [D.int IntKind.u8 (IntKind.u8.wrap (IntKind.i64.wrap (48 + (↑n : Int).tmod 10)))].getD (a * 1 + j) D.nil then
  bif decide ((IntKind.i64.wrap ((↑n : Int).tdiv 10)).toNat ≤ 1000000000000000000) && true && sameM ([ri (IntKind.i64.wrap ((↑n : Int).tdiv 10)), V.w (U.one (C.d (D.str (byteS 1 fun a j => [D.int IntKind.u8 (IntKind.u8.wrap (IntKind.i64.wrap (48 + (↑n : Int).tmod 10)))].getD (a * 1 + j) D.nil))))], [B.tick 1 1]) ([ri (↑(IntKind.i64.wrap ((↑n : Int).tdiv 10)).toNat : Int), V.w (U.one (C.d (D.str (bs (List.map (fun i => byteOf ([D.int IntKind.u8 (IntKind.u8.wrap (IntKind.i64.wrap (48 + (↑n : Int).tmod 10)))].getD (i * 1 + 0) D.nil)) (List.range 1))))))], [B.tick 1 1]) then some (V.w (U.one (C.d (D.str (bs (dgt0 (IntKind.i64.wrap ((↑n : Int).tdiv 10)).toNat ++ List.map (fun i => byteOf ([D.int IntKind.u8 (IntKind.u8.wrap (IntKind.i64.wrap (48 + (↑n : Int).tmod 10)))].getD (i * 1 + 0) D.nil)) (List.range 1)))))))
  else none
  else none := by kernel_rfl

/-- One digit as a byte. -/
theorem digit1 (n : Nat) : (byteG 1 fun a j => [D.int IntKind.u8 (IntKind.u8.wrap (IntKind.i64.wrap (48 + (↑n : Int).tmod 10)))].getD (a * 1 + j) D.nil) = true ∧
    (byteS 1 fun a j => [D.int IntKind.u8 (IntKind.u8.wrap (IntKind.i64.wrap (48 + (↑n : Int).tmod 10)))].getD (a * 1 + j) D.nil) = bs [UInt8.ofNat (48 + n % 10)] := by
  have e1 : (n : Int).tmod 10 = ((n % 10 : Nat) : Int) := by
    rw [Int.tmod_eq_emod_of_nonneg (by omega)]; omega
  have e2 : IntKind.u8.wrap (IntKind.i64.wrap (48 + (↑n : Int).tmod 10)) = ((48 + n % 10 : Nat) : Int) := by
    rw [e1, wrap_id (by omega) (by omega)]
    unfold IntKind.wrap
    simp only [IntKind.signed, IntKind.bits, Bool.false_and, Bool.false_eq_true, if_false]
    omega
  rw [e2]
  constructor
  · unfold byteG
    simp only [List.range_one, List.all_cons, List.all_nil, Bool.and_true]
    show byteOk (D.int IntKind.u8 _) = true
    simp [byteOk]
    try omega
  · unfold byteS bs
    simp only [List.range_one, List.map_cons, List.map_nil]
    rfl
theorem tdiv10 (n : Nat) (h : n ≤ 1000000000000000000) : IntKind.i64.wrap ((↑n : Int).tdiv 10) = ((n / 10 : Nat) : Int) := by
  have e1 : (n : Int).tdiv 10 = ((n / 10 : Nat) : Int) := by
    rw [Int.tdiv_eq_ediv_of_nonneg (by omega)]; omega
  rw [e1, wrap_id (by omega) (by omega)]
theorem bs_size (l : List UInt8) : (bs l).size = l.length := rfl

theorem loopIto : LoopC Tryd.prog (loopAt Tryd.f42 0) LIto.g := by
  refine loopC_q LIto G14_ok (pl := noPl) PlOK.none 3 (ls := []) LsOK.nil (fun t => t.n ≤ 1000000000000000000 ∧ t.acc.length + (dgt0 t.n).length ≤ 1000020) (fun t => t.n) ?_ ?_
  · rintro ⟨n, acc⟩ h
    simp only [LIto, Bool.and_eq_true, decide_eq_true_eq] at h ⊢
    have := dgt0_len n
    omega
  · rintro ⟨n, acc⟩ ⟨h1, h2⟩
    have ht := tItoL n acc
    simp only [LIto] at h1 h2 ht ⊢
    rw [show [B.tick 1 1].length = 1 from rfl, ht, (digit1 n).1, (digit1 n).2, tdiv10 n h1, bs_app]
    by_cases hp : 0 < n
    · left
      have q : (0 : Int) < n := by omega
      have hs := dgt0_step hp (by have : (10 : Nat) ^ 19 = 10000000000000000000 := by decide
                                  omega)
      rw [hs] at h2 ⊢
      simp only [List.length_append, List.length_singleton] at h2
      have hz : (bs [UInt8.ofNat (48 + n % 10)]).size + (bs acc).size ≤ 9223372036854775807 := by rw [bs_size, bs_size, List.length_singleton]; omega
      simp only [q, hz, decide_true, cond_true]
      refine ⟨⟨n / 10, UInt8.ofNat (48 + n % 10) :: acc⟩, rfl, ⟨by simp only; omega, by simp only [List.length_cons]; omega⟩, by simp only; omega, ?_⟩
      simp only [RT.r, List.append_assoc, List.singleton_append]
    · right
      obtain rfl : n = 0 := by omega
      refine ⟨rfl, fun h => by cases h⟩

theorem Ito_ent (n : Int) (h0 : 0 ≤ n) (h1 : n ≤ 1000000000000000000) : EntOK Tryd.prog 42 [ui n] (.w (ust (itoaL n))) := by
  obtain ⟨k, rfl⟩ : ∃ k : Nat, n = (k : Int) := ⟨n.toNat, by omega⟩
  refine ent_fnW (fn := Tryd.f42) G14_ok (pl := noPl) PlOK.none (n := 6) (ls := [some LIto.g]) (by kernel_rfl) (by kernel_rfl) (LsOK.one (x := loopAt Tryd.f42 0) (ls := []) (by kernel_rfl) loopIto) ?_ rfl rfl rfl
  rw [tIto, (digit1 k).1, (digit1 k).2, tdiv10 k (by omega)]
  have hl : (List.map (fun i => byteOf ([D.int IntKind.u8 (IntKind.u8.wrap (IntKind.i64.wrap (48 + (↑k : Int).tmod 10)))].getD (i * 1 + 0) D.nil)) (List.range 1)) = [UInt8.ofNat (48 + k % 10)] := by
    have := (digit1 k).2
    unfold byteS bs at this
    simpa using congrArg (fun x : ByteArray => x.data.toList) this
  rw [hl, Int.toNat_natCast, sameM_of rfl]
  have hk : k / 10 ≤ 1000000000000000000 := by omega
  simp only [Int.toNat_natCast, hk, decide_true, Bool.and_self, cond_true]
  have : dgt0 (k / 10) ++ [UInt8.ofNat (48 + k % 10)] = itoaL (k : Int) := by
    unfold itoaL
    have : ¬ ((k : Int) < 0) := by omega
    simp only [this, decide_false, cond_false, Int.toNat_natCast]
    by_cases hp : 0 < k
    · rw [← dgt0_step hp (by have : (10 : Nat) ^ 19 = 10000000000000000000 := by decide
                             omega)]
      unfold dgt0
      have : ¬ k = 0 := by omega
      simp only [this, decide_false, cond_false]
    · obtain rfl : k = 0 := by omega
      decide
  rw [this]; rfl
end
end Sh
end Go.Proofs.YtamdjlpobonmiaaDoor

/- Print of the program. -/
namespace Go.Proofs.YtamdjlpobonmiaaDoor
namespace Sh
set_option maxRecDepth 100000

noncomputable section

def eRIto (u : List U) : Option (Bool × V) := match u with
  | [.one (.d (.int .i64 n))] => some (decide (0 ≤ n) && decide (n ≤ 1000000000000000000), .w (ust (itoaL n)))
  | _ => none
def G15 : Tab := addE (addE G14 42 eRIto) 24 (eTT fun s n g s2 m h => some (decide (n ≤ 1000000), rb (eqT s n g s2 m h)))
theorem G15_ok : GOK Tryd.prog G15 := by
  refine addE_ok (addE_ok G14_ok ?_) (eTT_ok ?_)
  · intro us v h
    unfold eRIto at h
    split at h
    · simp only [Option.some.injEq, Prod.mk.injEq, Bool.and_eq_true, decide_eq_true_eq] at h
      obtain ⟨⟨h1, h2⟩, rfl⟩ := h
      exact Ito_ent _ h1 h2
    · cases h
  · intro s n g s2 m q v hk
    simp only [Option.some.injEq, Prod.mk.injEq, decide_eq_true_eq] at hk
    obtain ⟨h1, rfl⟩ := hk
    exact peq_ent s s2 n m g q h1

/-- One class in writing. -/
def clsL (g : Nat → Nat → Int) (i : Nat) : List UInt8 := 32 :: (itoaL (g i 0) ++ 64 :: itoaL (g i 1))
def rowP (g : Nat → Nat → Int) (i _j : Nat) : D := .str (bs (clsL g i))
def mP (s : ByteArray) (n k : Nat) (g : Nat → Nat → Int) : List B := [.var [.d (.str s), sl n g], .tick k 1]
def LPri : LoopQ (ByteArray × Nat × (Nat → Nat → Int) × Nat) where
  N := 36
  live := [1, 4, 11, 12, 13]
  liveX := [1, 4]
  ext vals mem := match mem.getD 0 .gone, vals.getD 4 .any with
    | .var [.d (.str s), .d (.slc n _ g)], .w (.one (.d (.int _ k))) => some (s, n, toI g, k.toNat)
    | _, _ => none
  pre := fun (s, n, g, k) => validB s n g && decide (k ≤ n)
  head := fun (s, n, g, k) => ([.w (.one (.ptr 0 0)), .w (.one (.own 1 k 1 (cd k 1 (rowP g)))), .w (.one (sl n g)), ri (n : Int), ri k], mP s n k g)
  res := fun (s, n, g, _) => .out (.exit 0) [.w (.one (.ptr 0 0)), .w (.one (.own 1 n 1 (cd n 1 (rowP g))))] (mP s n n g)
theorem tPriL (s : ByteArray) (n k : Nat) (g : Nat → Nat → Int) : evN Tryd.prog G15 noPl 3 [] (loopAt Tryd.f15 0) ⟨spread [1, 4, 11, 12, 13] [.w (.one (.ptr 0 0)), .w (.one (.own 1 k 1 (cd k 1 (rowP g)))), .w (.one (sl n g)), ri (n : Int), ri k] 0 36, mP s n k g⟩ (LPri.s.d.obs 2) =
  bif decide ((↑k : Int) < (↑n : Int)) then
  bif decide ((↑k : Int) < (↑n : Int)) && true then
  bif decide (-9223372036854775808 ≤ g k 0) && decide (g k 0 ≤ 9223372036854775807) then
  bif decide (1 + (bs (itoaL (g k 0))).size ≤ 9223372036854775807) then
  bif decide (({ data := #[32] } ++ bs (itoaL (g k 0))).size + 1 ≤ 9223372036854775807) then
  bif decide (-9223372036854775808 ≤ g k 1) && decide (g k 1 ≤ 9223372036854775807) then
  bif decide (({ data := #[32] } ++ bs (itoaL (g k 0)) ++ { data := #[64] }).size + (bs (itoaL (g k 1))).size ≤ 9223372036854775807) then
  bif k.beq k && (k + 1).ble 8278675785607 then some (Ex.norm, [V.w (U.one (C.ptr 0 0)), V.w (U.one (C.own 1 (k + 1) 1 (appGet k (cd k 1 (rowP g)) fun a j => [D.str ({ data := #[32] } ++ bs (itoaL (g k 0)) ++ { data := #[64] } ++ bs (itoaL (g k 1)))].getD (a * 1 + j) D.nil))), V.w (U.one (sl n g)), ri (↑n : Int), ri (IntKind.i64.wrap ((↑k : Int) + 1))], [B.var [C.d (D.str s), sl n g], B.tick (k + 1) 1])
  else none
  else none
  else none
  else none
  else none
  else none
  else none
  else some (Ex.exit 0, [V.w (U.one (C.ptr 0 0)), V.w (U.one (C.own 1 k 1 (cd k 1 (rowP g))))], [B.var [C.d (D.str s), sl n g], B.tick k 1]) := by kernel_rfl
theorem tPri (s : ByteArray) (n : Nat) (g : Nat → Nat → Int) : fnW Tryd.prog G15 noPl 6 [some LPri.g] Tryd.f15 [tar s n g] =
  bif (tarG n 2 (rowI g)) && szG s n then
  bif !validB s n (cz n 2 g) then some (V.tup [U.one (C.d (D.str ⟨#[]⟩)), ui 1]) else
  bif validB s n g && true && sameM ([V.w (U.one (C.ptr 0 0)), V.w (U.one (C.own 1 0 1 dg)), V.w (U.one (sl n g)), ri (↑n : Int), ri 0], [B.var [C.d (D.str s), sl n g], B.tick 0 1]) ([V.w (U.one (C.ptr 0 0)), V.w (U.one (C.own 1 0 1 (cd 0 1 (rowP g)))), V.w (U.one (sl n g)), ri (↑n : Int), ri 0], [B.var [C.d (D.str s), sl n g], B.tick 0 1]) then
  bif decide (s.size + 1 ≤ 9223372036854775807) then
  bif decide (n ≤ 1000000) && ((decide (n = 0) || true) && (isS n (cd n 1 (rowP g)) && decide ((Lib.join (rowS n (cd n 1 (rowP g))) #[44].toList).length ≤ 140737488355328))) then
  bif decide ((s ++ { data := #[58] }).size + (bs (Lib.join (rowS n (cd n 1 (rowP g))) #[44].toList)).size ≤ 9223372036854775807) then some (V.tup [U.one (C.d (D.str (s ++ { data := #[58] } ++ bs (Lib.join (rowS n (cd n 1 (rowP g))) [44])))), ui 0])
  else none
  else none
  else none
  else none
  else none := by kernel_rfl
structure TQ where
  s : ByteArray
  n : Nat
  g : Nat → Nat → Int
  k : Nat
  acc : List UInt8
/-- The classes from k on, in writing. -/
def tailL (g : Nat → Nat → Int) (n k : Nat) : List UInt8 := (List.range' k (n - k)).flatMap fun i => (bif Nat.blt 0 i then [44] else []) ++ clsL g i
def LRpr : LoopQ TQ where
  N := 43
  live := [1, 4, 5]
  liveX := [4]
  ext vals mem := match mem.getD 0 .gone, vals.getD 1 .any, vals.getD 2 .any with
    | .var [.d (.str s), .d (.slc n _ g)], .w (.one (.d (.str a))), .w (.one (.d (.int _ k))) => some ⟨s, n, toI g, k.toNat, a.data.toList⟩
    | _, _, _ => none
  pre t := validB t.s t.n t.g && (decide (t.k ≤ t.n) && decide (t.acc.length ≤ 1000 + 50 * t.k))
  head t := ([.w (.one (.ptr 0 0)), .w (ust t.acc), ri t.k], [.var [.d (.str t.s), sl t.n t.g]])
  res t := .out (.exit 0) [.w (ust (t.acc ++ tailL t.g t.n t.k))] [.var [.d (.str t.s), sl t.n t.g]]
theorem tRprL (s : ByteArray) (n : Nat) (g : Nat → Nat → Int) (k : Nat) (acc : List UInt8) : evN Tryd.prog G15 noPl 3 [] (loopAt Tryd.f22 0) ⟨spread [1, 4, 5] [.w (.one (.ptr 0 0)), .w (ust acc), ri k] 0 43, [.var [.d (.str s), sl n g]]⟩ (LRpr.s.d.obs 1) =
  bif decide ((↑k : Int) < (↑n : Int)) then
  bif decide (0 < (↑k : Int)) then
  bif decide ((bs acc).size + 1 ≤ 9223372036854775807) then
  bif decide ((↑k : Int) < (↑n : Int)) && true then
  bif decide (0 ≤ g k 0) && decide (g k 0 ≤ 1000000000000000000) then
  bif decide (1 + (bs (itoaL (g k 0))).size ≤ 9223372036854775807) then
  bif decide (({ data := #[32] } ++ bs (itoaL (g k 0))).size + 1 ≤ 9223372036854775807) then
  bif decide ((↑k : Int) < (↑n : Int)) && true then
  bif decide (0 ≤ g k 1) && decide (g k 1 ≤ 1000000000000000000) then
  bif decide (({ data := #[32] } ++ bs (itoaL (g k 0)) ++ { data := #[64] }).size + (bs (itoaL (g k 1))).size ≤ 9223372036854775807) then
  bif decide ((bs acc ++ { data := #[44] }).size + ({ data := #[32] } ++ bs (itoaL (g k 0)) ++ { data := #[64] } ++ bs (itoaL (g k 1))).size ≤ 9223372036854775807) then some (Ex.norm, [V.w (U.one (C.ptr 0 0)), V.w (U.one (C.d (D.str (bs acc ++ { data := #[44] } ++ ({ data := #[32] } ++ bs (itoaL (g k 0)) ++ { data := #[64] } ++ bs (itoaL (g k 1))))))), ri (IntKind.i64.wrap ((↑k : Int) + 1))], (mT s n g))
  else none
  else none
  else none
  else none
  else none
  else none
  else none
  else none
  else none else
  bif decide ((↑k : Int) < (↑n : Int)) && true then
  bif decide (0 ≤ g k 0) && decide (g k 0 ≤ 1000000000000000000) then
  bif decide (1 + (bs (itoaL (g k 0))).size ≤ 9223372036854775807) then
  bif decide (({ data := #[32] } ++ bs (itoaL (g k 0))).size + 1 ≤ 9223372036854775807) then
  bif decide ((↑k : Int) < (↑n : Int)) && true then
  bif decide (0 ≤ g k 1) && decide (g k 1 ≤ 1000000000000000000) then
  bif decide (({ data := #[32] } ++ bs (itoaL (g k 0)) ++ { data := #[64] }).size + (bs (itoaL (g k 1))).size ≤ 9223372036854775807) then
  bif decide ((bs acc).size + ({ data := #[32] } ++ bs (itoaL (g k 0)) ++ { data := #[64] } ++ bs (itoaL (g k 1))).size ≤ 9223372036854775807) then some (Ex.norm, [V.w (U.one (C.ptr 0 0)), V.w (U.one (C.d (D.str (bs acc ++ ({ data := #[32] } ++ bs (itoaL (g k 0)) ++ { data := #[64] } ++ bs (itoaL (g k 1))))))), ri (IntKind.i64.wrap ((↑k : Int) + 1))], (mT s n g))
  else none
  else none
  else none
  else none
  else none
  else none
  else none
  else none
  else some (Ex.exit 0, [V.w (U.one (C.d (D.str (bs acc))))], (mT s n g)) := by kernel_rfl
theorem tRpr (s : ByteArray) (n : Nat) (g : Nat → Nat → Int) : fnW Tryd.prog G15 noPl 6 [some LRpr.g] Tryd.f22 [tar s n g] =
  bif (tarG n 2 (rowI g)) && szG s n then
  bif !validB s n (cz n 2 g) then some (V.tup [U.one (C.d (D.str ⟨#[]⟩)), ui 1]) else
  bif decide (s.size + 1 ≤ 9223372036854775807) then
  bif validB s n g && decide ((s ++ { data := #[58] }).data.toList.length ≤ 1000 + 50 * 0) && sameM ([V.w (U.one (C.ptr 0 0)), V.w (U.one (C.d (D.str (s ++ { data := #[58] })))), ri 0], (mT s n g)) ([V.w (U.one (C.ptr 0 0)), V.w (U.one (C.d (D.str (bs (s.data.toList ++ [58]))))), ri 0], (mT s n g)) then some (V.tup [U.one (C.d (D.str (bs (s.data.toList ++ [58] ++ tailL g n 0)))), ui 0])
  else none
  else none
  else none := by kernel_rfl

theorem mk_one (c : UInt8) : ({ data := #[c] } : ByteArray) = bs [c] := rfl
theorem itoaL_len (n : Int) : (itoaL n).length ≤ 21 := by
  unfold itoaL
  cases decide (n < 0) with
  | true => have := digF_len 20 n.natAbs; simp only [cond_true, List.length_cons]; omega
  | false => have := digF_len 20 n.toNat; simp only [cond_false]; omega
theorem clsL_len (g : Nat → Nat → Int) (i : Nat) : (clsL g i).length ≤ 45 := by
  unfold clsL
  have h1 := itoaL_len (g i 0)
  have h2 := itoaL_len (g i 1)
  simp only [List.length_cons, List.length_append]
  omega
theorem tailL_step {g : Nat → Nat → Int} {n k : Nat} (h : k < n) : tailL g n k = (bif Nat.blt 0 k then [44] else []) ++ clsL g k ++ tailL g n (k + 1) := by
  unfold tailL
  rw [show n - k = (n - (k + 1)) + 1 by omega, List.range'_succ, List.flatMap_cons]
theorem tailL_end {g : Nat → Nat → Int} {n k : Nat} (h : n ≤ k) : tailL g n k = [] := by
  unfold tailL
  rw [show n - k = 0 by omega]; rfl
theorem tailL_len {g : Nat → Nat → Int} {n : Nat} : ∀ (m k : Nat), m = n - k → (tailL g n k).length ≤ 50 * m
  | 0, k, h => by rw [tailL_end (by omega)]; simp
  | m + 1, k, h => by
    rw [tailL_step (by omega)]
    have := tailL_len (g := g) (n := n) m (k + 1) (by omega)
    have := clsL_len g k
    have : (bif Nat.blt 0 k then [44] else [] : List UInt8).length ≤ 1 := by cases Nat.blt 0 k <;> simp
    simp only [List.length_append]
    omega
/-- All the classes, joined. -/
theorem join_tail {g : Nat → Nat → Int} {n : Nat} (h : 1 ≤ n) : Lib.join ((List.range n).map (clsL g)) [44] = tailL g n 0 := by
  rw [List.range_eq_range', show n = (n - 1) + 1 by omega, List.range'_succ, List.map_cons, Lib.join_cons]
  rw [tailL_step (by omega)]
  show clsL g 0 ++ _ = [] ++ clsL g 0 ++ _
  rw [List.nil_append]
  congr 1
  unfold Lib.joinTail tailL
  rw [Nat.add_sub_cancel, List.map_map, List.flatMap_def]
  congr 1
  refine List.map_congr_left fun i hi => ?_
  rw [List.mem_range'_1] at hi
  show [44] ++ clsL g i = _
  rw [show Nat.blt 0 i = true by simp; omega]; rfl
theorem rowS_P {g : Nat → Nat → Int} {n : Nat} : rowS n (cd n 1 (rowP g)) = (List.range n).map (clsL g) := by
  unfold rowS
  refine List.map_congr_left fun i hi => ?_
  rw [List.mem_range] at hi
  unfold toS cd
  rw [show Nat.blt i n = true by simpa using hi]
  show (bs (clsL g i)).data.toList = _
  rw [bs_data]
theorem isS_P {g : Nat → Nat → Int} {n : Nat} : isS n (cd n 1 (rowP g)) = true := isS_intro fun i hi => by
  unfold cd
  rw [show Nat.blt i n = true by simpa using hi]
  exact ⟨_, rfl⟩
theorem one_row (x : D) (i j : Nat) : [x].getD (i * 1 + j) D.nil = bif Nat.blt i 1 && Nat.blt j 1 then x else .nil := by
  match i, j with
  | 0, 0 => rfl
  | 0, j + 1 => rw [show 0 * 1 + (j + 1) = j + 1 by omega, blt_f (by omega : ¬ j + 1 < 1)]; rfl
  | i + 1, j => rw [show (i + 1) * 1 + j = (i + j) + 1 by omega, blt_f (by omega : ¬ i + 1 < 1)]; rfl
theorem pri_grow {k : Nat} {g : Nat → Nat → Int} : appGet k (cd k 1 (rowP g)) (fun a j => [D.str (bs (clsL g k))].getD (a * 1 + j) D.nil) = cd (k + 1) 1 (rowP g) := by
  refine cd_grow fun i j => ?_
  rw [one_row]; rfl
theorem Vd.ge {s : ByteArray} {n : Nat} {g : Nat → Nat → Int} (V : Vd s n g) : ∀ i, i < n → 0 ≤ g i 0
  | 0, _ => by rw [V.zero]; exact Int.le_refl _
  | i + 1, h => by have := V.ge i (by omega); have := V.up i h; omega
theorem Vd.sz {s : ByteArray} {n : Nat} {g : Nat → Nat → Int} (V : Vd s n g) : s.size ≤ 30 := by
  have := V.name
  unfold nameB at this
  simp only [Bool.and_eq_true, decide_eq_true_eq] at this
  omega
/-- The writing of one class, put together. -/
theorem cls_app (g : Nat → Nat → Int) (k : Nat) : ({ data := #[32] } ++ bs (itoaL (g k 0)) ++ { data := #[64] } ++ bs (itoaL (g k 1)) : ByteArray) = bs (clsL g k) := by
  rw [mk_one, mk_one, bs_app, bs_app, bs_app]
  unfold clsL
  simp only [List.singleton_append, List.cons_append, List.append_assoc, List.nil_append]

theorem loopPri : LoopC Tryd.prog (loopAt Tryd.f15 0) LPri.g := by
  refine loopC_q LPri G15_ok (pl := noPl) PlOK.none 3 (ls := []) LsOK.nil (fun (s, n, g, k) => validB s n g = true ∧ k ≤ n) (fun (_, n, _, k) => n - k) ?_ ?_
  · rintro ⟨s, n, g, k⟩ h
    simpa [LPri] using h
  · rintro ⟨s, n, g, k⟩ ⟨hv, hk⟩
    have ht := tPriL s n k g
    have V := valid_iff.1 hv
    simp only [LPri] at ht ⊢
    rw [show (mP s n k g).length = 2 from rfl, ht, cls_app]
    by_cases hlt : k < n
    · left
      have hf := V.few
      have h1 : (k : Int) < n := by omega
      have h2 : (k + 1).ble 8278675785607 = true := by simp; omega
      have hw : IntKind.i64.wrap ((k : Int) + 1) = ((k + 1 : Nat) : Int) := by rw [wrap_id (by omega) (by omega)]; omega
      have a1 := V.ge k hlt
      have a2 := V.from_le k hlt
      have a3 := V.price0 k hlt
      have a4 := V.price1 k hlt
      have b1 := itoaL_len (g k 0)
      have b2 := itoaL_len (g k 1)
      have c1 : -9223372036854775808 ≤ g k 0 := by omega
      have c2 : g k 0 ≤ 9223372036854775807 := by omega
      have c3 : -9223372036854775808 ≤ g k 1 := by omega
      have c4 : g k 1 ≤ 9223372036854775807 := by omega
      have d1 : 1 + (bs (itoaL (g k 0))).size ≤ 9223372036854775807 := by rw [bs_size]; omega
      have d2 : (({ data := #[32] } ++ bs (itoaL (g k 0)) : ByteArray)).size + 1 ≤ 9223372036854775807 := by rw [mk_one, size_app, bs_size, bs_size, List.length_singleton]; omega
      have d3 : (({ data := #[32] } ++ bs (itoaL (g k 0)) ++ { data := #[64] } : ByteArray)).size + (bs (itoaL (g k 1))).size ≤ 9223372036854775807 := by rw [mk_one, mk_one, size_app, size_app, bs_size, bs_size, bs_size, bs_size, List.length_singleton]; simp only [List.length_singleton]; omega
      refine ⟨(s, n, g, k + 1), ?_, ⟨hv, hlt⟩, ?_, rfl⟩
      · simp only [h1, h2, hw, c1, c2, c3, c4, d1, d2, d3, Nat.beq_refl, decide_true, Bool.and_self, cond_true]
        rw [pri_grow]; rfl
      · simp only; omega
    · right
      obtain rfl : k = n := by omega
      simp only [Int.lt_irrefl, decide_false, cond_false]
      exact ⟨rfl, fun h => by cases h⟩

/-- A tariff in writing. -/
def printL (s : ByteArray) (n : Nat) (g : Nat → Nat → Int) : List UInt8 := s.data.toList ++ 58 :: tailL g n 0
def printS (s : ByteArray) (n : Nat) (g : Nat → Nat → Int) : ByteArray := bif validB s n g then bs (printL s n g) else ⟨#[]⟩
def printE (s : ByteArray) (n : Nat) (g : Nat → Nat → Int) : Int := bif validB s n g then 0 else 1
def printV (s : ByteArray) (n : Nat) (g : Nat → Nat → Int) : V := .tup [.one (.d (.str (printS s n g))), ui (printE s n g)]
theorem dlen (s : ByteArray) : s.data.toList.length = s.size := rfl
theorem pri_ent (s : ByteArray) (n : Nat) (g : Nat → Nat → Int) (hz : szG s n = true) : EntOK Tryd.prog 15 [tar s n g] (printV s n g) := by
  refine ent_fnW (fn := Tryd.f15) G15_ok (pl := noPl) PlOK.none (n := 6) (ls := [some LPri.g]) (by kernel_rfl) (by kernel_rfl) (LsOK.one (x := loopAt Tryd.f15 0) (ls := []) (by kernel_rfl) loopPri) ?_ rfl rfl rfl
  rw [tPri, validB_cz]
  unfold printV printS printE
  simp only [hz, tarG_rowI, Bool.and_self, cond_true]
  cases hv : validB s n g with
  | false => rfl
  | true =>
    have V := valid_iff.1 hv
    have h1 := V.sz
    have h2 := V.few
    rw [cd_zero, sameM_of rfl, rowS_P, isS_P]
    have hj := join_tail (g := g) V.one
    have hj' : Lib.join ((List.range n).map (clsL g)) (#[44] : Array UInt8).toList = tailL g n 0 := hj
    simp only [hj, hj']
    have h3 : (tailL g n 0).length ≤ 50 * n := tailL_len n 0 (by omega)
    have c1 : s.size + 1 ≤ 9223372036854775807 := by omega
    have c2 : n ≤ 1000000 := by omega
    have c3 : (tailL g n 0).length ≤ 140737488355328 := by omega
    have c4 : (s ++ { data := #[58] }).size + (bs (tailL g n 0)).size ≤ 9223372036854775807 := by rw [mk_one, size_app, bs_size, bs_size, List.length_singleton]; omega
    simp only [c1, c2, c3, c4, decide_true, Bool.and_self, Bool.or_true, cond_true, Bool.not_true, cond_false]
    unfold printL
    rw [mk_one, ← bs_app, data_bs, show 58 :: tailL g n 0 = [58] ++ tailL g n 0 from rfl, ← bs_app, ByteArray.append_assoc]

theorem loopRpr : LoopC Tryd.prog (loopAt Tryd.f22 0) LRpr.g := by
  refine loopC_q LRpr G15_ok (pl := noPl) PlOK.none 3 (ls := []) LsOK.nil (fun t => validB t.s t.n t.g = true ∧ t.k ≤ t.n ∧ t.acc.length ≤ 1000 + 50 * t.k) (fun t => t.n - t.k) ?_ ?_
  · rintro ⟨s, n, g, k, acc⟩ h
    simpa [LRpr] using h
  · rintro ⟨s, n, g, k, acc⟩ ⟨hv, hk, hl⟩
    have ht := tRprL s n g k acc
    have V := valid_iff.1 hv
    simp only [LRpr] at ht hl ⊢
    simp only at hv hk V
    rw [show ([.var [.d (.str s), sl n g]] : List B).length = 1 from rfl, ht, cls_app]
    by_cases hlt : k < n
    · left
      have hf := V.few
      have h1 : (k : Int) < n := by omega
      have hw : IntKind.i64.wrap ((k : Int) + 1) = ((k + 1 : Nat) : Int) := by rw [wrap_id (by omega) (by omega)]; omega
      have a1 := V.ge k hlt
      have a2 := V.from_le k hlt
      have a3 := V.price0 k hlt
      have a4 := V.price1 k hlt
      have b0 := clsL_len g k
      have b1 := itoaL_len (g k 0)
      have b2 := itoaL_len (g k 1)
      have c2 : g k 0 ≤ 1000000000000000000 := by omega
      have c4 : g k 1 ≤ 1000000000000000000 := by omega
      have d0 : (bs acc).size + 1 ≤ 9223372036854775807 := by rw [bs_size]; omega
      have d1 : 1 + (bs (itoaL (g k 0))).size ≤ 9223372036854775807 := by rw [bs_size]; omega
      have d2 : (({ data := #[32] } ++ bs (itoaL (g k 0)) : ByteArray)).size + 1 ≤ 9223372036854775807 := by rw [mk_one, size_app, bs_size, bs_size, List.length_singleton]; omega
      have d3 : (({ data := #[32] } ++ bs (itoaL (g k 0)) ++ { data := #[64] } : ByteArray)).size + (bs (itoaL (g k 1))).size ≤ 9223372036854775807 := by rw [mk_one, mk_one, size_app, size_app, bs_size, bs_size, bs_size, bs_size, List.length_singleton]; simp only [List.length_singleton]; omega
      have d4 : (bs acc ++ { data := #[44] } : ByteArray).size + (bs (clsL g k)).size ≤ 9223372036854775807 := by rw [mk_one, size_app, bs_size, bs_size, bs_size, List.length_singleton]; omega
      have d5 : (bs acc).size + (bs (clsL g k)).size ≤ 9223372036854775807 := by rw [bs_size, bs_size]; omega
      refine ⟨⟨s, n, g, k + 1, acc ++ ((bif Nat.blt 0 k then [44] else []) ++ clsL g k)⟩, ?_, ⟨hv, hlt, ?_⟩, ?_, ?_⟩
      · by_cases hp : 0 < k
        · have hp' : (0 : Int) < k := by omega
          simp only [hp', h1, hw, a1, a3, c2, c4, d0, d1, d2, d3, d4, decide_true, Bool.and_self, cond_true]
          rw [mk_one, bs_app, bs_app, show Nat.blt 0 k = true by simpa using hp, List.append_assoc]; rfl
        · have hp' : ¬ (0 : Int) < k := by omega
          simp only [hp', h1, hw, a1, a3, c2, c4, d0, d1, d2, d3, d5, decide_true, decide_false, Bool.and_self, cond_true, cond_false]
          rw [bs_app, blt_f hp]; rfl
      · have : (bif Nat.blt 0 k then [44] else [] : List UInt8).length ≤ 1 := by cases Nat.blt 0 k <;> simp
        simp only [List.length_append]
        omega
      · simp only; omega
      · simp only [RT.r]
        rw [tailL_step hlt, List.append_assoc]
    · right
      obtain rfl : k = n := by omega
      rw [tailL_end (Nat.le_refl _), List.append_nil]
      simp only [Int.lt_irrefl, decide_false, cond_false, RT.r]
      exact ⟨rfl, fun h => by cases h⟩

theorem rpr_ent (s : ByteArray) (n : Nat) (g : Nat → Nat → Int) (hz : szG s n = true) : EntOK Tryd.prog 22 [tar s n g] (printV s n g) := by
  refine ent_fnW (fn := Tryd.f22) G15_ok (pl := noPl) PlOK.none (n := 6) (ls := [some LRpr.g]) (by kernel_rfl) (by kernel_rfl) (LsOK.one (x := loopAt Tryd.f22 0) (ls := []) (by kernel_rfl) loopRpr) ?_ rfl rfl rfl
  rw [tRpr, validB_cz]
  unfold printV printS printE
  simp only [hz, tarG_rowI, Bool.and_self, cond_true]
  cases hv : validB s n g with
  | false => rfl
  | true =>
    have V := valid_iff.1 hv
    have h1 := V.sz
    have e : s ++ { data := #[58] } = bs (s.data.toList ++ [58]) := by rw [← bs_app, data_bs]; rfl
    rw [e, sameM_of rfl, bs_data]
    have c1 : s.size + 1 ≤ 9223372036854775807 := by omega
    have c2 : (s.data.toList ++ [58]).length ≤ 1000 + 50 * 0 := by rw [List.length_append, dlen, List.length_singleton]; omega
    simp only [c1, c2, decide_true, Bool.and_self, cond_true, Bool.not_true, cond_false]
    unfold printL
    rw [List.append_assoc, List.singleton_append]

def G16 : Tab := addE (addE G15 22 (eT0 fun s n g => some (szG s n, printV s n g))) 15 (eT0 fun s n g => some (szG s n, printV s n g))
theorem G16_ok : GOK Tryd.prog G16 := by
  refine addE_ok (addE_ok G15_ok (eT0_ok ?_)) (eT0_ok ?_)
  · intro s n g v hk
    simp only [Option.some.injEq, Prod.mk.injEq] at hk
    obtain ⟨h1, rfl⟩ := hk
    exact rpr_ent s n g h1
  · intro s n g v hk
    simp only [Option.some.injEq, Prod.mk.injEq] at hk
    obtain ⟨h1, rfl⟩ := hk
    exact pri_ent s n g h1

end
end Sh
end Go.Proofs.YtamdjlpobonmiaaDoor

/- TariffSteps: what the law computes. -/
namespace Go.Proofs.YtamdjlpobonmiaaDoor
namespace Sh
set_option maxRecDepth 100000

noncomputable section
def two (a b : Int) : U := .agg [.d (.int .i64 a), .d (.int .i64 b)]
theorem tSteps (s : ByteArray) (n : Nat) (g : Nat → Nat → Int) (a b : Int) : fnV Tryd.prog G12 6 Tryd.f5 [tar s n g, two a b] =
  bif (tarG n 2 (rowI g)) && true then
  bif !fewB s n then some (rb true) else
  bif decide (b < a) then some (rb true) else
  bif (tarG n 2 (rowI g)) && szG s n then
  bif tarG n 2 (cd n 2 (rowI (cz n 2 g))) && szG s n then
  bif tarG n 2 (cd n 2 (rowI (cz n 2 g))) && szG s n then
  bif tarG n 2 (cd n 2 (rowI (cz n 2 g))) && szG s n then
  bif tarG n 2 (cd n 2 (rowI (cz n 2 g))) && szG s n then
  bif !decide (errB s n (cz n 2 (toI (cd n 2 (rowI (cz n 2 g))))) a = 0) then
  bif decide (errB s n (cz n 2 (toI (cd n 2 (rowI (cz n 2 g))))) a = errB s n (cz n 2 (toI (cd n 2 (rowI (cz n 2 g))))) a) then some (rb (decide (errB s n (cz n 2 (toI (cd n 2 (rowI (cz n 2 g))))) b = errB s n (cz n 2 (toI (cd n 2 (rowI (cz n 2 g))))) b)))
  else some (rb false) else
  bif !decide (errB s n (cz n 2 (toI (cd n 2 (rowI (cz n 2 g))))) b = 0) then
  bif decide (errB s n (cz n 2 (toI (cd n 2 (rowI (cz n 2 g))))) a = errB s n (cz n 2 (toI (cd n 2 (rowI (cz n 2 g))))) a) then some (rb (decide (errB s n (cz n 2 (toI (cd n 2 (rowI (cz n 2 g))))) b = errB s n (cz n 2 (toI (cd n 2 (rowI (cz n 2 g))))) b)))
  else some (rb false) else
  bif !decide (errB s n (cz n 2 (toI (cd n 2 (rowI (cz n 2 g))))) a = 0) then
  bif decide (errB s n (cz n 2 (toI (cd n 2 (rowI (cz n 2 g))))) a = errB s n (cz n 2 (toI (cd n 2 (rowI (cz n 2 g))))) a) then some (rb (decide (errB s n (cz n 2 (toI (cd n 2 (rowI (cz n 2 g))))) b = errB s n (cz n 2 (toI (cd n 2 (rowI (cz n 2 g))))) b)))
  else some (rb false) else
  bif !decide (errB s n (cz n 2 (toI (cd n 2 (rowI (cz n 2 g))))) b = 0) then
  bif decide (errB s n (cz n 2 (toI (cd n 2 (rowI (cz n 2 g))))) a = errB s n (cz n 2 (toI (cd n 2 (rowI (cz n 2 g))))) a) then some (rb (decide (errB s n (cz n 2 (toI (cd n 2 (rowI (cz n 2 g))))) b = errB s n (cz n 2 (toI (cd n 2 (rowI (cz n 2 g))))) b)))
  else some (rb false) else
  bif tarG n 2 (cd n 2 (rowI (cz n 2 g))) && szG s n then
  bif decide (nextE s n (cz n 2 (toI (cd n 2 (rowI (cz n 2 g))))) a = 0) then
  bif decide (nextV s n (cz n 2 (toI (cd n 2 (rowI (cz n 2 g))))) a ≤ b) == !decide (classE s n (cz n 2 (toI (cd n 2 (rowI (cz n 2 g))))) a = classE s n (cz n 2 (toI (cd n 2 (rowI (cz n 2 g))))) b) then
  bif !decide (classE s n (cz n 2 (toI (cd n 2 (rowI (cz n 2 g))))) a = classE s n (cz n 2 (toI (cd n 2 (rowI (cz n 2 g))))) b) then
  bif tarG n 2 (cd n 2 (rowI (cz n 2 g))) && szG s n then
  bif !fairB s n (cz n 2 (toI (cd n 2 (rowI (cz n 2 g))))) then some (rb true)
  else some (rb (decide (valE s n (cz n 2 (toI (cd n 2 (rowI (cz n 2 g))))) a ≤ valE s n (cz n 2 (toI (cd n 2 (rowI (cz n 2 g))))) b)))
  else none
  else some (rb (decide (valE s n (cz n 2 (toI (cd n 2 (rowI (cz n 2 g))))) a ≤ valE s n (cz n 2 (toI (cd n 2 (rowI (cz n 2 g))))) b)))
  else some (rb false) else
  bif false == !decide (classE s n (cz n 2 (toI (cd n 2 (rowI (cz n 2 g))))) a = classE s n (cz n 2 (toI (cd n 2 (rowI (cz n 2 g))))) b) then
  bif !decide (classE s n (cz n 2 (toI (cd n 2 (rowI (cz n 2 g))))) a = classE s n (cz n 2 (toI (cd n 2 (rowI (cz n 2 g))))) b) then
  bif tarG n 2 (cd n 2 (rowI (cz n 2 g))) && szG s n then
  bif !fairB s n (cz n 2 (toI (cd n 2 (rowI (cz n 2 g))))) then some (rb true)
  else some (rb (decide (valE s n (cz n 2 (toI (cd n 2 (rowI (cz n 2 g))))) a ≤ valE s n (cz n 2 (toI (cd n 2 (rowI (cz n 2 g))))) b)))
  else none
  else some (rb (decide (valE s n (cz n 2 (toI (cd n 2 (rowI (cz n 2 g))))) a ≤ valE s n (cz n 2 (toI (cd n 2 (rowI (cz n 2 g))))) b)))
  else some (rb false)
  else none
  else none
  else none
  else none
  else none
  else none
  else none := by kernel_rfl

theorem few_sz {s : ByteArray} {n : Nat} (h : fewB s n = true) : szG s n = true := by
  unfold fewB at h
  simp only [Bool.and_eq_true, decide_eq_true_eq] at h
  exact szG_iff.2 ⟨by omega, by omega⟩

/-- The step between two weights. -/
theorem steps_plain {s : ByteArray} {n : Nat} {g : Nat → Nat → Int} {a b : Int} (h : a ≤ b) (ha : errB s n g a = 0) (hb : errB s n g b = 0) :
    ((decide (nextE s n g a = 0) && decide (nextV s n g a ≤ b)) = !decide (classE s n g a = classE s n g b)) ∧
    ((classE s n g a = classE s n g b ∨ fairB s n g = true) → valE s n g a ≤ valE s n g b) := by
  obtain ⟨hv, wa⟩ := err_zero ha
  obtain ⟨_, wb⟩ := err_zero hb
  rw [outW_iff] at wa wb
  have V := valid_iff.1 hv
  obtain ⟨i, hi, fi⟩ := inC_of V wa.1
  obtain ⟨j, hj, fj⟩ := inC_of V wb.1
  have hij := inC_mono V h hi hj
  unfold nextE nextV classE valE
  simp only [ha, hb, decide_true, cond_true, class_of V hi, class_of V hj, nextB, fi]
  constructor
  · by_cases h1 : i + 1 < n
    · simp only [h1, decide_true, cond_true, Bool.true_and]
      by_cases h2 : g (i + 1) 0 ≤ b
      · have : ¬ (i : Int) = j := fun e => by
          have e' : i = j := by omega
          subst e'
          have := hj.2.2 h1
          omega
        simp only [h2, this, decide_true, decide_false, Bool.not_false]
      · have : (i : Int) = j := by
          rcases Nat.lt_or_ge i j with h3 | h3
          · have := V.le (i := i + 1) (j := j) h3 hj.1
            have := hj.2.1
            omega
          · omega
        simp only [h2, this, decide_true, decide_false, Bool.not_true]
    · have : (i : Int) = j := by have := hj.1; omega
      simp only [h1, this, decide_true, decide_false, cond_false, Bool.not_true, show ¬ (7 : Int) = 0 by decide, Bool.false_and]
  · rintro (h1 | h1)
    · have e : i = j := by omega
      subst e
      exact same_class V h wb.2 hi hj
    · exact fair_mono V ((fair_iff V).1 h1) _ rfl h wb.2 hi hj

theorem steps_true (s : ByteArray) (n : Nat) (g : Nat → Nat → Int) (a b : Int) : fnV Tryd.prog G12 6 Tryd.f5 [tar s n g, two a b] = some (rb true) := by
  rw [tSteps]
  simp only [own_cz]
  rw [tarG_rowI, Bool.true_and, cond_true]
  cases hf : fewB s n with
  | false => rfl
  | true =>
    have hz := few_sz hf
    by_cases hab : b < a
    · simp only [hab, Bool.not_true, cond_false, decide_true, cond_true]
    · simp only [hab, Bool.not_true, cond_false, decide_false, hz, tarG_cd, Bool.true_and, cond_true]
      by_cases ha : errB s n (cz n 2 g) a = 0
      · by_cases hb : errB s n (cz n 2 g) b = 0
        · obtain ⟨h1, h2⟩ := steps_plain (a := a) (b := b) (by omega) ha hb
          simp only [ha, hb, decide_true, Bool.not_true, cond_false]
          generalize hc : decide (classE s n (cz n 2 g) a = classE s n (cz n 2 g) b) = c at h1
          have h3 : (c = true ∨ fairB s n (cz n 2 g) = true) → valE s n (cz n 2 g) a ≤ valE s n (cz n 2 g) b := by
            rintro (h3 | h3)
            · subst hc; exact h2 (.inl (of_decide_eq_true h3))
            · exact h2 (.inr h3)
          cases hn : decide (nextE s n (cz n 2 g) a = 0) with
          | false =>
            rw [hn, Bool.false_and] at h1
            have hc' : c = true := by cases c with | true => rfl | false => cases h1
            have := h3 (.inl hc')
            simp only [hc', this, Bool.not_true, beq_self_eq_true, cond_true, cond_false, decide_true]
          | true =>
            rw [hn, Bool.true_and] at h1
            rw [h1]
            cases c with
            | true => have := h3 (.inl rfl); simp only [this, Bool.not_true, beq_self_eq_true, cond_true, cond_false, decide_true]
            | false =>
              cases hfair : fairB s n (cz n 2 g) with
              | false => rfl
              | true => have := h3 (.inr hfair); simp only [this, Bool.not_true, Bool.not_false, beq_self_eq_true, cond_true, cond_false, decide_true]
        · simp only [ha, hb, decide_true, decide_false, Bool.not_true, Bool.not_false, cond_false, cond_true]
      · simp only [ha, decide_true, decide_false, Bool.not_false, cond_true]

theorem steps_ent (s : ByteArray) (n : Nat) (g : Nat → Nat → Int) (a b : Int) : EntOK Tryd.prog 5 [tar s n g, two a b] (rb true) :=
  ent_fnV (fn := Tryd.f5) G12_ok (n := 6) (by kernel_rfl) (by kernel_rfl) (steps_true s n g a b) rfl rfl rfl

end
end Sh
end Go.Proofs.YtamdjlpobonmiaaDoor
