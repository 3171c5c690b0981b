/- Valid tariffs: classes, values, steps; the plain laws. -/
import Derived.Test.YtamdjlpobonmiaaDoorTaQ
namespace Go.Proofs.YtamdjlpobonmiaaDoor
namespace Sh

theorem own_cz {n : Nat} {g : Nat → Nat → Int} : cz n 2 (toI (cd n 2 (rowI (cz n 2 g)))) = cz n 2 g := by rw [cz_cd, cz_cz]

section
variable {s : ByteArray} {n : Nat} {g : Nat → Nat → Int}

theorem firstFrom_ff (wt : Int) (k : Nat) : firstFrom n g wt k = ffrom (fun j => decide (wt < g j 0)) n k := rfl

/-- The class of a weight. -/
def InC (n : Nat) (g : Nat → Nat → Int) (w : Int) (k : Nat) : Prop := k < n ∧ g k 0 ≤ w ∧ (k + 1 < n → w < g (k + 1) 0)

theorem Vd.le (V : Vd s n g) {i j : Nat} (hij : i ≤ j) (hj : j < n) : g i 0 ≤ g j 0 := by
  rcases Nat.lt_or_ge i j with h | h
  · exact Int.le_of_lt (V.mono h hj)
  · rw [show i = j by omega]; exact Int.le_refl _

theorem inC_of (V : Vd s n g) {w : Int} (h0 : 0 ≤ w) : ∃ k, InC n g w k ∧ firstFrom n g w 0 = k + 1 := by
  have hsp := ffrom_spec (p := fun j => decide (w < g j 0)) (n := n) _ 0 rfl (Nat.zero_le _)
  rw [← firstFrom_ff] at hsp
  obtain ⟨_, h2, h3, h4⟩ := hsp
  have hpos : firstFrom n g w 0 ≠ 0 := fun e => by
    rw [e] at h4
    have := h4 (by have := V.one; omega)
    simp only [decide_eq_true_eq] at this
    have := V.zero
    omega
  refine ⟨firstFrom n g w 0 - 1, ⟨by omega, ?_, fun h => ?_⟩, by omega⟩
  · have := h3 (firstFrom n g w 0 - 1) (Nat.zero_le _) (by omega)
    simp only [decide_eq_false_iff_not] at this
    omega
  · have := h4 (by omega)
    simp only [decide_eq_true_eq] at this
    rwa [show firstFrom n g w 0 - 1 + 1 = firstFrom n g w 0 by omega]
theorem inC_unique (V : Vd s n g) {w : Int} {i j : Nat} (hi : InC n g w i) (hj : InC n g w j) : i = j := by
  obtain ⟨a1, a2, a3⟩ := hi
  obtain ⟨b1, b2, b3⟩ := hj
  rcases Nat.lt_trichotomy i j with h | h | h
  · have := a3 (by omega)
    have := V.le (i := i + 1) (j := j) h b1
    omega
  · exact h
  · have := b3 (by omega)
    have := V.le (i := j + 1) (j := i) h a1
    omega
theorem first_of (V : Vd s n g) {w : Int} {k : Nat} (h : InC n g w k) : firstFrom n g w 0 = k + 1 := by
  have h0 : 0 ≤ w := by have := V.from0 h.1; have := h.2.1; omega
  obtain ⟨k', h1, h2⟩ := inC_of V h0
  rw [h2, inC_unique V h1 h]
theorem class_of (V : Vd s n g) {w : Int} {k : Nat} (h : InC n g w k) : classB n g w = k := by
  unfold classB
  rw [first_of V h]; omega
theorem inC_mono (V : Vd s n g) {a b : Int} {i j : Nat} (h : a ≤ b) (hi : InC n g a i) (hj : InC n g b j) : i ≤ j := by
  obtain ⟨a1, a2, a3⟩ := hi
  obtain ⟨b1, b2, b3⟩ := hj
  rcases Nat.lt_or_ge j i with h1 | h1
  · have := b3 (by omega)
    have := V.le (i := j + 1) (j := i) h1 a1
    omega
  · exact h1

/-- The value of a weight at a price. -/
def vAt (p w : Int) : Int := w * p / 1000
theorem mul_bd {w p : Int} (h0 : 0 ≤ w) (h1 : w ≤ 1000000) (h2 : 0 ≤ p) (h3 : p ≤ 1000000) : 0 ≤ w * p ∧ w * p ≤ 1000000000000 := by
  refine ⟨Int.mul_nonneg h0 h2, ?_⟩
  calc w * p ≤ 1000000 * p := Int.mul_le_mul_of_nonneg_right h1 h2
    _ ≤ 1000000 * 1000000 := Int.mul_le_mul_of_nonneg_left h3 (by decide)
    _ = 1000000000000 := by decide
theorem value_of (V : Vd s n g) {w : Int} {k : Nat} (h : InC n g w k) (h1 : w ≤ 1000000) : valueB n g w = vAt (g k 1) w := by
  unfold valueB vAt
  rw [class_of V h, Int.toNat_natCast]
  have h0 : 0 ≤ w := by have := V.from0 h.1; have := h.2.1; omega
  obtain ⟨m0, m1⟩ := mul_bd h0 h1 (V.price0 k h.1) (V.price1 k h.1)
  have e1 : IntKind.i64.wrap (w * g k 1) = w * g k 1 := wrap_id (by omega) (by omega)
  rw [e1, Int.tdiv_eq_ediv_of_nonneg m0]
  exact wrap_id (by omega) (by omega)
theorem vAt_mono {p a b : Int} (hp : 0 ≤ p) (h : a ≤ b) : vAt p a ≤ vAt p b := by
  unfold vAt
  exact Int.ediv_le_ediv (by decide) (Int.mul_le_mul_of_nonneg_right h hp)
theorem vAt_bd {w p : Int} (h0 : 0 ≤ w) (h1 : w ≤ 1000000) (h2 : 0 ≤ p) (h3 : p ≤ 1000000) : 0 ≤ vAt p w ∧ vAt p w ≤ 1000000000 := by
  obtain ⟨m0, m1⟩ := mul_bd h0 h1 h2 h3
  unfold vAt; omega

theorem same_class (V : Vd s n g) {a b : Int} {k : Nat} (h : a ≤ b) (hb : b ≤ 1000000) (ha : InC n g a k) (hb' : InC n g b k) : valueB n g a ≤ valueB n g b := by
  rw [value_of V ha (by omega), value_of V hb' hb]
  exact vAt_mono (V.price0 k ha.1) h

theorem fair_iff (V : Vd s n g) : fairB s n g = true ↔ ∀ i, i + 1 < n → valueB n g (g (i + 1) 0 - 1) ≤ valueB n g (g (i + 1) 0) := by
  unfold fairB
  rw [valid_iff.2 V, Bool.true_and]
  have hsp := ffrom_spec (p := unf n g) (n := n - 1) _ 0 rfl (Nat.zero_le _)
  obtain ⟨_, h2, h3, h4⟩ := hsp
  simp only [Bool.not_eq_true', decide_eq_false_iff_not]
  constructor
  · intro h i hi
    have := h3 i (Nat.zero_le _) (by omega)
    unfold unf at this
    simp only [decide_eq_false_iff_not] at this
    rw [show i + 1 = 1 + i by omega]
    omega
  · intro h h5
    have h7 := h4 h5
    generalize ffrom (unf n g) (n - 1) 0 = q at h5 h7
    unfold unf at h7
    simp only [decide_eq_true_eq] at h7
    have h6 := h q (by omega)
    rw [show q + 1 = 1 + q by omega] at h6
    omega

theorem fair_mono (V : Vd s n g) (hf : ∀ i, i + 1 < n → valueB n g (g (i + 1) 0 - 1) ≤ valueB n g (g (i + 1) 0)) : ∀ (d : Nat) {a b : Int} {i j : Nat}, d = j - i → a ≤ b → b ≤ 1000000 → InC n g a i → InC n g b j → valueB n g a ≤ valueB n g b := by
  intro d
  induction d with
  | zero =>
    intro a b i j hd h hb hi hj
    have := inC_mono V h hi hj
    obtain rfl : i = j := by omega
    exact same_class V h hb hi hj
  | succ d ih =>
    intro a b i j hd h hb hi hj
    have h1 : i + 1 ≤ j := by omega
    have h2 : i + 1 < n := by have := hj.1; omega
    have hup := V.up i h2
    have e1 : InC n g (g (i + 1) 0) (i + 1) := ⟨h2, Int.le_refl _, fun h3 => V.up (i + 1) h3⟩
    have e2 : InC n g (g (i + 1) 0 - 1) i := ⟨hi.1, by omega, fun _ => by omega⟩
    have hle := V.le (i := i + 1) (j := j) h1 hj.1
    have hbj := hj.2.1
    have b1 := same_class V (a := a) (b := g (i + 1) 0 - 1) (by have := hi.2.2 h2; omega) (by omega) hi e2
    have b2 := hf i h2
    have b3 := ih (a := g (i + 1) 0) (b := b) (i := i + 1) (j := j) (by omega) (by omega) hb e1 hj
    omega

theorem err_zero {w : Int} (h : errB s n g w = 0) : validB s n g = true ∧ outW w = false := by
  unfold errB at h
  cases hv : validB s n g with
  | false => rw [hv] at h; cases h
  | true =>
    rw [hv] at h
    cases hw : outW w with
    | true => rw [hw] at h; cases h
    | false => exact ⟨rfl, rfl⟩
theorem outW_iff {w : Int} : outW w = false ↔ 0 ≤ w ∧ w ≤ 1000000 := by
  unfold outW
  simp only [Bool.or_eq_false_iff, decide_eq_false_iff_not]; omega
end
end Sh
end Go.Proofs.YtamdjlpobonmiaaDoor
