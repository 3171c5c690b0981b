/- Whether a tariff is fair: the program's side. -/
import Derived.Test.YtamdjlpobonmiaaDoorTaN
import Derived.Test.YtamdjlpobonmiaaDoorShU
namespace Go.Proofs.YtamdjlpobonmiaaDoor
namespace Sh
set_option maxRecDepth 100000

noncomputable section

/-- The first place from k on, below n, at which p. -/
def ffrom (p : Nat → Bool) (n k : Nat) : Nat := k + ((List.range' k (n - k)).takeWhile fun j => !p j).length
theorem ffrom_step {p : Nat → Bool} {n k : Nat} (h : k < n) : ffrom p n k = bif p k then k else ffrom p n (k + 1) := by
  unfold ffrom
  rw [show n - k = (n - (k + 1)) + 1 by omega, List.range'_succ, List.takeWhile_cons]
  cases p k with
  | true => rfl
  | false => simp only [Bool.not_false, if_true, cond_false, List.length_cons]; omega
theorem ffrom_end {p : Nat → Bool} {n k : Nat} (h : n ≤ k) : ffrom p n k = k := by
  unfold ffrom
  rw [show n - k = 0 by omega]; rfl
theorem ffrom_le {p : Nat → Bool} {n k : Nat} (h : k ≤ n) : ffrom p n k ≤ n := by
  unfold ffrom
  have h1 : ((List.range' k (n - k)).takeWhile fun j => !p j).length ≤ (List.range' k (n - k)).length := (List.takeWhile_sublist _).length_le
  rw [List.length_range'] at h1
  omega
/-- What the first place is. -/
theorem ffrom_spec {p : Nat → Bool} {n : Nat} : ∀ (m k : Nat), m = n - k → k ≤ n → k ≤ ffrom p n k ∧ ffrom p n k ≤ n ∧ (∀ j, k ≤ j → j < ffrom p n k → p j = false) ∧ (ffrom p n k < n → p (ffrom p n k) = true) := by
  intro m
  induction m with
  | zero =>
    intro k h hk
    rw [ffrom_end (by omega)]
    exact ⟨Nat.le_refl _, hk, fun j h1 h2 => by omega, fun h1 => by omega⟩
  | succ m ih =>
    intro k h hk
    rw [ffrom_step (by omega)]
    cases hp : p k with
    | true => exact ⟨Nat.le_refl _, hk, fun j h1 h2 => by simp only [cond_true] at h2; omega, fun _ => hp⟩
    | false =>
      simp only [cond_false]
      obtain ⟨h1, h2, h3, h4⟩ := ih (k + 1) (by omega) (by omega)
      refine ⟨by omega, h2, fun j h5 h6 => ?_, h4⟩
      by_cases e : j = k
      · rw [e]; exact hp
      · exact h3 j (by omega) h6

/-- What a valid tariff is. -/
theorem clsFrom_all {n : Nat} {g : Nat → Nat → Int} : ∀ (m k : Nat), m = n - k → (clsFrom n g k = true ↔ ∀ j, k ≤ j → j < n → clsAt g j = true) := by
  intro m k h
  unfold clsFrom
  rw [List.all_eq_true]
  constructor
  · intro h1 j h2 h3
    exact h1 j (by rw [List.mem_range'_1]; omega)
  · intro h1 j h2
    rw [List.mem_range'_1] at h2
    exact h1 j (by omega) (by omega)

structure Vd (s : ByteArray) (n : Nat) (g : Nat → Nat → Int) : Prop where
  name : nameB s = true
  one : 1 ≤ n
  few : n ≤ 20
  zero : g 0 0 = 0
  from_le : ∀ i, i < n → g i 0 ≤ 1000000
  price0 : ∀ i, i < n → 0 ≤ g i 1
  price1 : ∀ i, i < n → g i 1 ≤ 1000000
  up : ∀ i, i + 1 < n → g i 0 < g (i + 1) 0
theorem valid_iff {s : ByteArray} {n : Nat} {g : Nat → Nat → Int} : validB s n g = true ↔ Vd s n g := by
  unfold validB
  simp only [Bool.and_eq_true, decide_eq_true_eq]
  rw [clsFrom_all _ 0 rfl]
  constructor
  · rintro ⟨h1, h2, h3, h4, h5⟩
    have key : ∀ j, j < n → (g j 0 ≤ 1000000 ∧ 0 ≤ g j 1 ∧ g j 1 ≤ 1000000) ∧ (0 < j → g (j - 1) 0 < g j 0) := by
      intro j hj
      have := h5 j (Nat.zero_le _) hj
      unfold clsAt at this
      simp only [Bool.not_eq_true', Bool.or_eq_false_iff, decide_eq_false_iff_not, Bool.and_eq_false_iff] at this
      omega
    exact ⟨h1, by omega, by omega, h4, fun i hi => (key i hi).1.1, fun i hi => (key i hi).1.2.1, fun i hi => (key i hi).1.2.2, fun i hi => (key (i + 1) hi).2 (by omega)⟩
  · intro h
    refine ⟨h.name, by have := h.one; omega, by have := h.few; omega, h.zero, fun j _ hj => ?_⟩
    have h1 := h.from_le j hj
    have h2 := h.price0 j hj
    have h3 := h.price1 j hj
    unfold clsAt
    simp only [Bool.not_eq_true', Bool.or_eq_false_iff, decide_eq_false_iff_not, Bool.and_eq_false_iff]
    refine ⟨⟨⟨by omega, by omega⟩, by omega⟩, ?_⟩
    cases j with
    | zero => exact .inl (by omega)
    | succ j => have := h.up j hj; simp only [Nat.add_sub_cancel]; omega
theorem Vd.lt {s : ByteArray} {n : Nat} {g : Nat → Nat → Int} (h : Vd s n g) : ∀ (d i : Nat), i + d + 1 < n → g i 0 < g (i + d + 1) 0
  | 0, i, hi => h.up i hi
  | d + 1, i, hi => Int.lt_trans (h.lt d i (by omega)) (h.up (i + d + 1) hi)
theorem Vd.mono {s : ByteArray} {n : Nat} {g : Nat → Nat → Int} (h : Vd s n g) {i j : Nat} (hij : i < j) (hj : j < n) : g i 0 < g j 0 := by
  have := h.lt (j - i - 1) i (by omega)
  rwa [show i + (j - i - 1) + 1 = j by omega] at this
theorem Vd.from0 {s : ByteArray} {n : Nat} {g : Nat → Nat → Int} (h : Vd s n g) {i : Nat} (hi : i < n) : 0 ≤ g i 0 := by
  cases i with
  | zero => rw [h.zero]; exact Int.le_refl _
  | succ i => have := h.mono (i := 0) (j := i + 1) (by omega) hi; have := h.zero; omega

/-- A step at which the value falls. -/
def unf (n : Nat) (g : Nat → Nat → Int) (i : Nat) : Bool := decide (valueB n g (g (1 + i) 0) < valueB n g (g (1 + i) 0 - 1))

def mT (s : ByteArray) (n : Nat) (g : Nat → Nat → Int) : List B := [.var [.d (.str s), sl n g]]
def fnFair : U := .one (.fn 40 [] [(0, 0)])
abbrev TarI := ByteArray × Nat × (Nat → Nat → Int) × Int
def LFair : LoopS TarI where
  N := 19
  live := [0, 1, 7, 8]
  liveX := [4]
  dec vals mem := match vals, mem with
    | [.w (.one c), .w (.one (.fn 40 [] [(0, 0)])), .w (.one (.d (.int .i64 m))), .w (.one (.d (.int .i64 i)))], [.var [.d (.str s), .d (.slc n 2 g)]] =>
      some (decide (0 ≤ i) && (szG s n && (validB s n (toI g) && (isI g && (sameC c (.d (.slc (n - 1) 2 fun a b => g (1 + a) b)) && decide (m = ((n - 1 : Nat) : Int)))))), (s, n, toI g, i))
    | _, _ => none
  res := fun (s, n, g, i) => .br (decide (ffrom (unf n g) (n - 1) i.toNat < n - 1)) (.out .ret [ri (ffrom (unf n g) (n - 1) i.toNat)] (mT s n g)) (.out (.exit 0) [.any] (mT s n g))

theorem tFairL (s : ByteArray) (n : Nat) (g : Nat → Nat → Int) (i : Int) : evN Tryd.prog G9 noPl 3 [] (loopAt Tryd.f58 0)
  ⟨spread [0, 1, 7, 8] [.w (.one (sl (n - 1) fun a b => g (1 + a) b)), .w fnFair, ri ((n - 1 : Nat) : Int), ri i] 0 19, mT s n g⟩ (LFair.d.obs 1) =
  bif decide (i < ((n - 1 : Nat) : Int)) then
  bif decide (0 ≤ i) && decide (i < (↑(n - 1) : Int)) && true then
    bif tarG n 2 (rowI g) && (szG s n && (decide (0 ≤ classB n (cz n 2 g) (IntKind.i64.wrap (g (1 + i.toNat) 0 - 1))) && decide (classB n (cz n 2 g) (IntKind.i64.wrap (g (1 + i.toNat) 0 - 1)) < (↑n : Int)))) then
      bif tarG n 2 (rowI g) && (szG s n && (decide (0 ≤ classB n (cz n 2 g) (g (1 + i.toNat) 0)) && decide (classB n (cz n 2 g) (g (1 + i.toNat) 0) < (↑n : Int)))) then
        bif decide (valueB n (cz n 2 g) (g (1 + i.toNat) 0) < valueB n (cz n 2 g) (IntKind.i64.wrap (g (1 + i.toNat) 0 - 1))) then some (Ex.ret, [ri i], mT s n g)
        else some (Ex.norm, [.w (.one (sl (n - 1) fun a b => g (1 + a) b)), .w fnFair, ri ((n - 1 : Nat) : Int), ri (IntKind.i64.wrap (i + 1))], mT s n g)
      else none
    else none
  else none
  else some (Ex.exit 0, [V.any], mT s n g) := by kernel_rfl

theorem outW_f {w : Int} (h0 : 0 ≤ w) (h1 : w ≤ 1000000) : outW w = false := by
  unfold outW
  simp only [Bool.or_eq_false_iff, decide_eq_false_iff_not]; omega
theorem szG_iff {s : ByteArray} {n : Nat} : szG s n = true ↔ s.size ≤ 1000000 ∧ n ≤ 1000000 := by unfold szG; simp

theorem loopFair : LoopC Tryd.prog (loopAt Tryd.f58 0) LFair.d.g := by
  refine loopC_st LFair G9_ok (pl := noPl) PlOK.none 3 (ls := []) LsOK.nil
    (fun (s, n, g, i) => ([.w (.one (sl (n - 1) fun a b => g (1 + a) b)), .w fnFair, ri ((n - 1 : Nat) : Int), ri i], mT s n g))
    (fun (s, n, g, i) => 0 ≤ i ∧ szG s n = true ∧ validB s n g = true) (fun (_, n, _, i) => n - 1 - i.toNat) ?_ ?_
  · intro vals mem st h
    simp only [LFair] at h
    split at h <;> try (cases h; done)
    simp only [Option.some.injEq, Prod.mk.injEq, Bool.and_eq_true, decide_eq_true_eq] at h
    obtain ⟨⟨h1, h2, h3, h4, h5, h6⟩, rfl⟩ := h
    subst h6
    obtain rfl := sameC_elim h5
    obtain ⟨g, rfl⟩ := isI_elim h4
    exact ⟨⟨h1, h2, h3⟩, rfl⟩
  · rintro ⟨s, n, g, i⟩ ⟨hi, hz, hv⟩
    have ht := tFairL s n g i
    have V := valid_iff.1 hv
    have := V.few
    simp only [LFair] at ht ⊢
    rw [show (mT s n g).length = 1 from rfl, ht]
    by_cases hlt : i < ((n - 1 : Nat) : Int)
    · have hk : i.toNat < n - 1 := by omega
      have hw : IntKind.i64.wrap (i + 1) = i + 1 := wrap_id (by omega) (by omega)
      have hn : (i + 1).toNat = i.toNat + 1 := by omega
      have hg0 := V.from_le (1 + i.toNat) (by omega)
      have hg1 := V.mono (i := 0) (j := 1 + i.toNat) (by omega) (by omega)
      rw [V.zero] at hg1
      have hw1 : IntKind.i64.wrap (g (1 + i.toNat) 0 - 1) = g (1 + i.toNat) 0 - 1 := wrap_id (by omega) (by omega)
      obtain ⟨a1, a2⟩ := class_in hv (outW_f (w := g (1 + i.toNat) 0) (by omega) (by omega))
      obtain ⟨b1, b2⟩ := class_in hv (outW_f (w := g (1 + i.toNat) 0 - 1) (by omega) (by omega))
      simp only [hlt, hi, hw, hw1, hz, tarG_rowI, classB_cz, valueB_cz a1 a2, valueB_cz b1 b2, a1, a2, b1, b2, decide_true, Bool.and_true, cond_true, RT.r]
      rw [ffrom_step hk]
      change _ ∨ ((bif unf n g i.toNat then _ else _) = _ ∧ _)
      by_cases hp : unf n g i.toNat = true
      · right
        simp only [hp, cond_true, hk, decide_true, show ((i.toNat : Nat) : Int) = i by omega]
        exact ⟨trivial, fun h => by cases h⟩
      · left
        refine ⟨(s, n, g, i + 1), ?_, ⟨(by omega : (0 : Int) ≤ i + 1), hz, hv⟩, ?_, ?_⟩
        · change (bif unf n g i.toNat then _ else _) = _
          simp only [hp, cond_false]
        · simp only; omega
        · simp only [hn, hp, cond_false]
    · right
      rw [ffrom_end (by omega)]
      have : ¬ i.toNat < n - 1 := by omega
      simp only [hlt, this, decide_false, cond_false, RT.r]
      exact ⟨trivial, fun h => by cases h⟩

end
end Sh
end Go.Proofs.YtamdjlpobonmiaaDoor
