/- TariffLeast: what the law computes. -/
import Derived.Test.YtamdjlpobonmiaaDoorTaU
namespace Go.Proofs.YtamdjlpobonmiaaDoor
namespace Sh
set_option maxRecDepth 100000

noncomputable section
theorem tLst (s : ByteArray) (n : Nat) (g : Nat → Nat → Int) (v l : Int) : fnV Tryd.prog G12 6 Tryd.f8 [tar s n g, ui v, ui l] =
  bif (tarG n 2 (rowI g)) && true then
  bif !fewB s n then some (rb true) else
  bif (tarG n 2 (rowI g)) && szG s n then
  bif !validB s n (cz n 2 g) then some (rb true) else
  bif (tarG n 2 (rowI g)) && szG s n then
  bif tarG n 2 (cd n 2 (rowI (cz n 2 g))) && szG s n then
  bif (tarG n 2 (rowI g)) && szG s n then
  bif tarG n 2 (cd n 2 (rowI (cz n 2 g))) && szG s n then
  bif !decide ((leaB s n (cz n 2 (toI (cd n 2 (rowI (cz n 2 g))))) v).snd = 0) then
  bif decide ((leaB s n (cz n 2 (toI (cd n 2 (rowI (cz n 2 g))))) v).snd = 7) then
  bif !decide (errB s n (cz n 2 (toI (cd n 2 (rowI (cz n 2 g))))) l = 0) then some (rb true)
  else some (rb (decide (valE s n (cz n 2 (toI (cd n 2 (rowI (cz n 2 g))))) l < v)))
  else some (rb false) else
  bif (tarG n 2 (rowI g)) && szG s n then
  bif tarG n 2 (cd n 2 (rowI (cz n 2 g))) && szG s n then
  bif decide (errB s n (cz n 2 (toI (cd n 2 (rowI (cz n 2 g))))) (leaB s n (cz n 2 (toI (cd n 2 (rowI (cz n 2 g))))) v).fst = 0) then
  bif decide (v ≤ valE s n (cz n 2 (toI (cd n 2 (rowI (cz n 2 g))))) (leaB s n (cz n 2 (toI (cd n 2 (rowI (cz n 2 g))))) v).fst) then
  bif !decide (errB s n (cz n 2 (toI (cd n 2 (rowI (cz n 2 g))))) l = 0) then some (rb true) else
  bif decide ((leaB s n (cz n 2 (toI (cd n 2 (rowI (cz n 2 g))))) v).fst ≤ l) then some (rb true)
  else some (rb (decide (valE s n (cz n 2 (toI (cd n 2 (rowI (cz n 2 g))))) l < v)))
  else some (rb false)
  else some (rb false)
  else none
  else none
  else none
  else none
  else none
  else none
  else none
  else none := by kernel_rfl

theorem q_le {v p w : Int} (hp : 0 < p) (hv : 0 ≤ v) : (v * 1000 + p - 1).tdiv p ≤ w ↔ v * 1000 ≤ w * p := by
  rw [Int.tdiv_eq_ediv_of_nonneg (by omega)]
  have h1 : (v * 1000 + p - 1) / p ≤ w ↔ (v * 1000 + p - 1) / p < w + 1 := by omega
  rw [h1, Int.ediv_lt_iff_lt_mul hp, Int.add_mul, Int.one_mul]
  omega
theorem vAt_ge {v p w : Int} : v ≤ vAt p w ↔ v * 1000 ≤ w * p := by
  unfold vAt
  rw [Int.le_ediv_iff_mul_le (by decide)]
theorem leastW_le {g : Nat → Nat → Int} {v w : Int} {i : Nat} (hp : 0 < g i 1) (hv : 0 ≤ v) : leastW g v i ≤ w ↔ g i 0 ≤ w ∧ v ≤ vAt (g i 1) w := by
  rw [vAt_ge, ← q_le hp hv]
  unfold leastW
  split <;> omega

theorem least_plain {s : ByteArray} {n : Nat} {g : Nat → Nat → Int} (hv : validB s n g = true) (v l : Int) :
    ((leaB s n g v).2 = 7 ∧ (errB s n g l = 0 → valE s n g l < v)) ∨
    ((leaB s n g v).2 = 0 ∧ errB s n g (leaB s n g v).1 = 0 ∧ v ≤ valE s n g (leaB s n g v).1 ∧ (errB s n g l = 0 → ¬ (leaB s n g v).1 ≤ l → valE s n g l < v)) := by
  have Vh := valid_iff.1 hv
  have rng : ∀ x, errB s n g x = 0 → 0 ≤ x ∧ x ≤ 1000000 := fun x h => outW_iff.1 (err_zero h).2
  have err0 : ∀ x, 0 ≤ x → x ≤ 1000000 → errB s n g x = 0 := fun x h0 h1 => by
    unfold errB; rw [hv, outW_iff.2 ⟨h0, h1⟩]; rfl
  have val0 : ∀ x k, errB s n g x = 0 → InC n g x k → valE s n g x = vAt (g k 1) x := fun x k h hk => by
    unfold valE; rw [h]; exact value_of Vh hk (rng x h).2
  have last_le : ∀ i, i < n → lastB n g i ≤ 1000000 := fun i hi => by
    unfold lastB
    by_cases h : i + 1 < n
    · have := Vh.from_le _ h
      simp only [h, decide_true, cond_true]; omega
    · simp only [h, decide_false, cond_false]; omega
  have last_lt : ∀ i w, i + 1 < n → w ≤ lastB n g i → w < g (i + 1) 0 := fun i w h h1 => by
    unfold lastB at h1
    simp only [h, decide_true, cond_true] at h1; omega
  have in_last : ∀ i w, InC n g w i → w ≤ 1000000 → w ≤ lastB n g i := fun i w h h1 => by
    unfold lastB
    by_cases h2 : i + 1 < n
    · have := h.2.2 h2
      simp only [h2, decide_true, cond_true]; omega
    · simp only [h2, decide_false, cond_false]; omega
  have no : ∀ i w, 0 < v → InC n g w i → w ≤ 1000000 → leaP n g v i = false → vAt (g i 1) w < v := fun i w h0 hi h1 hp => by
    unfold leaP at hp
    by_cases hz : g i 1 = 0
    · rw [hz]; unfold vAt; omega
    · have hpos : 0 < g i 1 := by have := Vh.price0 i hi.1; omega
      simp only [hz, decide_false, Bool.not_false, Bool.true_and, decide_eq_false_iff_not] at hp
      have h3 := in_last i w hi h1
      have h4 : ¬ leastW g v i ≤ w := fun h => hp (by omega)
      rw [leastW_le hpos (by omega)] at h4
      have := hi.2.1
      omega
  unfold leaB
  rw [hv, cond_true]
  by_cases h1 : v ≤ 0
  · right
    simp only [h1, decide_true, cond_true]
    have e0 := err0 0 (by omega) (by omega)
    refine ⟨trivial, e0, ?_, fun h h2 => ?_⟩
    · obtain ⟨k, hk, _⟩ := inC_of Vh (w := 0) (Int.le_refl _)
      rw [val0 0 k e0 hk]
      have := (vAt_bd (w := 0) (p := g k 1) (by omega) (by omega) (Vh.price0 k hk.1) (Vh.price1 k hk.1)).1
      omega
    · have := rng l h; omega
  · by_cases h2 : 1000000000 < v
    · left
      simp only [h1, h2, decide_true, decide_false, cond_true, cond_false]
      refine ⟨trivial, fun h => ?_⟩
      obtain ⟨a, b⟩ := rng l h
      obtain ⟨k, hk, _⟩ := inC_of Vh a
      rw [val0 l k h hk]
      have := (vAt_bd a b (Vh.price0 k hk.1) (Vh.price1 k hk.1)).2
      omega
    · simp only [h1, h2, decide_false, cond_false]
      obtain ⟨_, f2, f3, f4⟩ := ffrom_spec (p := leaP n g v) (n := n) _ 0 rfl (Nat.zero_le _)
      generalize ffrom (leaP n g v) n 0 = F at f2 f3 f4 ⊢
      by_cases hF : F < n
      · right
        simp only [hF, decide_true, cond_true]
        have hp := f4 hF
        unfold leaP at hp
        simp only [Bool.and_eq_true, Bool.not_eq_true', decide_eq_false_iff_not, decide_eq_true_eq] at hp
        obtain ⟨hz, hl⟩ := hp
        have hpos : 0 < g F 1 := by have := Vh.price0 F hF; omega
        obtain ⟨w1, w2⟩ := (leastW_le hpos (by omega)).1 (Int.le_refl (leastW g v F))
        have w0 := Vh.from0 hF
        have wl := last_le F hF
        have hin : InC n g (leastW g v F) F := ⟨hF, w1, fun h => last_lt F _ h hl⟩
        have he := err0 (leastW g v F) (by omega) (by omega)
        refine ⟨trivial, he, by rw [val0 _ F he hin]; exact w2, fun h h5 => ?_⟩
        obtain ⟨a, b⟩ := rng l h
        obtain ⟨k, hk, _⟩ := inC_of Vh a
        rw [val0 l k h hk]
        have hkF := inC_mono Vh (a := l) (b := leastW g v F) (by omega) hk hin
        rcases Nat.lt_or_ge k F with h6 | h6
        · exact no k l (by omega) hk b (f3 k (Nat.zero_le _) h6)
        · obtain rfl : k = F := by omega
          have h7 := (not_congr (leastW_le (w := l) hpos (by omega : 0 ≤ v))).1 h5
          have := hk.2.1
          omega
      · left
        simp only [hF, decide_false, cond_false]
        refine ⟨trivial, fun h => ?_⟩
        obtain ⟨a, b⟩ := rng l h
        obtain ⟨k, hk, _⟩ := inC_of Vh a
        rw [val0 l k h hk]
        exact no k l (by omega) hk b (f3 k (Nat.zero_le _) (by have := hk.1; omega))

theorem least_true (s : ByteArray) (n : Nat) (g : Nat → Nat → Int) (v l : Int) : fnV Tryd.prog G12 6 Tryd.f8 [tar s n g, ui v, ui l] = some (rb true) := by
  rw [tLst]
  simp only [own_cz]
  rw [tarG_rowI, Bool.true_and, cond_true]
  cases hf : fewB s n with
  | false => rfl
  | true =>
    have hz := few_sz hf
    cases hv : validB s n (cz n 2 g) with
    | false => simp only [hz, Bool.not_true, Bool.not_false, cond_false, cond_true, Bool.and_self]
    | true =>
      simp only [hz, tarG_cd, Bool.not_true, cond_false, cond_true, Bool.and_self]
      rcases least_plain hv v l with ⟨h1, h2⟩ | ⟨h1, h2, h3, h4⟩
      · by_cases he : errB s n (cz n 2 g) l = 0
        · simp only [h1, he, h2 he, show ¬ (7 : Int) = 0 by decide, decide_true, decide_false, Bool.not_true, Bool.not_false, cond_true, cond_false]
        · simp only [h1, he, show ¬ (7 : Int) = 0 by decide, decide_true, decide_false, Bool.not_false, cond_true]
      · by_cases he : errB s n (cz n 2 g) l = 0
        · by_cases hl : (leaB s n (cz n 2 g) v).1 ≤ l
          · simp only [h1, h2, h3, he, hl, decide_true, Bool.not_true, cond_true, cond_false]
          · simp only [h1, h2, h3, he, hl, h4 he hl, decide_true, decide_false, Bool.not_true, cond_true, cond_false]
        · simp only [h1, h2, h3, he, decide_true, decide_false, Bool.not_true, Bool.not_false, cond_true, cond_false]

theorem least_ent (s : ByteArray) (n : Nat) (g : Nat → Nat → Int) (v l : Int) : EntOK Tryd.prog 8 [tar s n g, ui v, ui l] (rb true) :=
  ent_fnV (fn := Tryd.f8) G12_ok (n := 6) (by kernel_rfl) (by kernel_rfl) (least_true s n g v l) rfl rfl rfl

end
end Sh
end Go.Proofs.YtamdjlpobonmiaaDoor
