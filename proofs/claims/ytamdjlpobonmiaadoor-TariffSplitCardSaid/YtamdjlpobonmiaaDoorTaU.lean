/- TariffSteps: what the law computes. -/
import Derived.Test.YtamdjlpobonmiaaDoorTaT
import Derived.Test.YtamdjlpobonmiaaDoorTaV
namespace Go.Proofs.YtamdjlpobonmiaaDoor
namespace Sh
set_option maxRecDepth 100000

noncomputable section
def two (a b : Int) : U := .agg [.d (.int .i64 a), .d (.int .i64 b)]
theorem tSteps (s : ByteArray) (n : Nat) (g : Nat → Nat → Int) (a b : Int) : fnV Tryd.prog G12 6 Tryd.f5 [tar s n g, two a b] =
  bif (tarG n 2 (rowI g)) && true then
  bif !fewB s n then some (rb true) else
  bif decide (b < a) then some (rb true) else
  bif (tarG n 2 (rowI g)) && szG s n then
  bif tarG n 2 (cd n 2 (rowI (cz n 2 g))) && szG s n then
  bif tarG n 2 (cd n 2 (rowI (cz n 2 g))) && szG s n then
  bif tarG n 2 (cd n 2 (rowI (cz n 2 g))) && szG s n then
  bif tarG n 2 (cd n 2 (rowI (cz n 2 g))) && szG s n then
  bif !decide (errB s n (cz n 2 (toI (cd n 2 (rowI (cz n 2 g))))) a = 0) then
  bif decide (errB s n (cz n 2 (toI (cd n 2 (rowI (cz n 2 g))))) a = errB s n (cz n 2 (toI (cd n 2 (rowI (cz n 2 g))))) a) then some (rb (decide (errB s n (cz n 2 (toI (cd n 2 (rowI (cz n 2 g))))) b = errB s n (cz n 2 (toI (cd n 2 (rowI (cz n 2 g))))) b)))
  else some (rb false) else
  bif !decide (errB s n (cz n 2 (toI (cd n 2 (rowI (cz n 2 g))))) b = 0) then
  bif decide (errB s n (cz n 2 (toI (cd n 2 (rowI (cz n 2 g))))) a = errB s n (cz n 2 (toI (cd n 2 (rowI (cz n 2 g))))) a) then some (rb (decide (errB s n (cz n 2 (toI (cd n 2 (rowI (cz n 2 g))))) b = errB s n (cz n 2 (toI (cd n 2 (rowI (cz n 2 g))))) b)))
  else some (rb false) else
  bif !decide (errB s n (cz n 2 (toI (cd n 2 (rowI (cz n 2 g))))) a = 0) then
  bif decide (errB s n (cz n 2 (toI (cd n 2 (rowI (cz n 2 g))))) a = errB s n (cz n 2 (toI (cd n 2 (rowI (cz n 2 g))))) a) then some (rb (decide (errB s n (cz n 2 (toI (cd n 2 (rowI (cz n 2 g))))) b = errB s n (cz n 2 (toI (cd n 2 (rowI (cz n 2 g))))) b)))
  else some (rb false) else
  bif !decide (errB s n (cz n 2 (toI (cd n 2 (rowI (cz n 2 g))))) b = 0) then
  bif decide (errB s n (cz n 2 (toI (cd n 2 (rowI (cz n 2 g))))) a = errB s n (cz n 2 (toI (cd n 2 (rowI (cz n 2 g))))) a) then some (rb (decide (errB s n (cz n 2 (toI (cd n 2 (rowI (cz n 2 g))))) b = errB s n (cz n 2 (toI (cd n 2 (rowI (cz n 2 g))))) b)))
  else some (rb false) else
  bif tarG n 2 (cd n 2 (rowI (cz n 2 g))) && szG s n then
  bif decide (nextE s n (cz n 2 (toI (cd n 2 (rowI (cz n 2 g))))) a = 0) then
  bif decide (nextV s n (cz n 2 (toI (cd n 2 (rowI (cz n 2 g))))) a ≤ b) == !decide (classE s n (cz n 2 (toI (cd n 2 (rowI (cz n 2 g))))) a = classE s n (cz n 2 (toI (cd n 2 (rowI (cz n 2 g))))) b) then
  bif !decide (classE s n (cz n 2 (toI (cd n 2 (rowI (cz n 2 g))))) a = classE s n (cz n 2 (toI (cd n 2 (rowI (cz n 2 g))))) b) then
  bif tarG n 2 (cd n 2 (rowI (cz n 2 g))) && szG s n then
  bif !fairB s n (cz n 2 (toI (cd n 2 (rowI (cz n 2 g))))) then some (rb true)
  else some (rb (decide (valE s n (cz n 2 (toI (cd n 2 (rowI (cz n 2 g))))) a ≤ valE s n (cz n 2 (toI (cd n 2 (rowI (cz n 2 g))))) b)))
  else none
  else some (rb (decide (valE s n (cz n 2 (toI (cd n 2 (rowI (cz n 2 g))))) a ≤ valE s n (cz n 2 (toI (cd n 2 (rowI (cz n 2 g))))) b)))
  else some (rb false) else
  bif false == !decide (classE s n (cz n 2 (toI (cd n 2 (rowI (cz n 2 g))))) a = classE s n (cz n 2 (toI (cd n 2 (rowI (cz n 2 g))))) b) then
  bif !decide (classE s n (cz n 2 (toI (cd n 2 (rowI (cz n 2 g))))) a = classE s n (cz n 2 (toI (cd n 2 (rowI (cz n 2 g))))) b) then
  bif tarG n 2 (cd n 2 (rowI (cz n 2 g))) && szG s n then
  bif !fairB s n (cz n 2 (toI (cd n 2 (rowI (cz n 2 g))))) then some (rb true)
  else some (rb (decide (valE s n (cz n 2 (toI (cd n 2 (rowI (cz n 2 g))))) a ≤ valE s n (cz n 2 (toI (cd n 2 (rowI (cz n 2 g))))) b)))
  else none
  else some (rb (decide (valE s n (cz n 2 (toI (cd n 2 (rowI (cz n 2 g))))) a ≤ valE s n (cz n 2 (toI (cd n 2 (rowI (cz n 2 g))))) b)))
  else some (rb false)
  else none
  else none
  else none
  else none
  else none
  else none
  else none := by kernel_rfl

theorem few_sz {s : ByteArray} {n : Nat} (h : fewB s n = true) : szG s n = true := by
  unfold fewB at h
  simp only [Bool.and_eq_true, decide_eq_true_eq] at h
  exact szG_iff.2 ⟨by omega, by omega⟩

/-- The step between two weights. -/
theorem steps_plain {s : ByteArray} {n : Nat} {g : Nat → Nat → Int} {a b : Int} (h : a ≤ b) (ha : errB s n g a = 0) (hb : errB s n g b = 0) :
    ((decide (nextE s n g a = 0) && decide (nextV s n g a ≤ b)) = !decide (classE s n g a = classE s n g b)) ∧
    ((classE s n g a = classE s n g b ∨ fairB s n g = true) → valE s n g a ≤ valE s n g b) := by
  obtain ⟨hv, wa⟩ := err_zero ha
  obtain ⟨_, wb⟩ := err_zero hb
  rw [outW_iff] at wa wb
  have V := valid_iff.1 hv
  obtain ⟨i, hi, fi⟩ := inC_of V wa.1
  obtain ⟨j, hj, fj⟩ := inC_of V wb.1
  have hij := inC_mono V h hi hj
  unfold nextE nextV classE valE
  simp only [ha, hb, decide_true, cond_true, class_of V hi, class_of V hj, nextB, fi]
  constructor
  · by_cases h1 : i + 1 < n
    · simp only [h1, decide_true, cond_true, Bool.true_and]
      by_cases h2 : g (i + 1) 0 ≤ b
      · have : ¬ (i : Int) = j := fun e => by
          have e' : i = j := by omega
          subst e'
          have := hj.2.2 h1
          omega
        simp only [h2, this, decide_true, decide_false, Bool.not_false]
      · have : (i : Int) = j := by
          rcases Nat.lt_or_ge i j with h3 | h3
          · have := V.le (i := i + 1) (j := j) h3 hj.1
            have := hj.2.1
            omega
          · omega
        simp only [h2, this, decide_true, decide_false, Bool.not_true]
    · have : (i : Int) = j := by have := hj.1; omega
      simp only [h1, this, decide_true, decide_false, cond_false, Bool.not_true, show ¬ (7 : Int) = 0 by decide, Bool.false_and]
  · rintro (h1 | h1)
    · have e : i = j := by omega
      subst e
      exact same_class V h wb.2 hi hj
    · exact fair_mono V ((fair_iff V).1 h1) _ rfl h wb.2 hi hj

theorem steps_true (s : ByteArray) (n : Nat) (g : Nat → Nat → Int) (a b : Int) : fnV Tryd.prog G12 6 Tryd.f5 [tar s n g, two a b] = some (rb true) := by
  rw [tSteps]
  simp only [own_cz]
  rw [tarG_rowI, Bool.true_and, cond_true]
  cases hf : fewB s n with
  | false => rfl
  | true =>
    have hz := few_sz hf
    by_cases hab : b < a
    · simp only [hab, Bool.not_true, cond_false, decide_true, cond_true]
    · simp only [hab, Bool.not_true, cond_false, decide_false, hz, tarG_cd, Bool.true_and, cond_true]
      by_cases ha : errB s n (cz n 2 g) a = 0
      · by_cases hb : errB s n (cz n 2 g) b = 0
        · obtain ⟨h1, h2⟩ := steps_plain (a := a) (b := b) (by omega) ha hb
          simp only [ha, hb, decide_true, Bool.not_true, cond_false]
          generalize hc : decide (classE s n (cz n 2 g) a = classE s n (cz n 2 g) b) = c at h1
          have h3 : (c = true ∨ fairB s n (cz n 2 g) = true) → valE s n (cz n 2 g) a ≤ valE s n (cz n 2 g) b := by
            rintro (h3 | h3)
            · subst hc; exact h2 (.inl (of_decide_eq_true h3))
            · exact h2 (.inr h3)
          cases hn : decide (nextE s n (cz n 2 g) a = 0) with
          | false =>
            rw [hn, Bool.false_and] at h1
            have hc' : c = true := by cases c with | true => rfl | false => cases h1
            have := h3 (.inl hc')
            simp only [hc', this, Bool.not_true, beq_self_eq_true, cond_true, cond_false, decide_true]
          | true =>
            rw [hn, Bool.true_and] at h1
            rw [h1]
            cases c with
            | true => have := h3 (.inl rfl); simp only [this, Bool.not_true, beq_self_eq_true, cond_true, cond_false, decide_true]
            | false =>
              cases hfair : fairB s n (cz n 2 g) with
              | false => rfl
              | true => have := h3 (.inr hfair); simp only [this, Bool.not_true, Bool.not_false, beq_self_eq_true, cond_true, cond_false, decide_true]
        · simp only [ha, hb, decide_true, decide_false, Bool.not_true, Bool.not_false, cond_false, cond_true]
      · simp only [ha, decide_true, decide_false, Bool.not_false, cond_true]

theorem steps_ent (s : ByteArray) (n : Nat) (g : Nat → Nat → Int) (a b : Int) : EntOK Tryd.prog 5 [tar s n g, two a b] (rb true) :=
  ent_fnV (fn := Tryd.f5) G12_ok (n := 6) (by kernel_rfl) (by kernel_rfl) (steps_true s n g a b) rfl rfl rfl

end
end Sh
end Go.Proofs.YtamdjlpobonmiaaDoor
