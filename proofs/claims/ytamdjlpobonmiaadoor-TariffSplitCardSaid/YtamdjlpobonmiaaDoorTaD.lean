/- Names, said once for both sides. -/
import Derived.Test.YtamdjlpobonmiaaDoorTaC
namespace Go.Proofs.YtamdjlpobonmiaaDoor
namespace Sh
set_option maxRecDepth 100000

noncomputable section

def nameB (s : ByteArray) : Bool := wordRB s && (decide ((↑s.size : Int) ≤ 30) && !resB s)

theorem t43 (s : ByteArray) : fnV Tryd.prog G3 3 Tryd.f43 [us s] =
  bif !s.toList == { data := #[] : ByteArray }.toList then
  bif decide ((↑s.size : Int) ≤ 30) then
    bif decide (s.size ≤ 1000000) then
      bif decide ((↑(wordLen s) : Int) = (↑s.size : Int)) then some (V.w (U.one (C.d (D.bool !resB s))))
      else some (V.w (U.one (C.d (D.bool false))))
    else none
  else some (V.w (U.one (C.d (D.bool false))))
  else some (V.w (U.one (C.d (D.bool false)))) := by kernel_rfl
theorem t36 (s : ByteArray) : fnV Tryd.prog G3 3 Tryd.f36 [us s] =
  bif decide (s.size ≤ 1000000) then
  bif wordRB s then
    bif decide ((↑s.size : Int) ≤ 30) then some (V.w (U.one (C.d (D.bool !resB s))))
    else some (V.w (U.one (C.d (D.bool false))))
  else some (V.w (U.one (C.d (D.bool false))))
  else none := by kernel_rfl

def allW (s : ByteArray) (k : Nat) : Bool := (List.range' k (s.size - k)).all fun j => wordB (bt s j)
theorem allW_step {s : ByteArray} {k : Nat} (h : k < s.size) : allW s k = (wordB (bt s k) && allW s (k + 1)) := by
  unfold allW
  rw [show s.size - k = (s.size - (k + 1)) + 1 by omega, List.range'_succ, List.all_cons]
theorem allW_end {s : ByteArray} {k : Nat} (h : s.size ≤ k) : allW s k = true := by
  unfold allW
  rw [show s.size - k = 0 by omega]; rfl

theorem runTo_all {s : ByteArray} : ∀ (n k : Nat), n = s.size - k → k ≤ s.size → decide (runTo s k = s.size) = allW s k := by
  intro n
  induction n with
  | zero =>
    intro k h hk
    rw [runTo_end (by omega), allW_end (by omega)]
    simp only [decide_eq_true_eq]; omega
  | succ n ih =>
    intro k h hk
    rw [runTo_step (by omega), allW_step (by omega)]
    cases wordB (bt s k) with
    | true => simp only [cond_true, Bool.true_and]; exact ih (k + 1) (by omega) (by omega)
    | false => simp only [cond_false, Bool.false_and, decide_eq_false_iff_not]; omega

theorem okFrom_allW {s : ByteArray} : ∀ (n k : Nat), n = s.size - k → 1 ≤ k → okFrom s k = allW s k := by
  intro n
  induction n with
  | zero => intro k h hk; rw [okFrom_end (by omega), allW_end (by omega)]
  | succ n ih =>
    intro k h hk
    rw [okFrom_step (by omega), allW_step (by omega), ih (k + 1) (by omega) (by omega)]
    have : decide (k = 0) = false := by simp only [decide_eq_false_iff_not]; omega
    unfold okAt wordB
    rw [this]
    simp only [Bool.not_false, Bool.true_and, Bool.or_assoc]

theorem wordRB_eq (s : ByteArray) : wordRB s = (decide ((0 : Int) < s.size) && decide ((↑(wordLen s) : Int) = (↑s.size : Int))) := by
  unfold wordRB wordLen
  by_cases h0 : s.size = 0
  · simp [h0]
  · have h1 : (0 : Int) < s.size := by omega
    simp only [h0, decide_false, Bool.false_or, h1, decide_true, Bool.true_and, Bool.and_true]
    rw [okFrom_step (by omega), okFrom_allW _ 1 rfl (Nat.le_refl _)]
    cases hl : letterB (bt s 0) with
    | false =>
      simp only [okAt, hl, Bool.not_false, cond_true, decide_true, Bool.not_true, Bool.false_and, Bool.or_self]
      symm
      simp only [decide_eq_false_iff_not]; omega
    | true =>
      simp only [okAt, hl, Bool.not_true, cond_false, Bool.true_or, Bool.true_and]
      have hw : wordB (bt s 0) = true := by unfold wordB; rw [hl]; simp
      have := runTo_all (s := s) _ 0 rfl (Nat.zero_le _)
      rw [allW_step (by omega), hw, Bool.true_and] at this
      rw [← this]
      simp only [decide_eq_decide]; omega

def eName (us : List U) : Option (Bool × V) := match us with
  | [.one (.d (.str s))] => some (decide (s.size ≤ 1000000), rb (nameB s))
  | _ => none
theorem nameR_ent (s : ByteArray) (h : s.size ≤ 1000000) : EntOK Tryd.prog 36 [us s] (rb (nameB s)) := by
  refine ent_of_fnV (fn := Tryd.f36) G3_ok (n := 3) (v := rb (nameB s)) (by kernel_rfl) (by kernel_rfl) ?_ rfl rfl
  rw [t36]; unfold nameB
  simp only [h, decide_true, cond_true]
  cases wordRB s <;> cases decide ((↑s.size : Int) ≤ 30) <;> rfl
theorem name_ent (s : ByteArray) (h : s.size ≤ 1000000) : EntOK Tryd.prog 43 [us s] (rb (nameB s)) := by
  refine ent_of_fnV (fn := Tryd.f43) G3_ok (n := 3) (v := rb (nameB s)) (by kernel_rfl) (by kernel_rfl) ?_ rfl rfl
  rw [t43, empty_eq]; unfold nameB
  rw [wordRB_eq]
  simp only [h, decide_true, cond_true]
  by_cases h0 : s.size = 0
  · simp [h0]; rfl
  · have h1 : (0 : Int) < s.size := by omega
    simp only [h0, decide_false, Bool.not_false, cond_true, h1, decide_true, Bool.true_and]
    cases decide ((↑(wordLen s) : Int) = (↑s.size : Int)) <;> cases decide ((↑s.size : Int) ≤ 30) <;> rfl

def G4 : Tab := addE (addE G3 36 eName) 43 eName
theorem G4_ok : GOK Tryd.prog G4 := by
  refine addE_ok (addE_ok G3_ok ?_) ?_
  all_goals
    intro us v h
    simp only [eName] at h
    split at h
    case h_2 => cases h
    simp only [Option.some.injEq, Prod.mk.injEq, decide_eq_true_eq] at h
    obtain ⟨h1, rfl⟩ := h
  · exact nameR_ent _ h1
  · exact name_ent _ h1

end
end Sh
end Go.Proofs.YtamdjlpobonmiaaDoor
