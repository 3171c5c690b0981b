/- Names: bytes and reserved words. -/
import Derived.Test.YtamdjlpobonmiaaDoorProg
import Derived.Test.YtamdjlpobonmiaaDoorShT
namespace Go.Proofs.YtamdjlpobonmiaaDoor
namespace Sh
set_option maxRecDepth 100000

noncomputable section

def letterB (c : Int) : Bool := bif decide (97 ≤ c) && decide (c ≤ 122) then true else decide (65 ≤ c) && decide (c ≤ 90)
def digitB (c : Int) : Bool := decide (48 ≤ c) && decide (c ≤ 57)
def wordB (c : Int) : Bool := letterB c || digitB c || decide (c = 45) || decide (c = 95)

theorem t78 (c : Int) : fnV Tryd.prog G0 3 Tryd.f78 [ub c] =
  bif decide (97 ≤ c) then
  bif decide (c ≤ 122) then some (V.w (U.one (C.d (D.bool true))))
  else
    bif decide (65 ≤ c) then some (V.w (U.one (C.d (D.bool (decide (c ≤ 90))))))
    else some (V.w (U.one (C.d (D.bool false))))
  else
  bif decide (65 ≤ c) then some (V.w (U.one (C.d (D.bool (decide (c ≤ 90))))))
  else some (V.w (U.one (C.d (D.bool false)))) := by kernel_rfl
theorem t78r (c : Int) : fnV Tryd.prog G0 3 Tryd.f75 [ub c] =
  bif decide (97 ≤ c) then
  bif decide (c ≤ 122) then some (V.w (U.one (C.d (D.bool true))))
  else
    bif decide (65 ≤ c) then some (V.w (U.one (C.d (D.bool (decide (c ≤ 90))))))
    else some (V.w (U.one (C.d (D.bool false))))
  else
  bif decide (65 ≤ c) then some (V.w (U.one (C.d (D.bool (decide (c ≤ 90))))))
  else some (V.w (U.one (C.d (D.bool false)))) := by kernel_rfl
theorem letter_fn (c : Int) : fnV Tryd.prog G0 3 Tryd.f78 [ub c] = some (rb (letterB c)) := by
  rw [t78]; unfold letterB
  cases decide (97 ≤ c) <;> cases decide (c ≤ 122) <;> cases decide (65 ≤ c) <;> rfl
theorem letterR_fn (c : Int) : fnV Tryd.prog G0 3 Tryd.f75 [ub c] = some (rb (letterB c)) := by
  rw [t78r]; unfold letterB
  cases decide (97 ≤ c) <;> cases decide (c ≤ 122) <;> cases decide (65 ≤ c) <;> rfl

theorem t81 (c : Int) : fnV Tryd.prog G0 3 Tryd.f81 [ub c] =
  bif decide (48 ≤ c) then some (V.w (U.one (C.d (D.bool (decide (c ≤ 57))))))
  else some (V.w (U.one (C.d (D.bool false)))) := by kernel_rfl
theorem t81r (c : Int) : fnV Tryd.prog G0 3 Tryd.f76 [ub c] =
  bif decide (48 ≤ c) then some (V.w (U.one (C.d (D.bool (decide (c ≤ 57))))))
  else some (V.w (U.one (C.d (D.bool false)))) := by kernel_rfl
theorem digit_fn (c : Int) : fnV Tryd.prog G0 3 Tryd.f81 [ub c] = some (rb (digitB c)) := by
  rw [t81]; unfold digitB; cases decide (48 ≤ c) <;> rfl
theorem digitR_fn (c : Int) : fnV Tryd.prog G0 3 Tryd.f76 [ub c] = some (rb (digitB c)) := by
  rw [t81r]; unfold digitB; cases decide (48 ≤ c) <;> rfl

def eLetter (us : List U) : Option (Bool × V) := match us with
  | [.one (.d (.int .u8 c))] => some (true, rb (letterB c))
  | _ => none
def eDigit (us : List U) : Option (Bool × V) := match us with
  | [.one (.d (.int .u8 c))] => some (true, rb (digitB c))
  | _ => none

def G1 : Tab := addE (addE (addE (addE G0 78 eLetter) 75 eLetter) 81 eDigit) 76 eDigit
theorem G1_ok : GOK Tryd.prog G1 := by
  refine addE_ok (addE_ok (addE_ok (addE_ok G0_ok ?_) ?_) ?_) ?_
  all_goals
    intro us v h
    simp only [eLetter, eDigit] at h
    split at h
    case h_2 => cases h
    simp only [Option.some.injEq, Prod.mk.injEq, true_and] at h
    subst h
  · exact ent_of_fnV G0_ok (by kernel_rfl) (by kernel_rfl) (letter_fn _) rfl rfl
  · exact ent_of_fnV G0_ok (by kernel_rfl) (by kernel_rfl) (letterR_fn _) rfl rfl
  · exact ent_of_fnV G0_ok (by kernel_rfl) (by kernel_rfl) (digit_fn _) rfl rfl
  · exact ent_of_fnV G0_ok (by kernel_rfl) (by kernel_rfl) (digitR_fn _) rfl rfl

end
end Sh
end Go.Proofs.YtamdjlpobonmiaaDoor
