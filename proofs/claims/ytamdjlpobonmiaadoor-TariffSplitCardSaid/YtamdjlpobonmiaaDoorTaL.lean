/- The error of a tariff and weights. -/
import Derived.Test.YtamdjlpobonmiaaDoorTaK
namespace Go.Proofs.YtamdjlpobonmiaaDoor
namespace Sh
set_option maxRecDepth 100000

noncomputable section

def pl77 : Plans := addP noPl 77 [some d77.g]
theorem pl77_ok : PlOK Tryd.prog pl77 := addP_ok PlOK.none (fn := Tryd.f77) (by kernel_rfl) (LsOK.one (x := loopAt Tryd.f77 0) (ls := []) (by kernel_rfl) loop77)

def rightB (s : ByteArray) (n : Nat) (g : Nat → Nat → Int) (k : Nat) (gw : Nat → Nat → Int) : Int :=
  bif validB s n g then (bif decide (outFrom k gw 0 < k) then 2 else 0) else 1

theorem t37 (s : ByteArray) (n : Nat) (g : Nat → Nat → Int) (k : Nat) (gw : Nat → Nat → Int) : fnW Tryd.prog G7 pl77 5 [] Tryd.f37 [tar s n g, U.one (sl1 k gw)] =
  bif tarG n 2 (rowI g) && szG s n then
  bif !validB s n (cz n 2 g) then some (ri 1)
  else
    bif (decide (k ≤ 1000000) && isI fun i j => D.int IntKind.i64 (gw i j)) && decide ((↑k : Int) = (↑k : Int)) then
      bif decide (outFrom k (toI fun i j => D.int IntKind.i64 (gw i j)) 0 < k) then some (ri 2)
      else some (ri 0)
    else none
  else none := by kernel_rfl

theorem clsFrom_cz {n : Nat} {g : Nat → Nat → Int} : ∀ (m k : Nat), m = n - k → clsFrom n (cz n 2 g) k = clsFrom n g k := by
  intro m
  induction m with
  | zero => intro k h; rw [clsFrom_end (by omega), clsFrom_end (by omega)]
  | succ m ih =>
    intro k h
    rw [clsFrom_step (g := cz n 2 g) (k := k) (by omega), clsFrom_step (g := g) (k := k) (by omega), ih (k + 1) (by omega)]
    unfold clsAt
    rw [cz_in (by omega) (by omega), cz_in (by omega) (by omega), cz_in (by omega) (by omega)]
theorem validB_cz {s : ByteArray} {n : Nat} {g : Nat → Nat → Int} : validB s n (cz n 2 g) = validB s n g := by
  unfold validB
  rw [clsFrom_cz _ 0 rfl]
  by_cases h : 1 ≤ (n : Int)
  · rw [cz_in (by omega) (by omega)]
  · simp only [h, decide_false, Bool.false_and]

theorem right_ent (s : ByteArray) (n : Nat) (g : Nat → Nat → Int) (k : Nat) (gw : Nat → Nat → Int) (hs : s.size ≤ 1000000) (hn : n ≤ 1000000) (hk : k ≤ 1000000) :
    EntOK Tryd.prog 37 [tar s n g, .one (sl1 k gw)] (ri (rightB s n g k gw)) := by
  refine ent_of_fnW (fn := Tryd.f37) G7_ok pl77_ok (n := 5) (ls := []) (v := ri (rightB s n g k gw)) (by kernel_rfl) (by kernel_rfl) (fun _ _ => LsOK.nil) ?_ rfl rfl
  rw [t37, validB_cz]
  unfold rightB
  simp only [hs, hn, hk, szG, tarG_rowI, isI_lit, toI_lit, decide_true, cond_true, Bool.and_true]
  by_cases h : outFrom k gw 0 < k
  · simp only [h, decide_true, cond_true]
    cases validB s n g <;> rfl
  · simp only [h, decide_false, cond_false]
    cases validB s n g <;> rfl

end
end Sh
end Go.Proofs.YtamdjlpobonmiaaDoor
