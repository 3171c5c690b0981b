/- ClassOf, Value and Next: the entries. -/
import Derived.Test.YtamdjlpobonmiaaDoorTaM
namespace Go.Proofs.YtamdjlpobonmiaaDoor
namespace Sh
set_option maxRecDepth 100000

noncomputable section

/-- The row of one weight, as the call makes it. -/
def oneRow (wt : Int) : Nat → Nat → D := fun a j => [D.int IntKind.i64 wt].getD (a * 1 + j) D.nil
theorem oneRow_R (wt : Int) : isR 1 1 (oneRow wt) = true := isR_intro fun i j hi hj => by
  obtain rfl : i = 0 := by omega
  obtain rfl : j = 0 := by omega
  exact ⟨wt, rfl⟩

/-- The error of one weight. -/
def errB (s : ByteArray) (n : Nat) (g : Nat → Nat → Int) (wt : Int) : Int := bif validB s n g then (bif outW wt then 2 else 0) else 1
def err1 (s : ByteArray) (n : Nat) (g : Nat → Nat → Int) (wt : Int) : Int := rightB s n (cz n 2 g) 1 (cz 1 1 (toI (oneRow wt)))
theorem err1_eq (s : ByteArray) (n : Nat) (g : Nat → Nat → Int) (wt : Int) : err1 s n g wt = errB s n g wt := by
  unfold err1 errB rightB
  rw [validB_cz, outFrom_step (by omega), outFrom_end (Nat.le_refl _)]
  have : cz 1 1 (toI (oneRow wt)) 0 0 = wt := rfl
  rw [this]
  cases validB s n g <;> cases outW wt <;> rfl
theorem valueB_cz {n : Nat} {g : Nat → Nat → Int} {wt : Int} (h0 : 0 ≤ classB n g wt) (h1 : classB n g wt < (n : Int)) : valueB n (cz n 2 g) wt = valueB n g wt := by
  unfold valueB
  rw [classB_cz, cz_in (by omega) (by omega)]

def rt (a b : Int) : V := .tup [.one (.d (.int .i64 a)), .one (.d (.int .i64 b))]

theorem t18 (s : ByteArray) (n : Nat) (g : Nat → Nat → Int) (wt : Int) : fnV Tryd.prog G8 4 Tryd.f18 [tar s n g, ui wt] =
  bif tarG n 2 (rowI g) && (szG s n && isR 1 1 (oneRow wt)) then
  bif !decide (err1 s n g wt = 0) then some (rt 0 (err1 s n g wt))
  else
    bif tarG n 2 (rowI g) && (szG s n && (decide (0 ≤ classB n (cz n 2 g) wt) && decide (classB n (cz n 2 g) wt < (↑n : Int)))) then
      some (rt (valueB n (cz n 2 g) wt) 0)
    else none
  else none := by kernel_rfl
theorem t20 (s : ByteArray) (n : Nat) (g : Nat → Nat → Int) (wt : Int) : fnV Tryd.prog G8 4 Tryd.f20 [tar s n g, ui wt] =
  bif tarG n 2 (rowI g) && (szG s n && isR 1 1 (oneRow wt)) then
  bif !decide (err1 s n g wt = 0) then some (rt 0 (err1 s n g wt))
  else
    bif tarG n 2 (rowI g) && szG s n then some (rt (classB n (cz n 2 g) wt) 0)
    else none
  else none := by kernel_rfl
theorem t21 (s : ByteArray) (n : Nat) (g : Nat → Nat → Int) (wt : Int) : fnV Tryd.prog G8 4 Tryd.f21 [tar s n g, ui wt] =
  bif tarG n 2 (rowI g) && (szG s n && isR 1 1 (oneRow wt)) then
  bif !decide (err1 s n g wt = 0) then some (rt 0 (err1 s n g wt))
  else
    bif tarG n 2 (rowI g) && szG s n then
      bif decide (IntKind.i64.wrap (classB n (cz n 2 g) wt + 1) < (↑n : Int)) then
        bif decide (0 ≤ IntKind.i64.wrap (classB n (cz n 2 g) wt + 1)) && decide (IntKind.i64.wrap (classB n (cz n 2 g) wt + 1) < (↑n : Int)) && true then
          some (rt (g (IntKind.i64.wrap (classB n (cz n 2 g) wt + 1)).toNat 0) 0)
        else none
      else some (rt 0 7)
    else none
  else none := by kernel_rfl

/-- The class of a permitted weight of a valid tariff is one. -/
theorem class_in {s : ByteArray} {n : Nat} {g : Nat → Nat → Int} {wt : Int} (hv : validB s n g = true) (hw : outW wt = false) : 0 ≤ classB n g wt ∧ classB n g wt < (n : Int) := by
  unfold validB at hv
  simp only [Bool.and_eq_true, decide_eq_true_eq] at hv
  obtain ⟨_, h1, _, h0, _⟩ := hv
  unfold outW at hw
  simp only [Bool.or_eq_false_iff, decide_eq_false_iff_not] at hw
  have hle : firstFrom n g wt 0 ≤ n := firstFrom_le (Nat.zero_le _)
  have hge : 1 ≤ firstFrom n g wt 0 := by
    rw [firstFrom_step (by omega)]
    have : decide (wt < g 0 0) = false := by simp only [decide_eq_false_iff_not, h0]; omega
    rw [this]
    exact firstFrom_ge
  unfold classB
  omega
theorem class_of_err {s : ByteArray} {n : Nat} {g : Nat → Nat → Int} {wt : Int} (h : errB s n g wt = 0) : 0 ≤ classB n g wt ∧ classB n g wt < (n : Int) := by
  unfold errB at h
  cases hv : validB s n g with
  | false => rw [hv] at h; cases h
  | true =>
    rw [hv] at h
    cases hw : outW wt with
    | true => rw [hw] at h; cases h
    | false => exact class_in hv hw

/-- The next step, or 0. -/
def nextB (n : Nat) (g : Nat → Nat → Int) (wt : Int) : Int × Int := bif decide (firstFrom n g wt 0 < n) then (g (firstFrom n g wt 0) 0, 0) else (0, 7)

def valE (s : ByteArray) (n : Nat) (g : Nat → Nat → Int) (w : Int) : Int := bif decide (errB s n g w = 0) then valueB n g w else 0
def classE (s : ByteArray) (n : Nat) (g : Nat → Nat → Int) (w : Int) : Int := bif decide (errB s n g w = 0) then classB n g w else 0
def nextV (s : ByteArray) (n : Nat) (g : Nat → Nat → Int) (w : Int) : Int := bif decide (errB s n g w = 0) then (nextB n g w).1 else 0
def nextE (s : ByteArray) (n : Nat) (g : Nat → Nat → Int) (w : Int) : Int := bif decide (errB s n g w = 0) then (nextB n g w).2 else errB s n g w
def eVal : List U → Option (Bool × V) := eT1 fun s n g w => some (szG s n, rt (valE s n g w) (errB s n g w))
def eClassOf : List U → Option (Bool × V) := eT1 fun s n g w => some (szG s n, rt (classE s n g w) (errB s n g w))
def eNext : List U → Option (Bool × V) := eT1 fun s n g w => some (szG s n, rt (nextV s n g w) (nextE s n g w))

theorem pureBif {b : Bool} {x y : V} (hx : pureV (dataV x) = true) (hy : pureV (dataV y) = true) : pureV (dataV (bif b then x else y)) = true := by cases b <;> assumption
theorem dataBif {b : Bool} {x y : V} (hx : dataV x = x) (hy : dataV y = y) : dataV (bif b then x else y) = bif b then x else y := by cases b <;> assumption

/-- As ent_of_fnV, where the result is data as it stands. -/
theorem ent_fnV {P : Program} {G : Tab} (hG : GOK P G) {n : Nat} {f : FuncId} {fn : Func} {us : List U} {v : V} (hf : P.funcs[f]? = some fn) (hname : (fn.name == "runtime.NumGoroutine") = false)
    (h : fnV P G n fn us = some v) (hus : us.all pureU = true) (hd : dataV v = v) (hv : pureV v = true) : EntOK P f us v := by
  have := ent_of_fnV hG hf hname h hus (by rw [hd]; exact hv)
  rwa [hd] at this
theorem ent_fnW {P : Program} {G : Tab} (hG : GOK P G) {pl : Plans} (hp : PlOK P pl) {n : Nat} {ls : Ls} {f : FuncId} {fn : Func} {us : List U} {v : V} (hf : P.funcs[f]? = some fn) (hname : (fn.name == "runtime.NumGoroutine") = false)
    (hls : LsOK P ls (bodyOf fn)) (h : fnW P G pl n ls fn us = some v) (hus : us.all pureU = true) (hd : dataV v = v) (hv : pureV v = true) : EntOK P f us v := by
  have := ent_of_fnW hG hp hf hname (fun c hc => by
    have e : bodyOf fn = c := by simp only [bodyOf, hc, Option.getD_some]
    rw [← e]; exact hls) h hus (by rw [hd]; exact hv)
  rwa [hd] at this

def G9 : Tab := addE (addE (addE G8 18 eVal) 20 eClassOf) 21 eNext
theorem G9_ok : GOK Tryd.prog G9 := by
  refine addE_ok (addE_ok (addE_ok G8_ok (eT1_ok ?_)) (eT1_ok ?_)) (eT1_ok ?_)
  all_goals
    intro s n g w v hk
    simp only [Option.some.injEq, Prod.mk.injEq] at hk
    obtain ⟨h1, rfl⟩ := hk
  · refine ent_fnV (fn := Tryd.f18) G8_ok (n := 4) (by kernel_rfl) (by kernel_rfl) ?_ rfl rfl rfl
    rw [t18]
    simp only [h1, tarG_rowI, oneRow_R, err1_eq, cond_true, Bool.true_and, Bool.and_true]
    by_cases h : errB s n g w = 0
    · obtain ⟨h2, h3⟩ := class_of_err h
      simp only [valE, classB_cz, valueB_cz h2 h3, h, h2, h3, decide_true, Bool.not_true, cond_false, cond_true, Bool.and_self]
    · simp only [valE, h, decide_false, Bool.not_false, cond_false, cond_true]
  · refine ent_fnV (fn := Tryd.f20) G8_ok (n := 4) (by kernel_rfl) (by kernel_rfl) ?_ rfl rfl rfl
    rw [t20]
    simp only [h1, tarG_rowI, oneRow_R, err1_eq, cond_true, Bool.true_and, Bool.and_true, classB_cz, classE]
    by_cases h : errB s n g w = 0
    · simp only [h, decide_true, Bool.not_true, cond_false, cond_true]
    · simp only [h, decide_false, Bool.not_false, cond_false, cond_true]
  · refine ent_fnV (fn := Tryd.f21) G8_ok (n := 4) (by kernel_rfl) (by kernel_rfl) ?_ rfl rfl rfl
    rw [t21]
    simp only [h1, tarG_rowI, oneRow_R, err1_eq, cond_true, Bool.true_and, Bool.and_true, classB_cz, nextV, nextE]
    unfold szG at h1
    simp only [Bool.and_eq_true, decide_eq_true_eq] at h1
    by_cases h : errB s n g w = 0
    · obtain ⟨h2, h3⟩ := class_of_err h
      rw [wrap_id (by omega) (by omega)]
      have e : classB n g w + 1 = (firstFrom n g w 0 : Int) := by unfold classB; omega
      have e1 : ((firstFrom n g w 0 : Nat) : Int) < n ↔ firstFrom n g w 0 < n := by omega
      simp only [e, h, decide_true, Bool.not_true, cond_false, cond_true, nextB, Int.toNat_natCast, show (0 : Int) ≤ (firstFrom n g w 0 : Nat) by omega, Bool.true_and, e1]
      by_cases h4 : firstFrom n g w 0 < n
      · simp only [h4, decide_true, cond_true]
      · simp only [h4, decide_false, cond_false]
    · simp only [h, decide_false, Bool.not_false, cond_false, cond_true]

end
end Sh
end Go.Proofs.YtamdjlpobonmiaaDoor
