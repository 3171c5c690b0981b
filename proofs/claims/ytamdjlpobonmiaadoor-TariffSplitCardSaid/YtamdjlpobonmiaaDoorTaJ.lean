/- The value of a weight. -/
import Derived.Test.YtamdjlpobonmiaaDoorTaI
namespace Go.Proofs.YtamdjlpobonmiaaDoor
namespace Sh
set_option maxRecDepth 100000

noncomputable section

def valueB (n : Nat) (g : Nat → Nat → Int) (wt : Int) : Int := IntKind.i64.wrap ((IntKind.i64.wrap (wt * g (classB n g wt).toNat 1)).tdiv 1000)

/-- The numbers of a tariff, as an entry reads them. -/
def zi (n : Nat) (g : Nat → Nat → Int) : Nat → Nat → Int := cz n 2 g
theorem t38 (s : ByteArray) (n : Nat) (g : Nat → Nat → Int) (wt : Int) : fnV Tryd.prog G6 4 Tryd.f38 [tar s n g, ui wt] =
  bif tarG n 2 (rowI g) && szG s n then
  bif decide (0 ≤ classB n (cz n 2 g) wt) && decide (classB n (cz n 2 g) wt < (↑n : Int)) && true then
    some (ri (IntKind.i64.wrap ((IntKind.i64.wrap (wt * g (classB n (cz n 2 g) wt).toNat 1)).tdiv 1000)))
  else none
  else none := by kernel_rfl

theorem firstFrom_cz {n : Nat} {g : Nat → Nat → Int} {wt : Int} : ∀ (m k : Nat), m = n - k → firstFrom n (cz n 2 g) wt k = firstFrom n g wt k := by
  intro m
  induction m with
  | zero => intro k h; rw [firstFrom_end (by omega), firstFrom_end (by omega)]
  | succ m ih =>
    intro k h
    rw [firstFrom_step (g := cz n 2 g) (k := k) (by omega), firstFrom_step (g := g) (k := k) (by omega), ih (k + 1) (by omega), cz_in (by omega) (by omega)]
theorem classB_cz {n : Nat} {g : Nat → Nat → Int} {wt : Int} : classB n (cz n 2 g) wt = classB n g wt := by unfold classB; rw [firstFrom_cz _ 0 rfl]

def eValue : List U → Option (Bool × V) := eT1 fun s n g w => some (szG s n && (decide (0 ≤ classB n g w) && decide (classB n g w < (n : Int))), ri (valueB n g w))
def G7 : Tab := addE G6 38 eValue
theorem G7_ok : GOK Tryd.prog G7 := by
  refine addE_ok G6_ok (eT1_ok ?_)
  intro s n g w v hk
  simp only [Option.some.injEq, Prod.mk.injEq, szG, Bool.and_eq_true, decide_eq_true_eq] at hk
  obtain ⟨⟨⟨h1, h2⟩, h3, h4⟩, rfl⟩ := hk
  refine ent_of_fnV (fn := Tryd.f38) G6_ok (n := 4) (v := ri (valueB n g w)) (by kernel_rfl) (by kernel_rfl) ?_ rfl rfl
  rw [t38, classB_cz]
  simp only [h1, h2, h3, h4, tarG_rowI, szG, decide_true, cond_true, Bool.and_true, valueB]

/- Weights that are not permitted. -/
def outW (w : Int) : Bool := decide (w < 0) || decide (1000000 < w)
def outFrom (k : Nat) (gw : Nat → Nat → Int) (i : Nat) : Nat := i + ((List.range' i (k - i)).takeWhile fun j => !outW (gw j 0)).length
theorem outFrom_step {k : Nat} {gw : Nat → Nat → Int} {i : Nat} (h : i < k) : outFrom k gw i = bif outW (gw i 0) then i else outFrom k gw (i + 1) := by
  unfold outFrom
  rw [show k - i = (k - (i + 1)) + 1 by omega, List.range'_succ, List.takeWhile_cons]
  cases outW (gw i 0) with
  | true => rfl
  | false => simp only [Bool.not_false, if_true, cond_false, List.length_cons]; omega
theorem outFrom_end {k : Nat} {gw : Nat → Nat → Int} {i : Nat} (h : k ≤ i) : outFrom k gw i = i := by
  unfold outFrom
  rw [show k - i = 0 by omega]; rfl

end
end Sh
end Go.Proofs.YtamdjlpobonmiaaDoor
