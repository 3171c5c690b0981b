/- The class of a weight: the entry. -/
import Derived.Test.YtamdjlpobonmiaaDoorTaH
namespace Go.Proofs.YtamdjlpobonmiaaDoor
namespace Sh
set_option maxRecDepth 100000

noncomputable section

def pl58 : Plans := addP noPl 58 [some d58.g]
theorem pl58_ok : PlOK Tryd.prog pl58 := addP_ok PlOK.none (fn := Tryd.f58) (by kernel_rfl) (LsOK.one (x := loopAt Tryd.f58 0) (ls := []) (by kernel_rfl) loop58)

theorem t41 (s : ByteArray) (n : Nat) (g : Nat → Nat → Int) (wt : Int) : fnW Tryd.prog G5 pl58 4 [] Tryd.f41 [tar s n g, ui wt] =
  bif (decide (n ≤ 1000000) && isI fun i j => D.int IntKind.i64 (g i j)) && sameC (sl n g) (sl n g) && decide ((↑n : Int) = (↑n : Int)) then
  bif decide (firstFrom n (toI fun i j => D.int IntKind.i64 (g i j)) wt 0 < n) then some (ri (IntKind.i64.wrap ((↑(firstFrom n (toI fun i j => D.int IntKind.i64 (g i j)) wt 0) : Int) - 1)))
  else some (ri (IntKind.i64.wrap ((↑n : Int) - 1)))
  else none := by kernel_rfl

def classB (n : Nat) (g : Nat → Nat → Int) (wt : Int) : Int := (firstFrom n g wt 0 : Int) - 1
theorem class_ent (s : ByteArray) (n : Nat) (g : Nat → Nat → Int) (wt : Int) (_hs : s.size ≤ 1000000) (hn : n ≤ 1000000) : EntOK Tryd.prog 41 [tar s n g, ui wt] (ri (classB n g wt)) := by
  refine ent_of_fnW (fn := Tryd.f41) G5_ok pl58_ok (n := 4) (ls := []) (v := ri (classB n g wt)) (by kernel_rfl) (by kernel_rfl) (fun _ _ => LsOK.nil) ?_ rfl rfl
  rw [t41]
  have hle : firstFrom n g wt 0 ≤ n := firstFrom_le (Nat.zero_le _)
  unfold classB
  simp only [hn, isI_lit, toI_lit, sameC_refl, decide_true, cond_true, Bool.and_true]
  by_cases h : firstFrom n g wt 0 < n
  · simp only [h, decide_true, cond_true]
    rw [wrap_id (by omega) (by omega)]
  · have e : firstFrom n g wt 0 = n := by omega
    simp only [h, decide_false, cond_false]
    rw [wrap_id (by omega) (by omega), e]

def eClass : List U → Option (Bool × V) := eT1 fun s n g w => some (szG s n, ri (classB n g w))
def G6 : Tab := addE G5 41 eClass
theorem G6_ok : GOK Tryd.prog G6 := by
  refine addE_ok G5_ok (eT1_ok ?_)
  intro s n g w v hk
  simp only [Option.some.injEq, Prod.mk.injEq, szG, Bool.and_eq_true, decide_eq_true_eq] at hk
  obtain ⟨⟨h1, h2⟩, rfl⟩ := hk
  exact class_ent s n g w h1 h2

end
end Sh
end Go.Proofs.YtamdjlpobonmiaaDoor
