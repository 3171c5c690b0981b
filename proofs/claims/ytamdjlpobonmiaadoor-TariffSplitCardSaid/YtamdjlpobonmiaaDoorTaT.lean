/- The example of the chapter. -/
import Derived.Test.YtamdjlpobonmiaaDoorTaS
namespace Go.Proofs.YtamdjlpobonmiaaDoor
namespace Sh
set_option maxRecDepth 100000

noncomputable section

theorem tAw : fnV Tryd.prog G11 16 Tryd.f9 [] = some (rb true) := by kernel_rfl
def eAwake (u : List U) : Option (Bool × V) := match u with
  | [] => some (true, rb true)
  | _ => none
def G12 : Tab := addE G11 9 eAwake
theorem G12_ok : GOK Tryd.prog G12 := by
  refine addE_ok G11_ok ?_
  intro us v h
  unfold eAwake at h
  split at h <;> try (cases h; done)
  simp only [Option.some.injEq, Prod.mk.injEq, true_and] at h
  subst h
  exact ent_fnV (fn := Tryd.f9) G11_ok (n := 16) (by kernel_rfl) (by kernel_rfl) tAw rfl rfl rfl

end
end Sh
end Go.Proofs.YtamdjlpobonmiaaDoor
