/- TariffSteps: whatever the tariff and the weights, the law answers true; its arguments read as they did. -/
import Derived.Test.YtamdjlpobonmiaaDoorTaU
import Derived.Test.YtamdjlpobonmiaaDoorTaW
namespace Go.Proofs.YtamdjlpobonmiaaDoor
open Go.RowKit Go.ChangeShapes Go.WideShapes Go.ChangeAt Sh
set_option maxRecDepth 100000

theorem steps_lifted (os : Os) (started : os.Started) (H : Type) (enc : TypeId × Value → H) :
    ReturnsInHanded {} Tryd.checked os 5 .any (fun w args => (Rows.tariffStepsSpec.pre enc Tryd.prog Tryd.f5 [] false w args ∧ laidMetH Tryd.prog laidT w) ∧ sizedMet enc Tryd.prog Tryd.f5 (OpenSpec.ofChange Rows.tariffStepsSpec) false w args)
      (Rows.tariffStepsSpec.post enc Tryd.prog Tryd.f5 false true false false) := by
  refine law_handed (C := Tryd.checked) (P := Tryd.prog) rfl (by kernel_rfl) started (by kernel_rfl) (by kernel_rfl) (by kernel_rfl) (by kernel_rfl) rfl (tb := 4) (by kernel_rfl) Tryd.underlying4 ?_
    (ChangeSpec.witness_shaped (enc := enc) (C := Tryd.checked) (os := os) (X := fun w _ => laidMetH Tryd.prog laidT w) false (World.laidAll Tryd.prog os laidT) #[.agg #[.string ⟨#[]⟩, .slice none 0 0], .agg #[.int .i64 0, .int .i64 0]] 8 (World.laidAll_os _ _ _)
      (World.shaped_of_ZipB (by kernel_rfl) (by kernel_rfl)) (by kernel_rfl) (by kernel_rfl) (by kernel_rfl)
      (by rw [MakeChecks.laidMetH_plain _ _ _ (by kernel_rfl)]; exact laidMet_laidAll _ (by kernel_rfl) (by kernel_rfl)))
    glob_of ?_
  · intro ds h
    match ds, h with
    | [d1, d2], _ => rfl
  · intro W base vs ds p hval hA
    rw [show Tryd.f5.params.toList = [24, 46] by kernel_rfl] at hA
    obtain ⟨v0, v1, d0, d1, p0, p1, rfl, h0, h1⟩ := trod2 hA
    obtain ⟨s, n, g, hu⟩ := open_tar Tryd.underlying24 (by kernel_rfl) (by kernel_rfl) (by kernel_rfl) Tryd.underlying22 Tryd.underlying42 (by kernel_rfl) (by kernel_rfl) (by kernel_rfl) (by kernel_rfl) (hval 0 24 v0 (by kernel_rfl) rfl) h0
    obtain ⟨a, b, rfl⟩ := open_two Tryd.underlying46 (by kernel_rfl) (by kernel_rfl) (by kernel_rfl) (hval 1 46 v1 (by kernel_rfl) rfl) h1
    exact ⟨[tar s n g, two a b], imm W, fun _ h => h, ⟨hu, ⟨_, rfl, rfl, rfl, trivial⟩, trivial⟩, steps_ent s n g a b⟩

theorem steps_holds : Rows.TariffStepsSaid :=
  OpenClaim.holds_of_wide 5 Tryd.f5 rfl rfl rfl rfl rfl rfl rfl ⟨rfl, rfl, rfl, rfl, rfl⟩ rfl rfl rfl rfl rfl (by kernel_rfl) (by kernel_rfl) (by kernel_rfl)
    (of_decide_eq_true (by kernel_rfl)) (by unfold Func.isWrapper; first | (rw [if_pos (by decide +kernel)]; kernel_rfl) | (rw [if_neg (by decide +kernel)]; exact ⟨rfl, rfl⟩))
    (fun os started H enc _ => steps_lifted os started H enc)
theorem steps_card : Rows.TariffStepsCardSaid :=
  Claim7.holds_tied_plain_at .later [] [.data, .data, .data, .data, .sentinel, .sentinel, .pinned] true (true, "5161bd8de7fa6d75734d0b08a3024aab48bd40273ac441682521ef018002e62b") true steps_holds (fun _ h => by cases h) (by kernel_rfl) (fun _ h => by cases h) tariffSteps_row_tie rfl ⟨rfl, rfl⟩ (by kernel_rfl) rfl
    (fun f fn hf hfn => by
      obtain rfl : f = 5 := Option.some.inj ((show Tryd.prog.funcNamed "culet/culetlaw44.TariffSteps" = some 5 by kernel_rfl).symm.trans hf) |>.symm
      obtain rfl : fn = Tryd.f5 := (Option.some.inj ((show Tryd.prog.funcs[5]? = some Tryd.f5 by kernel_rfl).symm.trans hfn)).symm
      exact ⟨by kernel_rfl, fun j t ht => by
        have ht' : Tryd.f5.params.toList[j]? = some t := by rw [Array.getElem?_toList]; exact ht
        rw [show Tryd.f5.params.toList = [24, 46] by kernel_rfl] at ht'
        have hm : t ∈ [24, 46] := List.mem_of_getElem? ht'
        have hall : ([24, 46].all fun u => !Tryd.prog.wantsStandIn u) = true := by kernel_rfl
        exact (show Tryd.prog.wantsStandIn t = false by simpa using List.all_eq_true.1 hall t hm)⟩)
    (by kernel_rfl)
#print axioms steps_card
end Go.Proofs.YtamdjlpobonmiaaDoor
