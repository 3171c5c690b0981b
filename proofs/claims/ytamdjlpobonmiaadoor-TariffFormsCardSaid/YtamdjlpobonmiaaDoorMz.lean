/- TariffForms: whatever the two tariffs, the law answers true; its arguments read as they did. -/
import Derived.Test.YtamdjlpobonmiaaDoorMg
namespace Go.Proofs.YtamdjlpobonmiaaDoor
open Go.RowKit Go.ChangeShapes Go.WideShapes Go.ChangeAt Sh
set_option maxRecDepth 100000

theorem forms_lifted (os : Os) (started : os.Started) (H : Type) (enc : TypeId × Value → H) :
    ReturnsInHanded {} Tryd.checked os 6 .any (fun w args => (Rows.tariffFormsSpec.pre enc Tryd.prog Tryd.f6 [] false w args ∧ laidMetH Tryd.prog laidT w) ∧ sizedMet enc Tryd.prog Tryd.f6 (OpenSpec.ofChange Rows.tariffFormsSpec) false w args)
      (Rows.tariffFormsSpec.post enc Tryd.prog Tryd.f6 false true false false) := by
  refine law_handed (C := Tryd.checked) (P := Tryd.prog) rfl (by kernel_rfl) started (by kernel_rfl) (by kernel_rfl) (by kernel_rfl) (by kernel_rfl) rfl (tb := 4) (by kernel_rfl) Tryd.underlying4 ?_
    (ChangeSpec.witness_shaped (enc := enc) (C := Tryd.checked) (os := os) (X := fun w _ => laidMetH Tryd.prog laidT w) false (World.laidAll Tryd.prog os laidT) #[.agg #[.string ⟨#[]⟩, .slice none 0 0], .agg #[.string ⟨#[]⟩, .slice none 0 0]] 8 (World.laidAll_os _ _ _)
      (World.shaped_of_ZipB (by kernel_rfl) (by kernel_rfl)) (by kernel_rfl) (by kernel_rfl) (by kernel_rfl)
      (by rw [MakeChecks.laidMetH_plain _ _ _ (by kernel_rfl)]; exact laidMet_laidAll _ (by kernel_rfl) (by kernel_rfl)))
    glob_of ?_
  · intro ds h
    match ds, h with
    | [d1, d2], _ => rfl
  · intro W base vs ds p hval hA
    rw [show Tryd.f6.params.toList = [24, 24] by kernel_rfl] at hA
    obtain ⟨v0, v1, d0, d1, p0, p1, rfl, h0, h1⟩ := trod2 hA
    obtain ⟨s0, n0, g0, hu0⟩ := open_tar Tryd.underlying24 (by kernel_rfl) (by kernel_rfl) (by kernel_rfl) Tryd.underlying22 Tryd.underlying42 (by kernel_rfl) (by kernel_rfl) (by kernel_rfl) (by kernel_rfl) (hval 0 24 v0 (by kernel_rfl) rfl) h0
    obtain ⟨s1, n1, g1, hu1⟩ := open_tar Tryd.underlying24 (by kernel_rfl) (by kernel_rfl) (by kernel_rfl) Tryd.underlying22 Tryd.underlying42 (by kernel_rfl) (by kernel_rfl) (by kernel_rfl) (by kernel_rfl) (hval 1 24 v1 (by kernel_rfl) rfl) h1
    exact ⟨[tar s0 n0 g0, tar s1 n1 g1], imm W, fun _ h => h, ⟨hu0, hu1, trivial⟩, forms_ent s0 n0 g0 s1 n1 g1⟩

theorem forms_holds : Rows.TariffFormsSaid :=
  OpenClaim.holds_of_wide 6 Tryd.f6 rfl rfl rfl rfl rfl rfl rfl ⟨rfl, rfl, rfl, rfl, rfl⟩ rfl rfl rfl rfl rfl (by kernel_rfl) (by kernel_rfl) (by kernel_rfl)
    (of_decide_eq_true (by kernel_rfl)) (by unfold Func.isWrapper; first | (rw [if_pos (by decide +kernel)]; kernel_rfl) | (rw [if_neg (by decide +kernel)]; exact ⟨rfl, rfl⟩))
    (fun os started H enc _ => forms_lifted os started H enc)
theorem forms_card : Rows.TariffFormsCardSaid :=
  Claim7.holds_tied_plain_at .later [] [.data, .data, .data, .data, .sentinel, .sentinel, .pinned] true (true, "5161bd8de7fa6d75734d0b08a3024aab48bd40273ac441682521ef018002e62b") true forms_holds (fun _ h => by cases h) (by kernel_rfl) (fun _ h => by cases h) tariffForms_row_tie rfl ⟨rfl, rfl⟩ (by kernel_rfl) rfl
    (fun f fn hf hfn => by
      obtain rfl : f = 6 := Option.some.inj ((show Tryd.prog.funcNamed "culet/culetlaw44.TariffForms" = some 6 by kernel_rfl).symm.trans hf) |>.symm
      obtain rfl : fn = Tryd.f6 := (Option.some.inj ((show Tryd.prog.funcs[6]? = some Tryd.f6 by kernel_rfl).symm.trans hfn)).symm
      exact ⟨by kernel_rfl, fun j t ht => by
        have ht' : Tryd.f6.params.toList[j]? = some t := by rw [Array.getElem?_toList]; exact ht
        rw [show Tryd.f6.params.toList = [24, 24] by kernel_rfl] at ht'
        have hm : t ∈ [24, 24] := List.mem_of_getElem? ht'
        have hall : ([24, 24].all fun u => !Tryd.prog.wantsStandIn u) = true := by kernel_rfl
        exact (show Tryd.prog.wantsStandIn t = false by simpa using List.all_eq_true.1 hall t hm)⟩)
    (by kernel_rfl)
#print axioms forms_card
end Go.Proofs.YtamdjlpobonmiaaDoor
