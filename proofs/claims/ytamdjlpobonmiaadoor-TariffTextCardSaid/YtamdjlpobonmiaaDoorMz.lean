/- TariffText: whatever the string and the tariff, the law answers true; its arguments read as they did. -/
import Derived.Test.YtamdjlpobonmiaaDoorMh
namespace Go.Proofs.YtamdjlpobonmiaaDoor
open Go.RowKit Go.ChangeShapes Go.WideShapes Go.ChangeAt Sh
set_option maxRecDepth 100000

theorem text_lifted (os : Os) (started : os.Started) (H : Type) (enc : TypeId × Value → H) :
    ReturnsInHanded {} Tryd.checked os 3 .any (fun w args => (Rows.tariffTextSpec.pre enc Tryd.prog Tryd.f3 [] false w args ∧ laidMetH Tryd.prog laidT w) ∧ sizedMet enc Tryd.prog Tryd.f3 (OpenSpec.ofChange Rows.tariffTextSpec) false w args)
      (Rows.tariffTextSpec.post enc Tryd.prog Tryd.f3 false true false false) := by
  refine law_handed (C := Tryd.checked) (P := Tryd.prog) rfl (by kernel_rfl) started (by kernel_rfl) (by kernel_rfl) (by kernel_rfl) (by kernel_rfl) rfl (tb := 4) (by kernel_rfl) Tryd.underlying4 ?_
    (ChangeSpec.witness_shaped (enc := enc) (C := Tryd.checked) (os := os) (X := fun w _ => laidMetH Tryd.prog laidT w) false (World.laidAll Tryd.prog os laidT) #[.string ⟨#[]⟩, .agg #[.string ⟨#[]⟩, .slice none 0 0]] 8 (World.laidAll_os _ _ _)
      (World.shaped_of_ZipB (by kernel_rfl) (by kernel_rfl)) (by kernel_rfl) (by kernel_rfl) (by kernel_rfl)
      (by rw [MakeChecks.laidMetH_plain _ _ _ (by kernel_rfl)]; exact laidMet_laidAll _ (by kernel_rfl) (by kernel_rfl)))
    glob_of ?_
  · intro ds h
    match ds, h with
    | [d1, d2], _ => rfl
  · intro W base vs ds p hval hA
    rw [show Tryd.f3.params.toList = [9, 24] by kernel_rfl] at hA
    obtain ⟨v0, v1, d0, d1, p0, p1, rfl, h0, h1⟩ := trod2 hA
    obtain ⟨a0, rfl⟩ := open_str Tryd.underlying9 (hval 0 9 v0 (by kernel_rfl) rfl) h0
    obtain ⟨s1, n1, g1, hu1⟩ := open_tar Tryd.underlying24 (by kernel_rfl) (by kernel_rfl) (by kernel_rfl) Tryd.underlying22 Tryd.underlying42 (by kernel_rfl) (by kernel_rfl) (by kernel_rfl) (by kernel_rfl) (hval 1 24 v1 (by kernel_rfl) rfl) h1
    exact ⟨[us a0, tar s1 n1 g1], imm W, fun _ h => h, ⟨rfl, hu1, trivial⟩, text_ent a0 s1 n1 g1⟩

theorem text_holds : Rows.TariffTextSaid :=
  OpenClaim.holds_of_wide 3 Tryd.f3 rfl rfl rfl rfl rfl rfl rfl ⟨rfl, rfl, rfl, rfl, rfl⟩ rfl rfl rfl rfl rfl (by kernel_rfl) (by kernel_rfl) (by kernel_rfl)
    (of_decide_eq_true (by kernel_rfl)) (by unfold Func.isWrapper; first | (rw [if_pos (by decide +kernel)]; kernel_rfl) | (rw [if_neg (by decide +kernel)]; exact ⟨rfl, rfl⟩))
    (fun os started H enc _ => text_lifted os started H enc)
theorem text_card : Rows.TariffTextCardSaid :=
  Claim7.holds_tied_plain_at .later [] [.data, .data, .data, .data, .sentinel, .sentinel, .pinned] true (true, "5161bd8de7fa6d75734d0b08a3024aab48bd40273ac441682521ef018002e62b") true text_holds (fun _ h => by cases h) (by kernel_rfl) (fun _ h => by cases h) tariffText_row_tie rfl ⟨rfl, rfl⟩ (by kernel_rfl) rfl
    (fun f fn hf hfn => by
      obtain rfl : f = 3 := Option.some.inj ((show Tryd.prog.funcNamed "culet/culetlaw44.TariffText" = some 3 by kernel_rfl).symm.trans hf) |>.symm
      obtain rfl : fn = Tryd.f3 := (Option.some.inj ((show Tryd.prog.funcs[3]? = some Tryd.f3 by kernel_rfl).symm.trans hfn)).symm
      exact ⟨by kernel_rfl, fun j t ht => by
        have ht' : Tryd.f3.params.toList[j]? = some t := by rw [Array.getElem?_toList]; exact ht
        rw [show Tryd.f3.params.toList = [9, 24] by kernel_rfl] at ht'
        have hm : t ∈ [9, 24] := List.mem_of_getElem? ht'
        have hall : ([9, 24].all fun u => !Tryd.prog.wantsStandIn u) = true := by kernel_rfl
        exact (show Tryd.prog.wantsStandIn t = false by simpa using List.all_eq_true.1 hall t hm)⟩)
    (by kernel_rfl)
#print axioms text_card
end Go.Proofs.YtamdjlpobonmiaaDoor
