/- Contracts that are known of the world: as entries. -/
import Derived.Test.YtamdjlpobonmiaaDoorShU
namespace Go.Proofs.YtamdjlpobonmiaaDoor
namespace Sh
open Go.RowKit

theorem cell_lt {w : World} {a : Addr} {u : Value} (h : w.cell? a = some u) : a.block < w.heap.size := by
  unfold World.cell? at h
  split at h
  · rename_i h1; exact (Array.getElem?_eq_some_iff.1 h1).1
  · cases h

theorem ent_of_calls {P : Program} {f : FuncId} {us : List U} {v : V} (he : Enters P f) (hus : us.all pureU = true) (hv : pureV v = true)
    (h : ∀ (I : Addr → Prop) (w : World) (vs : List Value), (∀ a, I a → ∃ u, w.cell? a = some u) → Glob I w → F2 (UR w I [] []) us vs →
      Calls P f vs.toArray w fun e w' => ∃ u, e = .returned u ∧ Below w.heap.size w w' ∧ ∃ I', (∀ a, I a → I' a) ∧ (∀ a, I' a → I a ∨ (w.heap.size ≤ a.block ∧ ∃ u, w'.cell? a = some u)) ∧ VR w' I' [] [] v u) : EntOK P f us v := by
  intro m hm
  refine ⟨he, fun k I ρ M w vs hS hmM hu => ?_⟩
  have hsame : upd M m = M := upd_same fun p hp => hmM p hp (noGone_ok hm p hp)
  rw [hsame]
  refine (h I w vs hS.imm hS.glob (F2.mono_mem (fun u hmem y hy => pureU_any (List.all_eq_true.1 hus u hmem) hy) hu)).mono ?_
  rintro e w' ⟨u, rfl, hB, I', hI, hI', hV⟩
  have hkeep : ∀ a, I a → w'.cell? a = w.cell? a := fun a ha => by
    obtain ⟨x, hx⟩ := hS.imm a ha
    exact hB.cell (cell_lt hx)
  have himm : ∀ a, I' a → ∃ u, w'.cell? a = some u := fun a ha => by
    rcases hI' a ha with h1 | ⟨_, h1⟩
    · obtain ⟨x, hx⟩ := hS.imm a h1
      exact ⟨x, (hkeep a h1).trans hx⟩
    · exact h1
  have hglob : Glob I' w' := hS.glob.step hI hkeep fun b arr T f h1 => ⟨arr, by rw [hB.block b (Array.getElem?_eq_some_iff.1 h1).1]; exact h1, rfl⟩
  have hS' : Sat I' [] [] w' := ⟨rfl, fun r cs h => by simp at h, fun r n e rb h => by simp at h, fun r h => by simp at h, fun r r' rb h => by simp at h, himm, hglob⟩
  have hE : Ext 0 I [] [] w I' [] [] w' := ⟨hB.os, hB.tape, hB.output, hB.size, hI, hkeep, fun b hb _ => hB.block b hb,
    fun a ha => by rcases hI' a ha with h1 | ⟨h1, _⟩; exact .inl h1; exact .inr (.inl h1), fun r b h => by simp at h,
    fun c v _ hc => CR.step hI hkeep (fun b cs rb h1 _ => by simp at h1) (fun r m e h1 => by simp at h1) hc⟩
  obtain ⟨t1, t2⟩ := frame_ok (k := k) hS hE hS'
  exact ⟨u, I', ρ, rfl, t1, pureV_any hv hV, t2⟩

/-- Where nothing new is handed back. -/
theorem ent_of_quiet {P : Program} {f : FuncId} {us : List U} {v : V} (he : Enters P f) (hus : us.all pureU = true) (hv : pureV v = true)
    (h : ∀ (I : Addr → Prop) (w : World) (vs : List Value), (∀ a, I a → ∃ u, w.cell? a = some u) → Glob I w → F2 (UR w I [] []) us vs →
      Calls P f vs.toArray w fun e w' => ∃ u, e = .returned u ∧ Below w.heap.size w w' ∧ VR w' I [] [] v u) : EntOK P f us v :=
  ent_of_calls he hus hv fun I w vs h1 h2 h3 => (h I w vs h1 h2 h3).mono fun e w' ⟨u, e1, e2, e3⟩ => ⟨u, e1, e2, I, fun _ h => h, fun _ h => .inl h, e3⟩

theorem below_drewN {w : World} (n : Nat) : Below w.heap.size w (w.drewN n) := ⟨rfl, rfl, rfl, Nat.le_refl _, fun _ _ => rfl⟩

end Sh
end Go.Proofs.YtamdjlpobonmiaaDoor
