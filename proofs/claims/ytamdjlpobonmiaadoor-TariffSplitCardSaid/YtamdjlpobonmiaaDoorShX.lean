/- What the seat's rows say of package variables: what these hold. -/
import Derived.Test.YtamdjlpobonmiaaDoorShL
import Derived.Lib.ItoaNum
import Derived.Lib.LaidTab
namespace Go.Proofs.YtamdjlpobonmiaaDoor
namespace Sh

/-- A variable's block, with all that it holds. -/
def Laid (I : Addr → Prop) (w : World) (g : Nat) (vs : List Value) : Prop :=
  ∃ arr T f, w.heap[g]? = some (.cells arr T f) ∧ arr.toList = vs ∧ ∀ i, i < vs.length → I ⟨g, i, none⟩

theorem Laid.step {I I' : Addr → Prop} {w w' : World} {g : Nat} {vs : List Value} (h : Laid I w g vs) (hI : ∀ a, I a → I' a) (hk : ∀ a, I a → w'.cell? a = w.cell? a)
    (hs : ∀ (b : Nat) arr T f, w.heap[b]? = some (.cells arr T f) → ∃ arr', w'.heap[b]? = some (.cells arr' T f) ∧ arr'.size = arr.size) : Laid I' w' g vs := by
  obtain ⟨arr, T, f, h1, h2, h3⟩ := h
  obtain ⟨arr', h4, h5⟩ := hs g arr T f h1
  refine ⟨arr', T, f, h4, ?_, fun i hi => hI _ (h3 i hi)⟩
  rw [← h2]
  apply List.ext_getElem?
  intro i
  simp only [Array.getElem?_toList]
  rcases Nat.lt_or_ge i arr.size with h | h
  · have h6 := hk ⟨g, i, none⟩ (h3 i (by rw [← h2]; simpa using h))
    simpa [World.cell?, h1, h4] using h6
  · rw [Array.getElem?_eq_none (by omega), Array.getElem?_eq_none h]

def Glob (I : Addr → Prop) (w : World) : Prop :=
  ∃ m tS pS tR pR, Laid I w 0 [.int .i64 m] ∧ Laid I w 3 (Lib.pow10Tab.map fun z => Value.int .u64 z) ∧ Laid I w 1 [.iface tS pS] ∧ Laid I w 2 [.iface tR pR]

theorem Glob.step {I I' : Addr → Prop} {w w' : World} (h : Glob I w) (hI : ∀ a, I a → I' a) (hk : ∀ a, I a → w'.cell? a = w.cell? a)
    (hs : ∀ (b : Nat) arr T f, w.heap[b]? = some (.cells arr T f) → ∃ arr', w'.heap[b]? = some (.cells arr' T f) ∧ arr'.size = arr.size) : Glob I' w' := by
  obtain ⟨m, tS, pS, tR, pR, h1, h2, h3, h4⟩ := h
  exact ⟨m, tS, pS, tR, pR, h1.step hI hk hs, h2.step hI hk hs, h3.step hI hk hs, h4.step hI hk hs⟩
end Sh
end Go.Proofs.YtamdjlpobonmiaaDoor
