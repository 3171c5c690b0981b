/- A tariff is valid: both sides. -/
import Derived.Test.YtamdjlpobonmiaaDoorTaD
namespace Go.Proofs.YtamdjlpobonmiaaDoor
namespace Sh
set_option maxRecDepth 100000

noncomputable section

/-- Cells that are ints. -/
def isI (g : Nat → Nat → D) : Bool := @decide (∃ gi : Nat → Nat → Int, g = fun i j => D.int .i64 (gi i j)) (Classical.propDecidable _)
def toI (g : Nat → Nat → D) : Nat → Nat → Int := fun i j => match g i j with
  | .int _ n => n
  | _ => 0
theorem isI_lit (gi : Nat → Nat → Int) : isI (fun i j => D.int .i64 (gi i j)) = true := by
  unfold isI
  exact @decide_eq_true _ (Classical.propDecidable _) ⟨gi, rfl⟩
theorem isI_elim {g : Nat → Nat → D} (h : isI g = true) : ∃ gi : Nat → Nat → Int, g = fun i j => D.int .i64 (gi i j) := by
  unfold isI at h
  exact @of_decide_eq_true _ (Classical.propDecidable _) h
theorem toI_lit (gi : Nat → Nat → Int) : toI (fun i j => D.int .i64 (gi i j)) = gi := rfl

def sl (n : Nat) (g : Nat → Nat → Int) : C := .d (.slc n 2 fun i j => .int .i64 (g i j))
def tar (s : ByteArray) (n : Nat) (g : Nat → Nat → Int) : U := .agg [.d (.str s), sl n g]

/-- A class that is in order. -/
def clsAt (g : Nat → Nat → Int) (i : Nat) : Bool :=
  !(decide (1000000 < g i 0) || decide (g i 1 < 0) || decide (1000000 < g i 1) || (decide (0 < i) && decide (g i 0 ≤ g (i - 1) 0)))
def clsFrom (n : Nat) (g : Nat → Nat → Int) (k : Nat) : Bool := (List.range' k (n - k)).all (clsAt g)
theorem clsFrom_step {n : Nat} {g : Nat → Nat → Int} {k : Nat} (h : k < n) : clsFrom n g k = (clsAt g k && clsFrom n g (k + 1)) := by
  unfold clsFrom
  rw [show n - k = (n - (k + 1)) + 1 by omega, List.range'_succ, List.all_cons]
theorem clsFrom_end {n : Nat} {g : Nat → Nat → Int} {k : Nat} (h : n ≤ k) : clsFrom n g k = true := by
  unfold clsFrom
  rw [show n - k = 0 by omega]; rfl

/- The reference's loop. -/
def h17 : List V → List B → Tr
  | [.w (.one (.ptr 0 0)), .w (.one (.d (.int .i64 i)))], [.var [.d (.str s), .d (.slc n 2 g)]] =>
    .br (decide (0 ≤ i) && decide (n ≤ 1000000) && isI g) (.br (clsFrom n (toI g) i.toNat) (.out (.exit 0) ⟨spread [1, 2] [.w (.one (.ptr 0 0)), .any] 0 70, [.var [.d (.str s), .d (.slc n 2 g)]]⟩)
      (.out .ret ⟨spread [1, 2] [.w (.one (.ptr 0 0)), rb false] 0 70, [.var [.d (.str s), .d (.slc n 2 g)]]⟩)) .fail
  | _, _ => .fail
def d17 : LoopD := ⟨70, [1, 3], [1, 2], h17⟩

theorem t17L (s : ByteArray) (n : Nat) (g : Nat → Nat → Int) (i : Int) : evN Tryd.prog G4 noPl 3 [] (loopAt Tryd.f17 0)
  { tmps := spread d17.live [V.w (U.one (C.ptr 0 0)), ri i] 0 70, mem := [B.var [C.d (D.str s), sl n g]] } (d17.obs 1) =
  bif decide (i < (↑n : Int)) then
  bif decide (0 ≤ i) && decide (i < (↑n : Int)) && true then
    bif decide (1000000 < g i.toNat 0) then some (Ex.ret, [V.w (U.one (C.ptr 0 0)), rb false], [B.var [C.d (D.str s), sl n g]])
    else
      bif decide (g i.toNat 1 < 0) then some (Ex.ret, [V.w (U.one (C.ptr 0 0)), rb false], [B.var [C.d (D.str s), sl n g]])
      else
        bif decide (1000000 < g i.toNat 1) then some (Ex.ret, [V.w (U.one (C.ptr 0 0)), rb false], [B.var [C.d (D.str s), sl n g]])
        else
          bif decide (0 < i) then
            bif decide (0 ≤ IntKind.i64.wrap (i - 1)) && decide (IntKind.i64.wrap (i - 1) < (↑n : Int)) && true then
              bif decide (g i.toNat 0 ≤ g (IntKind.i64.wrap (i - 1)).toNat 0) then some (Ex.ret, [V.w (U.one (C.ptr 0 0)), rb false], [B.var [C.d (D.str s), sl n g]])
              else some (Ex.norm, [V.w (U.one (C.ptr 0 0)), ri (IntKind.i64.wrap (i + 1))], [B.var [C.d (D.str s), sl n g]])
            else none
          else some (Ex.norm, [V.w (U.one (C.ptr 0 0)), ri (IntKind.i64.wrap (i + 1))], [B.var [C.d (D.str s), sl n g]])
  else none
  else some (Ex.exit 0, [V.w (U.one (C.ptr 0 0)), V.any], [B.var [C.d (D.str s), sl n g]]) := by kernel_rfl

theorem loop17 : LoopC Tryd.prog (loopAt Tryd.f17 0) d17.g := by
  refine loopC_at G4_ok (pl := noPl) PlOK.none 3 (ls := []) LsOK.nil d17 (fun vals mem => match vals, mem with
    | [_, .w (.one (.d (.int _ i)))], [.var [_, .d (.slc n _ _)]] => n - i.toNat
    | _, _ => 0) ?_
  intro vals mem e st' hh
  simp only [d17] at hh
  unfold h17 at hh
  split at hh
  case h_2 => cases hh
  rename_i i s n g
  cases hg : decide (0 ≤ i) && decide (n ≤ 1000000) && isI g with
  | false => simp only [Tr.s, hg, cond_false] at hh; cases hh
  | true =>
  simp only [Tr.s, hg, cond_true] at hh
  simp only [Bool.and_eq_true, decide_eq_true_eq] at hg
  obtain ⟨⟨hi0, hsz⟩, hI⟩ := hg
  obtain ⟨g, rfl⟩ := isI_elim hI
  rw [toI_lit] at hh
  have ht := t17L s n g i
  change evN Tryd.prog G4 noPl 3 [] (loopAt Tryd.f17 0) ⟨spread d17.live [.w (.one (.ptr 0 0)), ri i] 0 d17.N, [.var [.d (.str s), sl n g]]⟩ (d17.obs 1) = _ at ht
  change ∃ e1 vals1 mem1, evN Tryd.prog G4 noPl 3 [] (loopAt Tryd.f17 0) ⟨spread d17.live [.w (.one (.ptr 0 0)), ri i] 0 d17.N, [.var [.d (.str s), sl n g]]⟩ (d17.obs 1) = some (e1, vals1, mem1) ∧ _
  rw [ht]
  by_cases hlt : i < (n : Int)
  · have hk : i.toNat < n := by omega
    have hw : IntKind.i64.wrap (i + 1) = i + 1 := wrap_id (by omega) (by omega)
    have hw1 : IntKind.i64.wrap (i - 1) = i - 1 := wrap_id (by omega) (by omega)
    have hn : (i + 1).toNat = i.toNat + 1 := by omega
    have hn1 : (i - 1).toNat = i.toNat - 1 := by omega
    have hlt1 : i - 1 < (n : Int) := by omega
    have hz : decide (0 < i) = decide (0 < i.toNat) := by simp only [decide_eq_decide]; omega
    have hz1 : decide (0 ≤ i - 1) = decide (0 < i.toNat) := by simp only [decide_eq_decide]; omega
    rw [clsFrom_step hk] at hh
    simp only [hlt, hi0, hlt1, decide_true, cond_true, Bool.and_self, Bool.and_true, hw, hw1, hn1, hz, hz1]
    have hgood : clsAt g i.toNat = true → ∃ e1 vals1 mem1, (some (Ex.norm, [V.w (U.one (C.ptr 0 0)), ri (i + 1)], [B.var [C.d (D.str s), sl n g]])) = some (e1, vals1, mem1) ∧
        ((e1 = .norm ∧ (match vals1, mem1 with
          | [_, .w (.one (.d (.int _ i)))], [.var [_, .d (.slc n _ _)]] => n - i.toNat
          | _, _ => 0) < n - i.toNat ∧ (d17.h vals1 mem1).s = some (e, st')) ∨ (e1 ≠ .norm ∧ e = e1 ∧ st' = ⟨spread d17.liveX vals1 0 d17.N, mem1⟩)) := by
      intro hok
      refine ⟨_, _, _, rfl, .inl ⟨rfl, ?_, ?_⟩⟩
      · simp only [ri, sl]; omega
      · rw [hok, Bool.true_and] at hh
        simp only [d17, h17, ri, sl, Tr.s, hn, toI_lit, isI_lit, show (0 : Int) ≤ i + 1 by omega, hsz, decide_true, Bool.and_self, cond_true]
        exact hh
    have hbad : clsAt g i.toNat = false → ∃ e1 vals1 mem1, (some (Ex.ret, [V.w (U.one (C.ptr 0 0)), rb false], [B.var [C.d (D.str s), sl n g]])) = some (e1, vals1, mem1) ∧
        ((e1 = .norm ∧ (match vals1, mem1 with
          | [_, .w (.one (.d (.int _ i)))], [.var [_, .d (.slc n _ _)]] => n - i.toNat
          | _, _ => 0) < n - i.toNat ∧ (d17.h vals1 mem1).s = some (e, st')) ∨ (e1 ≠ .norm ∧ e = e1 ∧ st' = ⟨spread d17.liveX vals1 0 d17.N, mem1⟩)) := by
      intro hok
      rw [hok, Bool.false_and] at hh
      simp only [cond_false, Option.some.injEq, Prod.mk.injEq] at hh
      obtain ⟨rfl, rfl⟩ := hh
      exact ⟨_, _, _, rfl, .inr ⟨(fun h => by cases h), rfl, rfl⟩⟩
    unfold clsAt at hgood hbad
    cases h1 : decide (1000000 < g i.toNat 0) <;> cases h2 : decide (g i.toNat 1 < 0) <;> cases h3 : decide (1000000 < g i.toNat 1) <;> cases h4 : decide (0 < i.toNat) <;> cases h5 : decide (g i.toNat 0 ≤ g (i.toNat - 1) 0) <;>
      simp only [h1, h2, h3, h4, h5] at hgood hbad <;> first | exact hgood rfl | exact hbad rfl
  · rw [clsFrom_end (by omega)] at hh
    simp only [cond_true, Option.some.injEq, Prod.mk.injEq] at hh
    obtain ⟨rfl, rfl⟩ := hh
    simp only [hlt, decide_false, cond_false]
    exact ⟨_, _, _, rfl, .inr ⟨(fun h => by cases h), rfl, rfl⟩⟩

end
end Sh
end Go.Proofs.YtamdjlpobonmiaaDoor
