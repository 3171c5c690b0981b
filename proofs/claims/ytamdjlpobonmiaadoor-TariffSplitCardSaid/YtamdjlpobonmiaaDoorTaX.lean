/- TariffUnfair: what the law computes. -/
import Derived.Test.YtamdjlpobonmiaaDoorTaU
namespace Go.Proofs.YtamdjlpobonmiaaDoor
namespace Sh
set_option maxRecDepth 100000

noncomputable section

def anyF (p : Nat → Bool) (n i : Nat) (acc : Bool) : Bool := acc || (List.range' i (n - i)).any p
theorem anyF_step {p : Nat → Bool} {n i : Nat} {acc : Bool} (h : i < n) : anyF p n i acc = anyF p n (i + 1) (acc || p i) := by
  unfold anyF
  rw [show n - i = (n - (i + 1)) + 1 by omega, List.range'_succ, List.any_cons, Bool.or_assoc]
theorem anyF_end {p : Nat → Bool} {n i : Nat} {acc : Bool} (h : n ≤ i) : anyF p n i acc = acc := by
  unfold anyF
  rw [show n - i = 0 by omega]
  simp
theorem anyF_ffrom {p : Nat → Bool} {n : Nat} : ∀ (m i : Nat), m = n - i → i ≤ n → anyF p n i false = decide (ffrom p n i < n) := by
  intro m
  induction m with
  | zero =>
    intro i h hi
    rw [anyF_end (by omega), ffrom_end (by omega)]
    symm; simp only [decide_eq_false_iff_not]; omega
  | succ m ih =>
    intro i h hi
    rw [anyF_step (by omega), ffrom_step (by omega)]
    cases hp : p i with
    | true =>
      simp only [cond_true]
      unfold anyF
      simp; omega
    | false => simp only [cond_false, Bool.or_self]; exact ih (i + 1) (by omega) (by omega)

structure TF where
  s : ByteArray
  n : Nat
  g : Nat → Nat → Int
  i : Nat
  f : Bool
def LUnf : LoopQ TF where
  N := 66
  live := [1, 3, 25, 26, 27]
  liveX := [1, 2, 3]
  ext vals mem := match mem.getD 0 .gone, vals.getD 1 .any, vals.getD 4 .any with
    | .var [.d (.str s), .d (.slc n _ g)], .w (.one (.d (.bool f))), .w (.one (.d (.int _ i))) => some ⟨s, n, toI g, i.toNat, f⟩
    | _, _, _ => none
  pre t := szG t.s t.n && (validB t.s t.n (cz t.n 2 t.g) && decide (t.i ≤ t.n - 1))
  head t := ([.w (.one (.ptr 0 0)), rb t.f, .w (.one (sl (t.n - 1) fun a b => t.g (1 + a) b)), ri ((t.n - 1 : Nat) : Int), ri t.i], mT t.s t.n t.g)
  res t := .out (.exit 0) [.w (.one (.ptr 0 0)), .any, rb (anyF (unf t.n (cz t.n 2 t.g)) (t.n - 1) t.i t.f)] (mT t.s t.n t.g)
theorem tUnfL (s : ByteArray) (n : Nat) (g : Nat → Nat → Int) (i : Nat) (f : Bool) : evN Tryd.prog G12 noPl 3 [] (loopAt Tryd.f4 0) ⟨spread [1, 3, 25, 26, 27] [.w (.one (.ptr 0 0)), rb f, .w (.one (sl (n - 1) fun a b => g (1 + a) b)), ri ((n - 1 : Nat) : Int), ri i] 0 66, mT s n g⟩ (LUnf.s.d.obs 1) =
  bif decide ((↑i : Int) < (↑(n - 1) : Int)) then
  bif decide ((↑i : Int) < (↑(n - 1) : Int)) && true then
  bif (tarG n 2 (rowI g)) && szG s n then
  bif tarG n 2 (cd n 2 (rowI (cz n 2 g))) && szG s n then
  bif (tarG n 2 (rowI g)) && szG s n then
  bif tarG n 2 (cd n 2 (rowI (cz n 2 g))) && szG s n then
  bif !decide (errB s n (cz n 2 (toI (cd n 2 (rowI (cz n 2 g))))) (IntKind.i64.wrap (g (1 + i) 0 - 1)) = 0) then some (Ex.ret, [V.w (U.one (C.ptr 0 0)), rb false, rb f], (mT s n g)) else
  bif !decide (errB s n (cz n 2 (toI (cd n 2 (rowI (cz n 2 g))))) (g (1 + i) 0) = 0) then some (Ex.ret, [V.w (U.one (C.ptr 0 0)), rb false, rb f], (mT s n g)) else
  bif f then some (Ex.norm, [V.w (U.one (C.ptr 0 0)), rb true, V.w (U.one (C.d (D.slc (n - 1) 2 fun i j => D.int IntKind.i64 (g (1 + i) j)))), ri (↑(n - 1) : Int), ri (IntKind.i64.wrap ((↑i : Int) + 1))], (mT s n g))
  else some (Ex.norm, [V.w (U.one (C.ptr 0 0)), rb (decide (valE s n (cz n 2 (toI (cd n 2 (rowI (cz n 2 g))))) (g (1 + i) 0) < valE s n (cz n 2 (toI (cd n 2 (rowI (cz n 2 g))))) (IntKind.i64.wrap (g (1 + i) 0 - 1)))), V.w (U.one (C.d (D.slc (n - 1) 2 fun i j => D.int IntKind.i64 (g (1 + i) j)))), ri (↑(n - 1) : Int), ri (IntKind.i64.wrap ((↑i : Int) + 1))], (mT s n g))
  else none
  else none
  else none
  else none
  else none
  else some (Ex.exit 0, [V.w (U.one (C.ptr 0 0)), V.any, rb f], (mT s n g)) := by kernel_rfl
theorem err_ok {s : ByteArray} {n : Nat} {g : Nat → Nat → Int} {w : Int} (hv : validB s n g = true) (hw : outW w = false) : errB s n g w = 0 := by
  unfold errB; rw [hv, hw]; rfl
theorem val_ok {s : ByteArray} {n : Nat} {g : Nat → Nat → Int} {w : Int} (hv : validB s n g = true) (hw : outW w = false) : valE s n g w = valueB n g w := by
  unfold valE; rw [err_ok hv hw]; rfl

theorem loopUnf : LoopC Tryd.prog (loopAt Tryd.f4 0) LUnf.g := by
  refine loopC_q LUnf G12_ok (pl := noPl) PlOK.none 3 (ls := []) LsOK.nil (fun t => szG t.s t.n = true ∧ validB t.s t.n (cz t.n 2 t.g) = true ∧ t.i ≤ t.n - 1) (fun t => t.n - 1 - t.i) ?_ ?_
  · rintro ⟨s, n, g, i, f⟩ h
    simpa [LUnf] using h
  · rintro ⟨s, n, g, i, f⟩ ⟨hz, hv, hi⟩
    have ht := tUnfL s n g i f
    simp only [LUnf] at hz hv hi ht ⊢
    rw [show (mT s n g).length = 1 from rfl, ht]
    simp only [own_cz]
    have Vh := valid_iff.1 hv
    have hfew := Vh.few
    by_cases hlt : i < n - 1
    · left
      have h1 : (i : Int) < ((n - 1 : Nat) : Int) := by omega
      have hw : IntKind.i64.wrap ((i : Int) + 1) = ((i + 1 : Nat) : Int) := by rw [wrap_id (by omega) (by omega)]; omega
      have eg : g (1 + i) 0 = cz n 2 g (1 + i) 0 := (cz_in (by omega) (by omega)).symm
      have hg0 := Vh.from_le (1 + i) (by omega)
      have hg1 := Vh.mono (i := 0) (j := 1 + i) (by omega) (by omega)
      rw [Vh.zero] at hg1
      rw [← eg] at hg0 hg1
      have hw1 : IntKind.i64.wrap (g (1 + i) 0 - 1) = g (1 + i) 0 - 1 := wrap_id (by omega) (by omega)
      have o1 : outW (g (1 + i) 0 - 1) = false := outW_f (by omega) (by omega)
      have o2 : outW (g (1 + i) 0) = false := outW_f (by omega) (by omega)
      have hu : unf n (cz n 2 g) i = decide (valE s n (cz n 2 g) (g (1 + i) 0) < valE s n (cz n 2 g) (g (1 + i) 0 - 1)) := by
        unfold unf; rw [val_ok hv o1, val_ok hv o2, eg]
      refine ⟨⟨s, n, g, i + 1, f || unf n (cz n 2 g) i⟩, ?_, ⟨hz, hv, hlt⟩, ?_, ?_⟩
      · simp only [h1, hw, hw1, hz, tarG_rowI, tarG_cd, err_ok hv o1, err_ok hv o2, decide_true, Bool.not_true, cond_false, Bool.and_self, cond_true, hu]
        cases f <;> rfl
      · simp only; omega
      · simp only [RT.r, anyF_step hlt]
    · right
      obtain rfl : i = n - 1 := by omega
      simp only [Int.lt_irrefl, decide_false, cond_false, RT.r, anyF_end (Nat.le_refl _)]
      exact ⟨trivial, fun h => by cases h⟩

theorem tUnf (s : ByteArray) (n : Nat) (g : Nat → Nat → Int) : fnW Tryd.prog G12 noPl 6 [some LUnf.g] Tryd.f4 [tar s n g] =
  bif (tarG n 2 (rowI g)) && true then
  bif !fewB s n then some (rb true) else
  bif (tarG n 2 (rowI g)) && szG s n then
  bif !validB s n (cz n 2 g) then some (rb true) else
  bif decide (1 ≤ (↑n : Int)) && decide ((↑n : Int) ≤ (↑n : Int)) && true then
  bif szG s n && (validB s n (cz n 2 g) && true) && sameM ([V.w (U.one (C.ptr 0 0)), rb false, V.w (U.one (C.d (D.slc (n - 1) 2 fun i j => D.int IntKind.i64 (g (1 + i) j)))), ri (↑(n - 1) : Int), ri 0], (mT s n g)) ([V.w (U.one (C.ptr 0 0)), rb false, V.w (U.one (C.d (D.slc (n - 1) 2 fun i j => D.int IntKind.i64 (toI (rowI g) (1 + i) j)))), ri (↑(n - 1) : Int), ri 0], (mT s n g)) then
  bif (tarG n 2 (rowI g)) && szG s n then
  bif tarG n 2 (cd n 2 (rowI (cz n 2 (toI (rowI g))))) && szG s n then some (rb (!anyF (unf n (cz n 2 g)) (n - 1) 0 false == fairB s n (cz n 2 (toI (cd n 2 (rowI (cz n 2 (toI (rowI g)))))))))
  else none
  else none
  else none
  else none
  else none
  else none := by kernel_rfl

theorem unfair_true (s : ByteArray) (n : Nat) (g : Nat → Nat → Int) : fnW Tryd.prog G12 noPl 6 [some LUnf.g] Tryd.f4 [tar s n g] = some (rb true) := by
  rw [tUnf]
  simp only [toI_rowI, own_cz]
  rw [tarG_rowI, Bool.true_and, cond_true]
  cases hf : fewB s n with
  | false => rfl
  | true =>
    have hz := few_sz hf
    cases hv : validB s n (cz n 2 g) with
    | false => simp only [hz, Bool.not_true, Bool.not_false, cond_false, cond_true, Bool.and_self]
    | true =>
      have V := valid_iff.1 hv
      have h1 : (1 : Int) ≤ n := by have := V.one; omega
      rw [sameM_of rfl]
      simp only [hz, h1, Int.le_refl, tarG_cd, decide_true, Bool.not_true, cond_false, cond_true, Bool.and_self]
      rw [anyF_ffrom _ 0 rfl (Nat.zero_le _)]
      unfold fairB
      rw [hv, Bool.true_and]
      cases decide (ffrom (unf n (cz n 2 g)) (n - 1) 0 < n - 1) <;> rfl

theorem unfair_ent (s : ByteArray) (n : Nat) (g : Nat → Nat → Int) : EntOK Tryd.prog 4 [tar s n g] (rb true) :=
  ent_fnW (fn := Tryd.f4) G12_ok (pl := noPl) PlOK.none (n := 6) (ls := [some LUnf.g]) (by kernel_rfl) (by kernel_rfl) (LsOK.one (x := loopAt Tryd.f4 0) (ls := []) (by kernel_rfl) loopUnf) (unfair_true s n g) rfl rfl rfl

end
end Sh
end Go.Proofs.YtamdjlpobonmiaaDoor
