/- Fair, Own, Total and Least of the program. -/
import Derived.Test.YtamdjlpobonmiaaDoorTaO
namespace Go.Proofs.YtamdjlpobonmiaaDoor
namespace Sh
set_option maxRecDepth 100000

noncomputable section

/- Fair. -/
def plFair : Plans := addP noPl 58 [some LFair.d.g]
theorem plFair_ok : PlOK Tryd.prog plFair := addP_ok PlOK.none (fn := Tryd.f58) (by kernel_rfl) (LsOK.one (x := loopAt Tryd.f58 0) (ls := []) (by kernel_rfl) loopFair)
theorem tFair (s : ByteArray) (n : Nat) (g : Nat → Nat → Int) : fnW Tryd.prog G9 plFair 6 [] Tryd.f19 [tar s n g] =
  bif (tarG n 2 (rowI g)) && szG s n then
  bif validB s n (cz n 2 g) then
  bif decide (1 ≤ (↑n : Int)) && decide ((↑n : Int) ≤ (↑n : Int)) && true then
  bif szG s n && (validB s n g && ((isI (rowI g)) && (sameC (C.d (D.slc (n - 1) 2 fun i j => D.int IntKind.i64 (g (1 + i) j))) (C.d (D.slc (n - 1) 2 fun a b => D.int IntKind.i64 (g (1 + a) b))) && decide ((↑(n - 1) : Int) = (↑(n - 1) : Int))))) then
  bif decide (ffrom (unf n g) (n - 1) (Int.toNat 0) < n - 1) then some (rb false)
  else some (rb true)
  else none
  else none
  else some (rb false)
  else none := by kernel_rfl

def fairB (s : ByteArray) (n : Nat) (g : Nat → Nat → Int) : Bool := validB s n g && !decide (ffrom (unf n g) (n - 1) 0 < n - 1)
theorem fair_ent (s : ByteArray) (n : Nat) (g : Nat → Nat → Int) (h : szG s n = true) : EntOK Tryd.prog 19 [tar s n g] (rb (fairB s n g)) := by
  refine ent_fnW (fn := Tryd.f19) G9_ok plFair_ok (n := 6) (ls := []) (by kernel_rfl) (by kernel_rfl) LsOK.nil ?_ rfl rfl rfl
  rw [tFair, validB_cz]
  unfold fairB
  simp only [h, tarG_rowI, Bool.and_self, cond_true]
  cases hv : validB s n g with
  | false => rfl
  | true =>
    have V := valid_iff.1 hv
    have h1 : (1 : Int) ≤ n := by have := V.one; omega
    have hI : isI (rowI g) = true := isI_lit g
    simp only [h1, hI, sameC_refl, Int.le_refl, decide_true, Bool.and_self, cond_true, Bool.true_and]
    change (bif decide (ffrom (unf n g) (n - 1) 0 < n - 1) then _ else _) = _
    cases decide (ffrom (unf n g) (n - 1) 0 < n - 1) <;> rfl

/- Own. -/
def mO (s : ByteArray) (n k : Nat) (g : Nat → Nat → Int) : List B := [.var [.d (.str s), sl n g], .var [.d (.str ⟨#[]⟩), .own 2 0 2 dg], .tick 0 2, .tick k 2, .var [.d (.str s), .own 3 k 2 (cd k 2 (rowI g))], .tick 0 2]
def LOwn : LoopQ (ByteArray × Nat × (Nat → Nat → Int) × Nat) where
  N := 24
  live := [1, 2, 3, 10, 11, 12]
  liveX := [2, 3]
  ext _ mem := match mem.getD 0 .gone with
    | .var [.d (.str s), .d (.slc n _ g)] => some (s, n, toI g, 0)
    | _ => none
  pre := fun (s, n, _, k) => szG s n && decide (k ≤ n)
  head := fun (s, n, g, k) => ([.w (.one (.ptr 0 0)), .w (.one (.ptr 1 0)), .w (.one (.ptr 4 0)), .w (.one (sl n g)), ri (n : Int), ri k], mO s n k g)
  res := fun (s, n, g, _) => .out (.exit 0) [.w (.one (.ptr 1 0)), .w (.one (.ptr 4 0))] (mO s n n g)
theorem tOwnL (s : ByteArray) (n k : Nat) (g : Nat → Nat → Int) : evN Tryd.prog G9 noPl 3 [] (loopAt Tryd.f16 0) ⟨spread [1, 2, 3, 10, 11, 12] [.w (.one (.ptr 0 0)), .w (.one (.ptr 1 0)), .w (.one (.ptr 4 0)), .w (.one (sl n g)), ri (n : Int), ri k] 0 24, mO s n k g⟩ (LOwn.s.d.obs 6) =
  bif decide ((↑k : Int) < (↑n : Int)) then
  bif decide ((↑k : Int) < (↑n : Int)) && true then
  bif k.beq k && (k + 1).ble 8278675785607 then some (Ex.norm, [V.w (U.one (C.ptr 0 0)), V.w (U.one (C.ptr 1 0)), V.w (U.one (C.ptr 4 0)), V.w (U.one (sl n g)), ri (↑n : Int), ri (IntKind.i64.wrap ((↑k : Int) + 1))], [B.var [C.d (D.str s), sl n g], B.var [C.d (D.str ⟨#[]⟩), C.own 2 0 2 dg], B.tick 0 2, B.tick (k + 1) 2, B.var [C.d (D.str s), C.own 3 (k + 1) 2 (appGet k (cd k 2 (rowI g)) fun a j => [D.int IntKind.i64 (g k 0), D.int IntKind.i64 (g k 1)].getD (a * Tryd.prog.types[63].size + j) D.nil)], B.tick 0 2])
  else none
  else none
  else some (Ex.exit 0, [V.w (U.one (C.ptr 1 0)), V.w (U.one (C.ptr 4 0))], [B.var [C.d (D.str s), sl n g], B.var [C.d (D.str ⟨#[]⟩), C.own 2 0 2 dg], B.tick 0 2, B.tick k 2, B.var [C.d (D.str s), C.own 3 k 2 (cd k 2 (rowI g))], B.tick 0 2]) := by kernel_rfl

theorem cd_zero {e : Nat} {g : Nat → Nat → D} : cd 0 e g = dg := by
  funext i j
  unfold cd dg
  rw [blt_f (Nat.not_lt_zero i)]; rfl
/-- A row grows by one. -/
theorem cd_grow {k e : Nat} {g x : Nat → Nat → D} (h : ∀ i j, x i j = bif Nat.blt i 1 && Nat.blt j e then g k j else .nil) : appGet k (cd k e g) x = cd (k + 1) e g := by
  funext i j
  unfold appGet cd
  by_cases hi : i < k
  · rw [show Nat.blt i k = true by simpa using hi, show Nat.blt i (k + 1) = true by simpa using (by omega : i < k + 1)]; rfl
  · rw [blt_f hi, cond_false, h]
    by_cases e1 : i = k
    · subst e1
      rw [Nat.sub_self, show Nat.blt i (i + 1) = true by simp]; rfl
    · rw [blt_f (by omega : ¬ i - k < 1), blt_f (by omega : ¬ i < k + 1)]; rfl
theorem two_row (x y : D) (i j : Nat) : [x, y].getD (i * 2 + j) D.nil = bif Nat.blt i 1 && Nat.blt j 2 then (match j with | 0 => x | _ => y) else .nil := by
  match i, j with
  | 0, 0 => rfl
  | 0, 1 => rfl
  | 0, j + 2 => rw [show 0 * 2 + (j + 2) = j + 2 by omega, blt_f (by omega : ¬ j + 2 < 2)]; rfl
  | i + 1, j => rw [show (i + 1) * 2 + j = (i * 2 + j) + 2 by omega, blt_f (by omega : ¬ i + 1 < 1)]; rfl
theorem own_grow {k : Nat} {g : Nat → Nat → Int} : appGet k (cd k 2 (rowI g)) (fun a j => [D.int IntKind.i64 (g k 0), D.int IntKind.i64 (g k 1)].getD (a * 2 + j) D.nil) = cd (k + 1) 2 (rowI g) := by
  refine cd_grow fun i j => ?_
  rw [two_row]
  by_cases hj : j < 2
  · match j, hj with
    | 0, _ => rfl
    | 1, _ => rfl
  · rw [blt_f hj]; simp

theorem loopOwn : LoopC Tryd.prog (loopAt Tryd.f16 0) LOwn.g := by
  refine loopC_q LOwn G9_ok (pl := noPl) PlOK.none 3 (ls := []) LsOK.nil (fun (s, n, g, k) => szG s n = true ∧ k ≤ n) (fun (_, n, _, k) => n - k) ?_ ?_
  · rintro ⟨s, n, g, k⟩ h
    simpa [LOwn] using h
  · rintro ⟨s, n, g, k⟩ ⟨hz, hk⟩
    have ht := tOwnL s n k g
    simp only [LOwn] at ht ⊢
    rw [show (mO s n k g).length = 6 from rfl, ht]
    rw [szG_iff] at hz
    by_cases hlt : k < n
    · left
      have h1 : (k : Int) < n := by omega
      have h2 : (k + 1).ble 8278675785607 = true := by simp; omega
      have hw : IntKind.i64.wrap ((k : Int) + 1) = ((k + 1 : Nat) : Int) := by rw [wrap_id (by omega) (by omega)]; omega
      refine ⟨(s, n, g, k + 1), ?_, ⟨szG_iff.2 hz, hlt⟩, ?_, rfl⟩
      · simp only [h1, h2, hw, Nat.beq_refl, decide_true, Bool.and_self, cond_true, Option.some.injEq, Prod.mk.injEq, true_and, mO]
        change _ = [_, _, _, _, B.var [_, C.own 3 (k + 1) 2 _], _]
        rw [← own_grow]
        rfl
      · simp only; omega
    · right
      obtain rfl : k = n := by omega
      simp only [Int.lt_irrefl, decide_false, cond_false]
      exact ⟨rfl, fun h => by cases h⟩

def plOwn : Plans := noPl
theorem tOwn (s : ByteArray) (n : Nat) (g : Nat → Nat → Int) : fnW Tryd.prog G9 noPl 6 [some LOwn.g] Tryd.f16 [tar s n g] =
  bif szG s n && true && sameM ([V.w (U.one (C.ptr 0 0)), V.w (U.one (C.ptr 1 0)), V.w (U.one (C.ptr 4 0)), V.w (U.one (sl n g)), ri (↑n : Int), ri 0], [B.var [C.d (D.str s), sl n g], B.var [C.d (D.str ⟨#[]⟩), C.own 2 0 2 dg], B.tick 0 2, B.tick 0 2, B.var [C.d (D.str s), C.own 3 0 2 dg], B.tick 0 2]) ([V.w (U.one (C.ptr 0 0)), V.w (U.one (C.ptr 1 0)), V.w (U.one (C.ptr 4 0)), V.w (U.one (C.d (D.slc n 2 fun i j => D.int IntKind.i64 (toI (rowI g) i j)))), ri (↑n : Int), ri 0], [B.var [C.d (D.str s), C.d (D.slc n 2 fun i j => D.int IntKind.i64 (toI (rowI g) i j))], B.var [C.d (D.str ⟨#[]⟩), C.own 2 0 2 dg], B.tick 0 2, B.tick 0 2, B.var [C.d (D.str s), C.own 3 0 2 (cd 0 2 (rowI g))], B.tick 0 2]) then some (V.w (U.agg [C.d (D.str s), C.own 3 n 2 (cd n 2 (rowI g))]))
  else none := by kernel_rfl
def tarO (s : ByteArray) (n : Nat) (g : Nat → Nat → Int) : U := .agg [.d (.str s), .d (.slc n 2 (cd n 2 (rowI g)))]
theorem own_ent (s : ByteArray) (n : Nat) (g : Nat → Nat → Int) (h : szG s n = true) : EntOK Tryd.prog 16 [tar s n g] (.w (tarO s n g)) := by
  refine ent_of_fnW (fn := Tryd.f16) G9_ok (pl := noPl) PlOK.none (n := 6) (ls := [some LOwn.g]) (v := .w (.agg [.d (.str s), .own 3 n 2 (cd n 2 (rowI g))])) (by kernel_rfl) (by kernel_rfl) (fun c hc => ?_) ?_ rfl rfl
  · have e : bodyOf Tryd.f16 = c := by simp only [bodyOf, hc, Option.getD_some]
    rw [← e]
    exact LsOK.one (x := loopAt Tryd.f16 0) (ls := []) (by kernel_rfl) loopOwn
  · rw [tOwn]
    rw [sameM_of]
    · simp only [h, Bool.and_self, cond_true]
    · simp only [mO, cd_zero]; rfl

end
end Sh
end Go.Proofs.YtamdjlpobonmiaaDoor
