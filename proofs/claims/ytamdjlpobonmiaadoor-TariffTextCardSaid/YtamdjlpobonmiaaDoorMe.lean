/- Texts joined: what the proof of this law needs. -/
import Derived.Test.YtamdjlpobonmiaaDoorMd
/- A tariff is valid: both sides. -/
namespace Go.Proofs.YtamdjlpobonmiaaDoor
namespace Sh
set_option maxRecDepth 100000

noncomputable section

/-- Cells that are ints. -/
def isI (g : Nat → Nat → D) : Bool := @decide (∃ gi : Nat → Nat → Int, g = fun i j => D.int .i64 (gi i j)) (Classical.propDecidable _)
def toI (g : Nat → Nat → D) : Nat → Nat → Int := fun i j => match g i j with
  | .int _ n => n
  | _ => 0
theorem isI_lit (gi : Nat → Nat → Int) : isI (fun i j => D.int .i64 (gi i j)) = true := by
  unfold isI
  exact @decide_eq_true _ (Classical.propDecidable _) ⟨gi, rfl⟩
theorem isI_elim {g : Nat → Nat → D} (h : isI g = true) : ∃ gi : Nat → Nat → Int, g = fun i j => D.int .i64 (gi i j) := by
  unfold isI at h
  exact @of_decide_eq_true _ (Classical.propDecidable _) h
theorem toI_lit (gi : Nat → Nat → Int) : toI (fun i j => D.int .i64 (gi i j)) = gi := rfl

def sl (n : Nat) (g : Nat → Nat → Int) : C := .d (.slc n 2 fun i j => .int .i64 (g i j))
def tar (s : ByteArray) (n : Nat) (g : Nat → Nat → Int) : U := .agg [.d (.str s), sl n g]

/-- A class that is in order. -/
def clsAt (g : Nat → Nat → Int) (i : Nat) : Bool :=
  !(decide (1000000 < g i 0) || decide (g i 1 < 0) || decide (1000000 < g i 1) || (decide (0 < i) && decide (g i 0 ≤ g (i - 1) 0)))
def clsFrom (n : Nat) (g : Nat → Nat → Int) (k : Nat) : Bool := (List.range' k (n - k)).all (clsAt g)
theorem clsFrom_step {n : Nat} {g : Nat → Nat → Int} {k : Nat} (h : k < n) : clsFrom n g k = (clsAt g k && clsFrom n g (k + 1)) := by
  unfold clsFrom
  rw [show n - k = (n - (k + 1)) + 1 by omega, List.range'_succ, List.all_cons]
theorem clsFrom_end {n : Nat} {g : Nat → Nat → Int} {k : Nat} (h : n ≤ k) : clsFrom n g k = true := by
  unfold clsFrom
  rw [show n - k = 0 by omega]; rfl

/- The reference's loop. -/
def h17 : List V → List B → Tr
  | [.w (.one (.ptr 0 0)), .w (.one (.d (.int .i64 i)))], [.var [.d (.str s), .d (.slc n 2 g)]] =>
    .br (decide (0 ≤ i) && decide (n ≤ 1000000) && isI g) (.br (clsFrom n (toI g) i.toNat) (.out (.exit 0) ⟨spread [1, 2] [.w (.one (.ptr 0 0)), .any] 0 70, [.var [.d (.str s), .d (.slc n 2 g)]]⟩)
      (.out .ret ⟨spread [1, 2] [.w (.one (.ptr 0 0)), rb false] 0 70, [.var [.d (.str s), .d (.slc n 2 g)]]⟩)) .fail
  | _, _ => .fail
def d17 : LoopD := ⟨70, [1, 3], [1, 2], h17⟩

theorem t17L (s : ByteArray) (n : Nat) (g : Nat → Nat → Int) (i : Int) : evN Tryd.prog G4 noPl 3 [] (loopAt Tryd.f17 0)
  { tmps := spread d17.live [V.w (U.one (C.ptr 0 0)), ri i] 0 70, mem := [B.var [C.d (D.str s), sl n g]] } (d17.obs 1) =
  bif decide (i < (↑n : Int)) then
  bif decide (0 ≤ i) && decide (i < (↑n : Int)) && true then
    bif decide (1000000 < g i.toNat 0) then some (Ex.ret, [V.w (U.one (C.ptr 0 0)), rb false], [B.var [C.d (D.str s), sl n g]])
    else
      bif decide (g i.toNat 1 < 0) then some (Ex.ret, [V.w (U.one (C.ptr 0 0)), rb false], [B.var [C.d (D.str s), sl n g]])
      else
        bif decide (1000000 < g i.toNat 1) then some (Ex.ret, [V.w (U.one (C.ptr 0 0)), rb false], [B.var [C.d (D.str s), sl n g]])
        else
          bif decide (0 < i) then
            bif decide (0 ≤ IntKind.i64.wrap (i - 1)) && decide (IntKind.i64.wrap (i - 1) < (↑n : Int)) && true then
              bif decide (g i.toNat 0 ≤ g (IntKind.i64.wrap (i - 1)).toNat 0) then some (Ex.ret, [V.w (U.one (C.ptr 0 0)), rb false], [B.var [C.d (D.str s), sl n g]])
              else some (Ex.norm, [V.w (U.one (C.ptr 0 0)), ri (IntKind.i64.wrap (i + 1))], [B.var [C.d (D.str s), sl n g]])
            else none
          else some (Ex.norm, [V.w (U.one (C.ptr 0 0)), ri (IntKind.i64.wrap (i + 1))], [B.var [C.d (D.str s), sl n g]])
  else none
  else some (Ex.exit 0, [V.w (U.one (C.ptr 0 0)), V.any], [B.var [C.d (D.str s), sl n g]]) := by kernel_rfl

theorem loop17 : LoopC Tryd.prog (loopAt Tryd.f17 0) d17.g := by
  refine loopC_at G4_ok (pl := noPl) PlOK.none 3 (ls := []) LsOK.nil d17 (fun vals mem => match vals, mem with
    | [_, .w (.one (.d (.int _ i)))], [.var [_, .d (.slc n _ _)]] => n - i.toNat
    | _, _ => 0) ?_
  intro vals mem e st' hh
  simp only [d17] at hh
  unfold h17 at hh
  split at hh
  case h_2 => cases hh
  rename_i i s n g
  cases hg : decide (0 ≤ i) && decide (n ≤ 1000000) && isI g with
  | false => simp only [Tr.s, hg, cond_false] at hh; cases hh
  | true =>
  simp only [Tr.s, hg, cond_true] at hh
  simp only [Bool.and_eq_true, decide_eq_true_eq] at hg
  obtain ⟨⟨hi0, hsz⟩, hI⟩ := hg
  obtain ⟨g, rfl⟩ := isI_elim hI
  rw [toI_lit] at hh
  have ht := t17L s n g i
  change evN Tryd.prog G4 noPl 3 [] (loopAt Tryd.f17 0) ⟨spread d17.live [.w (.one (.ptr 0 0)), ri i] 0 d17.N, [.var [.d (.str s), sl n g]]⟩ (d17.obs 1) = _ at ht
  change ∃ e1 vals1 mem1, evN Tryd.prog G4 noPl 3 [] (loopAt Tryd.f17 0) ⟨spread d17.live [.w (.one (.ptr 0 0)), ri i] 0 d17.N, [.var [.d (.str s), sl n g]]⟩ (d17.obs 1) = some (e1, vals1, mem1) ∧ _
  rw [ht]
  by_cases hlt : i < (n : Int)
  · have hk : i.toNat < n := by omega
    have hw : IntKind.i64.wrap (i + 1) = i + 1 := wrap_id (by omega) (by omega)
    have hw1 : IntKind.i64.wrap (i - 1) = i - 1 := wrap_id (by omega) (by omega)
    have hn : (i + 1).toNat = i.toNat + 1 := by omega
    have hn1 : (i - 1).toNat = i.toNat - 1 := by omega
    have hlt1 : i - 1 < (n : Int) := by omega
    have hz : decide (0 < i) = decide (0 < i.toNat) := by simp only [decide_eq_decide]; omega
    have hz1 : decide (0 ≤ i - 1) = decide (0 < i.toNat) := by simp only [decide_eq_decide]; omega
    rw [clsFrom_step hk] at hh
    simp only [hlt, hi0, hlt1, decide_true, cond_true, Bool.and_self, Bool.and_true, hw, hw1, hn1, hz, hz1]
    have hgood : clsAt g i.toNat = true → ∃ e1 vals1 mem1, (some (Ex.norm, [V.w (U.one (C.ptr 0 0)), ri (i + 1)], [B.var [C.d (D.str s), sl n g]])) = some (e1, vals1, mem1) ∧
        ((e1 = .norm ∧ (match vals1, mem1 with
          | [_, .w (.one (.d (.int _ i)))], [.var [_, .d (.slc n _ _)]] => n - i.toNat
          | _, _ => 0) < n - i.toNat ∧ (d17.h vals1 mem1).s = some (e, st')) ∨ (e1 ≠ .norm ∧ e = e1 ∧ st' = ⟨spread d17.liveX vals1 0 d17.N, mem1⟩)) := by
      intro hok
      refine ⟨_, _, _, rfl, .inl ⟨rfl, ?_, ?_⟩⟩
      · simp only [ri, sl]; omega
      · rw [hok, Bool.true_and] at hh
        simp only [d17, h17, ri, sl, Tr.s, hn, toI_lit, isI_lit, show (0 : Int) ≤ i + 1 by omega, hsz, decide_true, Bool.and_self, cond_true]
        exact hh
    have hbad : clsAt g i.toNat = false → ∃ e1 vals1 mem1, (some (Ex.ret, [V.w (U.one (C.ptr 0 0)), rb false], [B.var [C.d (D.str s), sl n g]])) = some (e1, vals1, mem1) ∧
        ((e1 = .norm ∧ (match vals1, mem1 with
          | [_, .w (.one (.d (.int _ i)))], [.var [_, .d (.slc n _ _)]] => n - i.toNat
          | _, _ => 0) < n - i.toNat ∧ (d17.h vals1 mem1).s = some (e, st')) ∨ (e1 ≠ .norm ∧ e = e1 ∧ st' = ⟨spread d17.liveX vals1 0 d17.N, mem1⟩)) := by
      intro hok
      rw [hok, Bool.false_and] at hh
      simp only [cond_false, Option.some.injEq, Prod.mk.injEq] at hh
      obtain ⟨rfl, rfl⟩ := hh
      exact ⟨_, _, _, rfl, .inr ⟨(fun h => by cases h), rfl, rfl⟩⟩
    unfold clsAt at hgood hbad
    cases h1 : decide (1000000 < g i.toNat 0) <;> cases h2 : decide (g i.toNat 1 < 0) <;> cases h3 : decide (1000000 < g i.toNat 1) <;> cases h4 : decide (0 < i.toNat) <;> cases h5 : decide (g i.toNat 0 ≤ g (i.toNat - 1) 0) <;>
      simp only [h1, h2, h3, h4, h5] at hgood hbad <;> first | exact hgood rfl | exact hbad rfl
  · rw [clsFrom_end (by omega)] at hh
    simp only [cond_true, Option.some.injEq, Prod.mk.injEq] at hh
    obtain ⟨rfl, rfl⟩ := hh
    simp only [hlt, decide_false, cond_false]
    exact ⟨_, _, _, rfl, .inr ⟨(fun h => by cases h), rfl, rfl⟩⟩

end
end Sh
end Go.Proofs.YtamdjlpobonmiaaDoor

/- A tariff is valid: the program's loop, and both functions. -/
namespace Go.Proofs.YtamdjlpobonmiaaDoor
namespace Sh
set_option maxRecDepth 100000

noncomputable section

def sameC (c c' : C) : Bool := @decide (c = c') (Classical.propDecidable _)
theorem sameC_refl (c : C) : sameC c c = true := by unfold sameC; exact @decide_eq_true _ (Classical.propDecidable _) rfl
theorem sameC_elim {c c' : C} (h : sameC c c' = true) : c = c' := by unfold sameC at h; exact @of_decide_eq_true _ (Classical.propDecidable _) h

def clqAt (g : Nat → Nat → Int) (i : Nat) : Bool :=
  !(decide (1000000 < g i 0) || decide (g i 1 < 0) || decide (1000000 < g i 1) || (decide (i = 0) && !decide (g i 0 = 0)) || (decide (0 < i) && decide (g i 0 ≤ g (i - 1) 0)))
def clqFrom (n : Nat) (g : Nat → Nat → Int) (k : Nat) : Bool := (List.range' k (n - k)).all (clqAt g)
theorem clqFrom_step {n : Nat} {g : Nat → Nat → Int} {k : Nat} (h : k < n) : clqFrom n g k = (clqAt g k && clqFrom n g (k + 1)) := by
  unfold clqFrom
  rw [show n - k = (n - (k + 1)) + 1 by omega, List.range'_succ, List.all_cons]
theorem clqFrom_end {n : Nat} {g : Nat → Nat → Int} {k : Nat} (h : n ≤ k) : clqFrom n g k = true := by
  unfold clqFrom
  rw [show n - k = 0 by omega]; rfl

def h23 : List V → List B → Tr
  | [.w (.one (.ptr 0 0)), .w (.one c), .w (.one (.d (.int .i64 m))), .w (.one (.d (.int .i64 i)))], [.var [.d (.str s), .d (.slc n 2 g)]] =>
    .br (decide (0 ≤ i) && decide (n ≤ 1000000) && isI g && sameC c (.d (.slc n 2 g)) && decide (m = n)) (.br (clqFrom n (toI g) i.toNat) (.out (.exit 0) ⟨spread [1, 2] [.w (.one (.ptr 0 0)), .any] 0 67, [.var [.d (.str s), .d (.slc n 2 g)]]⟩)
      (.out .ret ⟨spread [1, 2] [.w (.one (.ptr 0 0)), rb false] 0 67, [.var [.d (.str s), .d (.slc n 2 g)]]⟩)) .fail
  | _, _ => .fail
def d23 : LoopD := ⟨67, [1, 6, 7, 8], [1, 2], h23⟩

def no23 (s : ByteArray) (n : Nat) (g : Nat → Nat → Int) : Option (Ex × List V × List B) := some (Ex.ret, [V.w (U.one (C.ptr 0 0)), rb false], [B.var [C.d (D.str s), sl n g]])
def go23 (s : ByteArray) (n : Nat) (g : Nat → Nat → Int) (i : Int) : Option (Ex × List V × List B) :=
  some (Ex.norm, [V.w (U.one (C.ptr 0 0)), .w (.one (sl n g)), ri n, ri (IntKind.i64.wrap (i + 1))], [B.var [C.d (D.str s), sl n g]])

theorem t23L (s : ByteArray) (n : Nat) (g : Nat → Nat → Int) (i : Int) : evN Tryd.prog G4 noPl 3 [] (loopAt Tryd.f23 0)
  { tmps := spread d23.live [V.w (U.one (C.ptr 0 0)), V.w (U.one (sl n g)), ri (↑n : Int), ri i] 0 67, mem := [B.var [C.d (D.str s), sl n g]] }
  (d23.obs 1) =
  bif decide (i < (↑n : Int)) then
  bif decide (0 ≤ i) && decide (i < (↑n : Int)) && true then
    bif decide (1000000 < g i.toNat 0) then no23 s n g
    else
      bif decide (g i.toNat 1 < 0) then no23 s n g
      else
        bif decide (1000000 < g i.toNat 1) then no23 s n g
        else
          bif decide (i = 0) then
            bif !decide (g i.toNat 0 = 0) then no23 s n g
            else
              bif decide (0 < i) then
                bif decide (0 ≤ IntKind.i64.wrap (i - 1)) && decide (IntKind.i64.wrap (i - 1) < (↑n : Int)) && true then
                  bif decide (g i.toNat 0 ≤ g (IntKind.i64.wrap (i - 1)).toNat 0) then no23 s n g
                  else go23 s n g i
                else none
              else go23 s n g i
          else
            bif decide (0 < i) then
              bif decide (0 ≤ IntKind.i64.wrap (i - 1)) && decide (IntKind.i64.wrap (i - 1) < (↑n : Int)) && true then
                bif decide (g i.toNat 0 ≤ g (IntKind.i64.wrap (i - 1)).toNat 0) then no23 s n g
                else go23 s n g i
              else none
            else go23 s n g i
  else none
  else some (Ex.exit 0, [V.w (U.one (C.ptr 0 0)), V.any], [B.var [C.d (D.str s), sl n g]]) := by kernel_rfl

theorem loop23 : LoopC Tryd.prog (loopAt Tryd.f23 0) d23.g := by
  refine loopC_at G4_ok (pl := noPl) PlOK.none 3 (ls := []) LsOK.nil d23 (fun vals mem => match vals, mem with
    | [_, _, _, .w (.one (.d (.int _ i)))], [.var [_, .d (.slc n _ _)]] => n - i.toNat
    | _, _ => 0) ?_
  intro vals mem e st' hh
  simp only [d23] at hh
  unfold h23 at hh
  split at hh
  case h_2 => cases hh
  rename_i c m i s n g
  cases hg : decide (0 ≤ i) && decide (n ≤ 1000000) && isI g && sameC c (.d (.slc n 2 g)) && decide (m = n) with
  | false => simp only [Tr.s, hg, cond_false] at hh; cases hh
  | true =>
  simp only [Tr.s, hg, cond_true] at hh
  simp only [Bool.and_eq_true, decide_eq_true_eq] at hg
  obtain ⟨⟨⟨⟨hi0, hsz⟩, hI⟩, hc⟩, rfl⟩ := hg
  obtain rfl := sameC_elim hc
  obtain ⟨g, rfl⟩ := isI_elim hI
  rw [toI_lit] at hh
  have ht := t23L s n g i
  change evN Tryd.prog G4 noPl 3 [] (loopAt Tryd.f23 0) ⟨spread d23.live [.w (.one (.ptr 0 0)), .w (.one (sl n g)), ri n, ri i] 0 d23.N, [.var [.d (.str s), sl n g]]⟩ (d23.obs 1) = _ at ht
  change ∃ e1 vals1 mem1, evN Tryd.prog G4 noPl 3 [] (loopAt Tryd.f23 0) ⟨spread d23.live [.w (.one (.ptr 0 0)), .w (.one (sl n g)), ri n, ri i] 0 d23.N, [.var [.d (.str s), sl n g]]⟩ (d23.obs 1) = some (e1, vals1, mem1) ∧ _
  rw [ht]
  by_cases hlt : i < (n : Int)
  · have hk : i.toNat < n := by omega
    have hw : IntKind.i64.wrap (i + 1) = i + 1 := wrap_id (by omega) (by omega)
    have hw1 : IntKind.i64.wrap (i - 1) = i - 1 := wrap_id (by omega) (by omega)
    have hn : (i + 1).toNat = i.toNat + 1 := by omega
    have hn1 : (i - 1).toNat = i.toNat - 1 := by omega
    have hlt1 : i - 1 < (n : Int) := by omega
    have hz : decide (0 < i) = decide (0 < i.toNat) := by simp only [decide_eq_decide]; omega
    have hz0 : decide (i = 0) = decide (i.toNat = 0) := by simp only [decide_eq_decide]; omega
    have hz1 : decide (0 ≤ i - 1) = decide (0 < i.toNat) := by simp only [decide_eq_decide]; omega
    rw [clqFrom_step hk] at hh
    simp only [hlt, hi0, hlt1, decide_true, cond_true, Bool.and_self, Bool.and_true, hw1, hn1, hz, hz0, hz1]
    have hgood : clqAt g i.toNat = true → ∃ e1 vals1 mem1, go23 s n g i = some (e1, vals1, mem1) ∧
        ((e1 = .norm ∧ (match vals1, mem1 with
          | [_, _, _, .w (.one (.d (.int _ i)))], [.var [_, .d (.slc n _ _)]] => n - i.toNat
          | _, _ => 0) < n - i.toNat ∧ (d23.h vals1 mem1).s = some (e, st')) ∨ (e1 ≠ .norm ∧ e = e1 ∧ st' = ⟨spread d23.liveX vals1 0 d23.N, mem1⟩)) := by
      intro hok
      refine ⟨_, _, _, rfl, .inl ⟨rfl, ?_, ?_⟩⟩
      · simp only [ri, sl, hw]; omega
      · rw [hok, Bool.true_and] at hh
        simp only [d23, h23, ri, sl, Tr.s, hw, hn, toI_lit, isI_lit, sameC_refl, show (0 : Int) ≤ i + 1 by omega, hsz, decide_true, Bool.and_self, cond_true]
        exact hh
    have hbad : clqAt g i.toNat = false → ∃ e1 vals1 mem1, no23 s n g = some (e1, vals1, mem1) ∧
        ((e1 = .norm ∧ (match vals1, mem1 with
          | [_, _, _, .w (.one (.d (.int _ i)))], [.var [_, .d (.slc n _ _)]] => n - i.toNat
          | _, _ => 0) < n - i.toNat ∧ (d23.h vals1 mem1).s = some (e, st')) ∨ (e1 ≠ .norm ∧ e = e1 ∧ st' = ⟨spread d23.liveX vals1 0 d23.N, mem1⟩)) := by
      intro hok
      rw [hok, Bool.false_and] at hh
      simp only [cond_false, Option.some.injEq, Prod.mk.injEq] at hh
      obtain ⟨rfl, rfl⟩ := hh
      exact ⟨_, _, _, rfl, .inr ⟨(fun h => by cases h), rfl, rfl⟩⟩
    unfold clqAt at hgood hbad
    cases h1 : decide (1000000 < g i.toNat 0) <;> cases h2 : decide (g i.toNat 1 < 0) <;> cases h3 : decide (1000000 < g i.toNat 1) <;> cases h4 : decide (0 < i.toNat) <;> cases h5 : decide (g i.toNat 0 ≤ g (i.toNat - 1) 0) <;>
      cases h6 : decide (i.toNat = 0) <;> cases h7 : decide (g i.toNat 0 = 0) <;>
      simp only [h1, h2, h3, h4, h5, h6, h7] at hgood hbad <;> first | exact hgood rfl | exact hbad rfl
  · rw [clqFrom_end (by omega)] at hh
    simp only [cond_true, Option.some.injEq, Prod.mk.injEq] at hh
    obtain ⟨rfl, rfl⟩ := hh
    simp only [hlt, decide_false, cond_false]
    exact ⟨_, _, _, rfl, .inr ⟨(fun h => by cases h), rfl, rfl⟩⟩

/- Both functions. -/
def validB (s : ByteArray) (n : Nat) (g : Nat → Nat → Int) : Bool := nameB s && (decide (1 ≤ (n : Int)) && (decide ((n : Int) ≤ 20) && (decide (g 0 0 = 0) && clsFrom n g 0)))

theorem t17 (s : ByteArray) (n : Nat) (g : Nat → Nat → Int) : fnW Tryd.prog G4 noPl 3 [some d17.g] Tryd.f17 [tar s n g] =
  bif decide (s.size ≤ 1000000) then
  bif !nameB s then some (rb false)
  else
    bif decide ((↑n : Int) < 1) then some (rb false)
    else
      bif decide (20 < (↑n : Int)) then some (rb false)
      else
        bif decide (0 < (↑n : Int)) && true then
          bif !decide (g 0 0 = 0) then some (rb false)
          else
            bif decide (n ≤ 1000000) && isI fun i j => D.int IntKind.i64 (g i j) then
              bif clsFrom n (toI fun i j => D.int IntKind.i64 (g i j)) 0 then some (rb true)
              else some (rb false)
            else none
        else none
  else none := by kernel_rfl

theorem t23 (s : ByteArray) (n : Nat) (g : Nat → Nat → Int) : fnW Tryd.prog G4 noPl 3 [some d23.g] Tryd.f23 [tar s n g] =
  bif decide (n ≤ 1000000) && (isI fun i j => D.int IntKind.i64 (g i j)) && sameC (sl n g) (sl n g) && decide ((n : Int) = n) then
  bif clqFrom n (toI fun i j => D.int IntKind.i64 (g i j)) 0 then
    bif decide (s.size ≤ 1000000) then
      bif nameB s then
        bif decide (1 ≤ (↑n : Int)) then some (rb (decide ((↑n : Int) ≤ 20)))
        else some (rb false)
      else some (rb false)
    else none
  else some (rb false)
  else none := by kernel_rfl

theorem validR_ent (s : ByteArray) (n : Nat) (g : Nat → Nat → Int) (hs : s.size ≤ 1000000) (hn : n ≤ 1000000) : EntOK Tryd.prog 17 [tar s n g] (rb (validB s n g)) := by
  refine ent_of_fnW (fn := Tryd.f17) G4_ok (pl := noPl) PlOK.none (n := 3) (ls := [some d17.g]) (v := rb (validB s n g)) (by kernel_rfl) (by kernel_rfl) (fun c hc => ?_) ?_ rfl rfl
  · have e : bodyOf Tryd.f17 = c := by simp only [bodyOf, hc, Option.getD_some]
    rw [← e]
    exact LsOK.one (x := loopAt Tryd.f17 0) (ls := []) (by kernel_rfl) loop17
  · rw [t17]
    unfold validB
    simp only [hs, hn, isI_lit, toI_lit, decide_true, cond_true, Bool.and_true]
    cases nameB s with
    | false => rfl
    | true =>
      by_cases h1 : (n : Int) < 1
      · have h2 : ¬ (1 : Int) ≤ n := by omega
        simp only [h1, h2, decide_true, decide_false, cond_true, Bool.not_true, cond_false, Bool.false_and, Bool.and_false]
      · have h2 : (1 : Int) ≤ n := by omega
        have h3 : (0 : Int) < n := by omega
        by_cases h4 : (20 : Int) < n
        · have h5 : ¬ (n : Int) ≤ 20 := by omega
          simp only [h1, h2, h4, h5, decide_true, decide_false, cond_true, Bool.not_true, cond_false, Bool.false_and, Bool.and_false]
        · have h5 : (n : Int) ≤ 20 := by omega
          simp only [h1, h2, h3, h4, h5, decide_true, decide_false, cond_true, Bool.not_true, cond_false, Bool.true_and]
          cases decide (g 0 0 = 0) <;> cases clsFrom n g 0 <;> rfl

theorem clq_cls {n : Nat} {g : Nat → Nat → Int} (h : 1 ≤ n) : clqFrom n g 0 = (decide (g 0 0 = 0) && clsFrom n g 0) := by
  have key : ∀ (m k : Nat), m = n - k → 1 ≤ k → clqFrom n g k = clsFrom n g k := by
    intro m
    induction m with
    | zero => intro k hm hk; rw [clqFrom_end (by omega), clsFrom_end (by omega)]
    | succ m ih =>
      intro k hm hk
      rw [clqFrom_step (by omega), clsFrom_step (by omega), ih (k + 1) (by omega) (by omega)]
      have : decide (k = 0) = false := by simp only [decide_eq_false_iff_not]; omega
      unfold clqAt clsAt
      rw [this]
      simp only [Bool.false_and, Bool.or_false]
  rw [clqFrom_step (by omega), clsFrom_step (by omega), key _ 1 rfl (Nat.le_refl _)]
  unfold clqAt clsAt
  cases decide (1000000 < g 0 0) <;> cases decide (g 0 1 < 0) <;> cases decide (1000000 < g 0 1) <;> cases decide (g 0 0 = 0) <;> cases clsFrom n g 1 <;> rfl

theorem valid_ent (s : ByteArray) (n : Nat) (g : Nat → Nat → Int) (hs : s.size ≤ 1000000) (hn : n ≤ 1000000) : EntOK Tryd.prog 23 [tar s n g] (rb (validB s n g)) := by
  refine ent_of_fnW (fn := Tryd.f23) G4_ok (pl := noPl) PlOK.none (n := 3) (ls := [some d23.g]) (v := rb (validB s n g)) (by kernel_rfl) (by kernel_rfl) (fun c hc => ?_) ?_ rfl rfl
  · have e : bodyOf Tryd.f23 = c := by simp only [bodyOf, hc, Option.getD_some]
    rw [← e]
    exact LsOK.one (x := loopAt Tryd.f23 0) (ls := []) (by kernel_rfl) loop23
  · rw [t23]
    unfold validB
    simp only [hs, hn, isI_lit, toI_lit, sameC_refl, decide_true, cond_true, Bool.and_true]
    by_cases h0 : n = 0
    · subst h0
      rw [clqFrom_end (Nat.le_refl _)]
      cases nameB s <;> rfl
    · rw [clq_cls (by omega)]
      have h2 : (1 : Int) ≤ n := by omega
      simp only [h2, decide_true, cond_true, Bool.true_and]
      cases nameB s <;> cases decide ((n : Int) ≤ 20) <;> cases decide (g 0 0 = 0) <;> cases clsFrom n g 0 <;> rfl

end
end Sh
end Go.Proofs.YtamdjlpobonmiaaDoor

/- The table with Valid and Few. -/
namespace Go.Proofs.YtamdjlpobonmiaaDoor
namespace Sh
set_option maxRecDepth 100000

noncomputable section

theorem EntOK.weaken {P : Program} {f : FuncId} {us us' : List U} {v : V} (h : EntOK P f us v) (hu : ∀ (w : World) I ρ M vs, F2 (UR w I ρ M) us' vs → F2 (UR w I ρ M) us vs) : EntOK P f us' v := fun m hm =>
  ⟨(h m hm).1, fun k I ρ M w vs hS hmM hus => (h m hm).2 k I ρ M w vs hS hmM (hu w I ρ M vs hus)⟩

/-- A slice of length 0 is one of whatever cells. -/
theorem slc0 {w : World} {I : Addr → Prop} {e e' : Nat} {g g' : Nat → Nat → D} {v : Value} (h : DR w I (.slc 0 e g) v) : DR w I (.slc 0 e' g') v := by
  obtain ⟨A, cap, h1, h2, _⟩ := h
  exact ⟨A, cap, h1, h2, fun i hi => by omega⟩

theorem tar0 {w : World} {I : Addr → Prop} {ρ : List (Option Nat)} {M : List B} {s : ByteArray} {e : Nat} {g : Nat → Nat → D} {g' : Nat → Nat → Int} {v : Value} (h : UR w I ρ M (.agg [.d (.str s), .d (.slc 0 e g)]) v) : UR w I ρ M (tar s 0 g') v := by
  obtain ⟨arr, h1, h2⟩ := h
  obtain ⟨v0, l1, e1, c0, r1⟩ := F2.cons_left h2
  obtain ⟨v1, l2, e2, c1, r2⟩ := F2.cons_left r1
  obtain rfl := F2.nil_left r2
  refine ⟨arr, h1, ?_⟩
  rw [e1, e2]
  exact ⟨c0, slc0 c1, trivial⟩

/-- Cells that are ints as far as the row goes. -/
def isInt : D → Bool
  | .int .i64 _ => true
  | _ => false
theorem isInt_elim {x : D} (h : isInt x = true) : ∃ n : Int, x = D.int .i64 n := by
  unfold isInt at h
  split at h
  · exact ⟨_, rfl⟩
  · cases h
def isR (n e : Nat) (g : Nat → Nat → D) : Bool := (List.range n).all fun i => (List.range e).all fun j => isInt (g i j)
theorem isR_elim {n e : Nat} {g : Nat → Nat → D} (h : isR n e g = true) : ∀ i j, i < n → j < e → g i j = D.int .i64 (toI g i j) := by
  unfold isR at h
  intro i j hi hj
  have h1 := List.all_eq_true.1 (List.all_eq_true.1 h i (List.mem_range.2 hi)) j (List.mem_range.2 hj)
  obtain ⟨x, hx⟩ := isInt_elim h1
  unfold toI
  rw [hx]
theorem isR_intro {n e : Nat} {g : Nat → Nat → D} (h : ∀ i j, i < n → j < e → ∃ x : Int, g i j = D.int .i64 x) : isR n e g = true := by
  unfold isR
  refine List.all_eq_true.2 fun i hi => List.all_eq_true.2 fun j hj => ?_
  obtain ⟨x, hx⟩ := h i j (List.mem_range.1 hi) (List.mem_range.1 hj)
  rw [hx]; rfl

theorem slcR {w : World} {I : Addr → Prop} {n e : Nat} {g g' : Nat → Nat → D} {v : Value} (hg : ∀ i j, i < n → j < e → g i j = g' i j) (h : DR w I (.slc n e g) v) : DR w I (.slc n e g') v := by
  obtain ⟨A, cap, h1, h2, h3⟩ := h
  refine ⟨A, cap, h1, h2, fun i hi j hj => ?_⟩
  obtain ⟨a, u, h4, h5, h6, h7⟩ := h3 i hi j hj
  exact ⟨a, u, h4, h5, h6, hg i j hi hj ▸ h7⟩

theorem blt_f {a b : Nat} (h : ¬ a < b) : Nat.blt a b = false := by
  cases hb : Nat.blt a b with
  | false => rfl
  | true => rw [Nat.blt_eq] at hb; omega
/-- Numbers of a row; nothing beyond it. -/
def cz (n e : Nat) (g : Nat → Nat → Int) : Nat → Nat → Int := fun i j => bif Nat.blt i n && Nat.blt j e then g i j else 0
theorem cz_in {n e : Nat} {g : Nat → Nat → Int} {i j : Nat} (hi : i < n) (hj : j < e) : cz n e g i j = g i j := by
  unfold cz
  rw [show Nat.blt i n = true by simpa using hi, show Nat.blt j e = true by simpa using hj]; rfl
theorem cz_eq {n e : Nat} {g g' : Nat → Nat → Int} (h : ∀ i j, i < n → j < e → g i j = g' i j) : cz n e g = cz n e g' := by
  funext i j
  unfold cz
  by_cases hi : i < n
  · by_cases hj : j < e
    · rw [show Nat.blt i n = true by simpa using hi, show Nat.blt j e = true by simpa using hj]; exact h i j hi hj
    · have : Nat.blt j e = false := blt_f hj
      rw [this]; simp
  · have : Nat.blt i n = false := blt_f hi
    rw [this]; simp
theorem cz_cz {n e : Nat} {g : Nat → Nat → Int} : cz n e (cz n e g) = cz n e g := cz_eq fun _ _ => cz_in

/-- Data of a row of a given width; nothing beyond it. -/
def cd (n e : Nat) (g : Nat → Nat → D) : Nat → Nat → D := fun i j => bif Nat.blt i n && Nat.blt j e then g i j else .nil
theorem cd_in {n e : Nat} {g : Nat → Nat → D} {i j : Nat} (hi : i < n) (hj : j < e) : cd n e g i j = g i j := by
  unfold cd
  rw [show Nat.blt i n = true by simpa using hi, show Nat.blt j e = true by simpa using hj]; rfl

def rowI (g : Nat → Nat → Int) : Nat → Nat → D := fun i j => .int .i64 (g i j)
theorem isR_rowI {n e : Nat} {g : Nat → Nat → Int} : isR n e (rowI g) = true := isR_intro fun i j _ _ => ⟨g i j, rfl⟩
theorem isR_fun {n e : Nat} {g : Nat → Nat → Int} : isR n e (fun i j => D.int .i64 (g i j)) = true := isR_intro fun i j _ _ => ⟨g i j, rfl⟩
theorem isR_cd {n e : Nat} {g : Nat → Nat → Int} : isR n e (cd n e (rowI g)) = true := isR_intro fun i j hi hj => ⟨g i j, cd_in hi hj⟩
theorem toI_rowI {g : Nat → Nat → Int} : toI (rowI g) = g := rfl
theorem cz_cd {n e : Nat} {g : Nat → Nat → Int} : cz n e (toI (cd n e (rowI g))) = cz n e g := cz_eq fun i j hi hj => by
  unfold toI
  rw [cd_in hi hj]; rfl

/-- A tariff's shadow is one. -/
def tarG (n e : Nat) (g : Nat → Nat → D) : Bool := (decide (n = 0) || decide (e = 2)) && isR n 2 g
theorem tarG_fun {n : Nat} {g : Nat → Nat → Int} : tarG n 2 (fun i j => D.int .i64 (g i j)) = true := by unfold tarG; rw [isR_fun]; simp
theorem tarG_rowI {n : Nat} {g : Nat → Nat → Int} : tarG n 2 (rowI g) = true := by unfold tarG; rw [isR_rowI]; simp
theorem tarG_cd {n : Nat} {g : Nat → Nat → Int} : tarG n 2 (cd n 2 (rowI g)) = true := by unfold tarG; rw [isR_cd]; simp
def szG (s : ByteArray) (n : Nat) : Bool := decide (s.size ≤ 1000000) && decide (n ≤ 1000000)

theorem tarW {w : World} {I : Addr → Prop} {ρ : List (Option Nat)} {M : List B} {s : ByteArray} {n e : Nat} {g : Nat → Nat → D} {v : Value} (hG : tarG n e g = true) (h : UR w I ρ M (.agg [.d (.str s), .d (.slc n e g)]) v) :
    UR w I ρ M (tar s n (cz n 2 (toI g))) v := by
  unfold tarG at hG
  simp only [Bool.and_eq_true, Bool.or_eq_true, decide_eq_true_eq] at hG
  obtain ⟨h0, hR⟩ := hG
  rcases h0 with rfl | rfl
  · exact tar0 h
  · obtain ⟨arr, h1, h2⟩ := h
    obtain ⟨v0, l1, e1, c0, r1⟩ := F2.cons_left h2
    obtain ⟨v1, l2, e2, c1, r2⟩ := F2.cons_left r1
    obtain rfl := F2.nil_left r2
    refine ⟨arr, h1, ?_⟩
    rw [e1, e2]
    exact ⟨c0, slcR (fun i j hi hj => by rw [isR_elim hR i j hi hj, cz_in hi hj]) c1, trivial⟩

/-- What a tariff's shadow says: the material, the number of classes, the numbers; and what stands behind it. -/
def eT (k : ByteArray → Nat → (Nat → Nat → Int) → List U → Option (Bool × V)) (us : List U) : Option (Bool × V) := match us with
  | .agg [.d (.str s), .d (.slc n e g)] :: rest => match k s n (cz n 2 (toI g)) rest with
    | some (ok, v) => some (tarG n e g && ok, v)
    | none => none
  | _ => none

theorem eT_ok {P : Program} {f : FuncId} {k : ByteArray → Nat → (Nat → Nat → Int) → List U → Option (Bool × V)} (h : ∀ s n g rest v, k s n g rest = some (true, v) → EntOK P f (tar s n g :: rest) v) :
    ∀ us v, eT k us = some (true, v) → EntOK P f us v := by
  intro us v hh
  unfold eT at hh
  split at hh
  · rename_i s n e g rest
    split at hh
    · rename_i ok v' hk
      simp only [Option.some.injEq, Prod.mk.injEq, Bool.and_eq_true] at hh
      obtain ⟨⟨hG, rfl⟩, rfl⟩ := hh
      refine (h s n _ rest _ hk).weaken fun w I ρ M vs hu => ?_
      obtain ⟨v0, l1, rfl, c0, r1⟩ := F2.cons_left hu
      exact ⟨tarW hG c0, r1⟩
    · cases hh
  · cases hh

def eT0 (k : ByteArray → Nat → (Nat → Nat → Int) → Option (Bool × V)) : List U → Option (Bool × V) := eT fun s n g rest => match rest with
  | [] => k s n g
  | _ => none
theorem eT0_ok {P : Program} {f : FuncId} {k : ByteArray → Nat → (Nat → Nat → Int) → Option (Bool × V)} (h : ∀ s n g v, k s n g = some (true, v) → EntOK P f [tar s n g] v) :
    ∀ us v, eT0 k us = some (true, v) → EntOK P f us v := eT_ok fun s n g rest v hk => by
  split at hk
  · exact h s n g v hk
  · cases hk
def eT1 (k : ByteArray → Nat → (Nat → Nat → Int) → Int → Option (Bool × V)) : List U → Option (Bool × V) := eT fun s n g rest => match rest with
  | [.one (.d (.int .i64 w))] => k s n g w
  | _ => none
theorem eT1_ok {P : Program} {f : FuncId} {k : ByteArray → Nat → (Nat → Nat → Int) → Int → Option (Bool × V)} (h : ∀ s n g w v, k s n g w = some (true, v) → EntOK P f [tar s n g, ui w] v) :
    ∀ us v, eT1 k us = some (true, v) → EntOK P f us v := eT_ok fun s n g rest v hk => by
  split at hk
  · rename_i w
    exact h s n g w v hk
  · cases hk

def eValid : List U → Option (Bool × V) := eT0 fun s n g => some (szG s n, rb (validB s n g))

def fewB (s : ByteArray) (n : Nat) : Bool := decide ((n : Int) ≤ 22) && decide ((s.size : Int) ≤ 40)
theorem t10 (s : ByteArray) (n : Nat) (g : Nat → Nat → Int) : fnV Tryd.prog G4 3 Tryd.f10 [tar s n g] =
  bif decide ((↑n : Int) ≤ 22) then some (rb (decide ((↑s.size : Int) ≤ 40)))
  else some (rb false) := by kernel_rfl
def eFew : List U → Option (Bool × V) := eT0 fun s n _ => some (true, rb (fewB s n))

def G5 : Tab := addE (addE (addE G4 17 eValid) 23 eValid) 10 eFew
theorem G5_ok : GOK Tryd.prog G5 := by
  refine addE_ok (addE_ok (addE_ok G4_ok (eT0_ok ?_)) (eT0_ok ?_)) (eT0_ok ?_)
  · intro s n g v hk
    simp only [Option.some.injEq, Prod.mk.injEq, szG, Bool.and_eq_true, decide_eq_true_eq] at hk
    obtain ⟨⟨h1, h2⟩, rfl⟩ := hk
    exact validR_ent s n g h1 h2
  · intro s n g v hk
    simp only [Option.some.injEq, Prod.mk.injEq, szG, Bool.and_eq_true, decide_eq_true_eq] at hk
    obtain ⟨⟨h1, h2⟩, rfl⟩ := hk
    exact valid_ent s n g h1 h2
  · intro s n g v hk
    simp only [Option.some.injEq, Prod.mk.injEq, true_and] at hk
    subst hk
    refine ent_of_fnV (fn := Tryd.f10) G4_ok (n := 3) (v := rb (fewB s n)) (by kernel_rfl) (by kernel_rfl) ?_ rfl rfl
    rw [t10]; unfold fewB
    cases decide ((n : Int) ≤ 22) <;> rfl

end
end Sh
end Go.Proofs.YtamdjlpobonmiaaDoor

/- The class of a weight. -/
namespace Go.Proofs.YtamdjlpobonmiaaDoor
namespace Sh
set_option maxRecDepth 100000

noncomputable section

/-- The first class behind a weight. -/
def firstFrom (n : Nat) (g : Nat → Nat → Int) (wt : Int) (k : Nat) : Nat := k + ((List.range' k (n - k)).takeWhile fun j => !decide (wt < g j 0)).length
theorem firstFrom_step {n : Nat} {g : Nat → Nat → Int} {wt : Int} {k : Nat} (h : k < n) : firstFrom n g wt k = bif decide (wt < g k 0) then k else firstFrom n g wt (k + 1) := by
  unfold firstFrom
  rw [show n - k = (n - (k + 1)) + 1 by omega, List.range'_succ, List.takeWhile_cons]
  cases decide (wt < g k 0) with
  | true => rfl
  | false => simp only [Bool.not_false, if_true, cond_false, List.length_cons]; omega
theorem firstFrom_end {n : Nat} {g : Nat → Nat → Int} {wt : Int} {k : Nat} (h : n ≤ k) : firstFrom n g wt k = k := by
  unfold firstFrom
  rw [show n - k = 0 by omega]; rfl
theorem firstFrom_le {n : Nat} {g : Nat → Nat → Int} {wt : Int} {k : Nat} (h : k ≤ n) : firstFrom n g wt k ≤ n := by
  unfold firstFrom
  have h1 : ((List.range' k (n - k)).takeWhile fun j => !decide (wt < g j 0)).length ≤ (List.range' k (n - k)).length := (List.takeWhile_sublist _).length_le
  rw [List.length_range'] at h1
  omega
theorem firstFrom_ge {n : Nat} {g : Nat → Nat → Int} {wt : Int} {k : Nat} : k ≤ firstFrom n g wt k := by unfold firstFrom; omega

def m58 (s : ByteArray) (n : Nat) (g : Nat → Nat → D) (wt : Int) : List B := [.var [.d (.str s), .d (.slc n 2 g)], .var [.d (.int .i64 wt)]]

def h58 : List V → List B → Tr
  | [.w (.one c), .w (.one (.fn 59 [] [(1, 0)])), .w (.one (.d (.int .i64 m))), .w (.one (.d (.int .i64 i)))], [.var [.d (.str s), .d (.slc n 2 g)], .var [.d (.int .i64 wt)]] =>
    .br (decide (0 ≤ i) && decide (n ≤ 1000000) && isI g && sameC c (.d (.slc n 2 g)) && decide (m = n)) (.br (decide (firstFrom n (toI g) wt i.toNat < n)) (.out .ret ⟨spread [4] [ri (firstFrom n (toI g) wt i.toNat)] 0 19, m58 s n g wt⟩)
      (.out (.exit 0) ⟨spread [4] [.any] 0 19, m58 s n g wt⟩)) .fail
  | _, _ => .fail
def d58 : LoopD := ⟨19, [0, 1, 7, 8], [4], h58⟩

theorem t58L (s : ByteArray) (n : Nat) (g : Nat → Nat → Int) (wt : Int) (i : Int) : evN Tryd.prog G5 noPl 3 [] (loopAt Tryd.f58 0)
  { tmps := spread d58.live [V.w (U.one (sl n g)), V.w (U.one (C.fn 59 [] [(1, 0)])), ri (↑n : Int), ri i] 0 19, mem := m58 s n (fun i j => .int .i64 (g i j)) wt } (d58.obs 2) =
  bif decide (i < (↑n : Int)) then
  bif decide (0 ≤ i) && decide (i < (↑n : Int)) && true then
    bif decide (wt < g i.toNat 0) then some (Ex.ret, [ri i], m58 s n (fun i j => .int .i64 (g i j)) wt)
    else some (Ex.norm, [.w (.one (sl n g)), V.w (U.one (C.fn 59 [] [(1, 0)])), ri n, ri (IntKind.i64.wrap (i + 1))], m58 s n (fun i j => .int .i64 (g i j)) wt)
  else none
  else some (Ex.exit 0, [V.any], m58 s n (fun i j => .int .i64 (g i j)) wt) := by kernel_rfl

theorem loop58 : LoopC Tryd.prog (loopAt Tryd.f58 0) d58.g := by
  refine loopC_at G5_ok (pl := noPl) PlOK.none 3 (ls := []) LsOK.nil d58 (fun vals mem => match vals, mem with
    | [_, _, _, .w (.one (.d (.int _ i)))], [.var [_, .d (.slc n _ _)], _] => n - i.toNat
    | _, _ => 0) ?_
  intro vals mem e st' hh
  simp only [d58] at hh
  unfold h58 at hh
  split at hh
  case h_2 => cases hh
  rename_i c m i s n g wt
  cases hg : decide (0 ≤ i) && decide (n ≤ 1000000) && isI g && sameC c (.d (.slc n 2 g)) && decide (m = n) with
  | false => simp only [Tr.s, hg, cond_false] at hh; cases hh
  | true =>
  simp only [Tr.s, hg, cond_true] at hh
  simp only [Bool.and_eq_true, decide_eq_true_eq] at hg
  obtain ⟨⟨⟨⟨hi0, hsz⟩, hI⟩, hc⟩, rfl⟩ := hg
  obtain rfl := sameC_elim hc
  obtain ⟨g, rfl⟩ := isI_elim hI
  rw [toI_lit] at hh
  have ht := t58L s n g wt i
  change ∃ e1 vals1 mem1, evN Tryd.prog G5 noPl 3 [] (loopAt Tryd.f58 0) ⟨spread d58.live [.w (.one (sl n g)), V.w (U.one (C.fn 59 [] [(1, 0)])), ri n, ri i] 0 19, m58 s n (fun i j => .int .i64 (g i j)) wt⟩ (d58.obs 2) = some (e1, vals1, mem1) ∧ _
  rw [ht]
  by_cases hlt : i < (n : Int)
  · have hk : i.toNat < n := by omega
    have hw : IntKind.i64.wrap (i + 1) = i + 1 := wrap_id (by omega) (by omega)
    have hn : (i + 1).toNat = i.toNat + 1 := by omega
    rw [firstFrom_step hk] at hh
    simp only [hlt, hi0, decide_true, cond_true, Bool.and_self, Bool.and_true, hw]
    cases hp : decide (wt < g i.toNat 0) with
    | true =>
      simp only [hp, cond_true, hk, decide_true, Option.some.injEq, Prod.mk.injEq] at hh
      obtain ⟨rfl, rfl⟩ := hh
      refine ⟨_, _, _, rfl, .inr ⟨(fun h => by cases h), rfl, ?_⟩⟩
      simp only [ri, show ((i.toNat : Nat) : Int) = i by omega]
      rfl
    | false =>
      simp only [hp, cond_false] at hh
      refine ⟨_, _, _, rfl, .inl ⟨rfl, ?_, ?_⟩⟩
      · simp only [ri, sl, m58]; omega
      · simp only [d58, h58, ri, sl, m58, Tr.s, hn, toI_lit, isI_lit, sameC_refl, show (0 : Int) ≤ i + 1 by omega, hsz, decide_true, Bool.and_self, cond_true]
        exact hh
  · rw [firstFrom_end (by omega)] at hh
    have : ¬ i.toNat < n := by omega
    simp only [this, decide_false, cond_false, Option.some.injEq, Prod.mk.injEq] at hh
    obtain ⟨rfl, rfl⟩ := hh
    simp only [hlt, decide_false, cond_false]
    exact ⟨_, _, _, rfl, .inr ⟨(fun h => by cases h), rfl, rfl⟩⟩

end
end Sh
end Go.Proofs.YtamdjlpobonmiaaDoor

/- The class of a weight: the entry. -/
namespace Go.Proofs.YtamdjlpobonmiaaDoor
namespace Sh
set_option maxRecDepth 100000

noncomputable section

def pl58 : Plans := addP noPl 58 [some d58.g]
theorem pl58_ok : PlOK Tryd.prog pl58 := addP_ok PlOK.none (fn := Tryd.f58) (by kernel_rfl) (LsOK.one (x := loopAt Tryd.f58 0) (ls := []) (by kernel_rfl) loop58)

theorem t41 (s : ByteArray) (n : Nat) (g : Nat → Nat → Int) (wt : Int) : fnW Tryd.prog G5 pl58 4 [] Tryd.f41 [tar s n g, ui wt] =
  bif (decide (n ≤ 1000000) && isI fun i j => D.int IntKind.i64 (g i j)) && sameC (sl n g) (sl n g) && decide ((↑n : Int) = (↑n : Int)) then
  bif decide (firstFrom n (toI fun i j => D.int IntKind.i64 (g i j)) wt 0 < n) then some (ri (IntKind.i64.wrap ((↑(firstFrom n (toI fun i j => D.int IntKind.i64 (g i j)) wt 0) : Int) - 1)))
  else some (ri (IntKind.i64.wrap ((↑n : Int) - 1)))
  else none := by kernel_rfl

def classB (n : Nat) (g : Nat → Nat → Int) (wt : Int) : Int := (firstFrom n g wt 0 : Int) - 1
theorem class_ent (s : ByteArray) (n : Nat) (g : Nat → Nat → Int) (wt : Int) (_hs : s.size ≤ 1000000) (hn : n ≤ 1000000) : EntOK Tryd.prog 41 [tar s n g, ui wt] (ri (classB n g wt)) := by
  refine ent_of_fnW (fn := Tryd.f41) G5_ok pl58_ok (n := 4) (ls := []) (v := ri (classB n g wt)) (by kernel_rfl) (by kernel_rfl) (fun _ _ => LsOK.nil) ?_ rfl rfl
  rw [t41]
  have hle : firstFrom n g wt 0 ≤ n := firstFrom_le (Nat.zero_le _)
  unfold classB
  simp only [hn, isI_lit, toI_lit, sameC_refl, decide_true, cond_true, Bool.and_true]
  by_cases h : firstFrom n g wt 0 < n
  · simp only [h, decide_true, cond_true]
    rw [wrap_id (by omega) (by omega)]
  · have e : firstFrom n g wt 0 = n := by omega
    simp only [h, decide_false, cond_false]
    rw [wrap_id (by omega) (by omega), e]

def eClass : List U → Option (Bool × V) := eT1 fun s n g w => some (szG s n, ri (classB n g w))
def G6 : Tab := addE G5 41 eClass
theorem G6_ok : GOK Tryd.prog G6 := by
  refine addE_ok G5_ok (eT1_ok ?_)
  intro s n g w v hk
  simp only [Option.some.injEq, Prod.mk.injEq, szG, Bool.and_eq_true, decide_eq_true_eq] at hk
  obtain ⟨⟨h1, h2⟩, rfl⟩ := hk
  exact class_ent s n g w h1 h2

end
end Sh
end Go.Proofs.YtamdjlpobonmiaaDoor

/- The value of a weight. -/
namespace Go.Proofs.YtamdjlpobonmiaaDoor
namespace Sh
set_option maxRecDepth 100000

noncomputable section

def valueB (n : Nat) (g : Nat → Nat → Int) (wt : Int) : Int := IntKind.i64.wrap ((IntKind.i64.wrap (wt * g (classB n g wt).toNat 1)).tdiv 1000)

/-- The numbers of a tariff, as an entry reads them. -/
def zi (n : Nat) (g : Nat → Nat → Int) : Nat → Nat → Int := cz n 2 g
theorem t38 (s : ByteArray) (n : Nat) (g : Nat → Nat → Int) (wt : Int) : fnV Tryd.prog G6 4 Tryd.f38 [tar s n g, ui wt] =
  bif tarG n 2 (rowI g) && szG s n then
  bif decide (0 ≤ classB n (cz n 2 g) wt) && decide (classB n (cz n 2 g) wt < (↑n : Int)) && true then
    some (ri (IntKind.i64.wrap ((IntKind.i64.wrap (wt * g (classB n (cz n 2 g) wt).toNat 1)).tdiv 1000)))
  else none
  else none := by kernel_rfl

theorem firstFrom_cz {n : Nat} {g : Nat → Nat → Int} {wt : Int} : ∀ (m k : Nat), m = n - k → firstFrom n (cz n 2 g) wt k = firstFrom n g wt k := by
  intro m
  induction m with
  | zero => intro k h; rw [firstFrom_end (by omega), firstFrom_end (by omega)]
  | succ m ih =>
    intro k h
    rw [firstFrom_step (g := cz n 2 g) (k := k) (by omega), firstFrom_step (g := g) (k := k) (by omega), ih (k + 1) (by omega), cz_in (by omega) (by omega)]
theorem classB_cz {n : Nat} {g : Nat → Nat → Int} {wt : Int} : classB n (cz n 2 g) wt = classB n g wt := by unfold classB; rw [firstFrom_cz _ 0 rfl]

def eValue : List U → Option (Bool × V) := eT1 fun s n g w => some (szG s n && (decide (0 ≤ classB n g w) && decide (classB n g w < (n : Int))), ri (valueB n g w))
def G7 : Tab := addE G6 38 eValue
theorem G7_ok : GOK Tryd.prog G7 := by
  refine addE_ok G6_ok (eT1_ok ?_)
  intro s n g w v hk
  simp only [Option.some.injEq, Prod.mk.injEq, szG, Bool.and_eq_true, decide_eq_true_eq] at hk
  obtain ⟨⟨⟨h1, h2⟩, h3, h4⟩, rfl⟩ := hk
  refine ent_of_fnV (fn := Tryd.f38) G6_ok (n := 4) (v := ri (valueB n g w)) (by kernel_rfl) (by kernel_rfl) ?_ rfl rfl
  rw [t38, classB_cz]
  simp only [h1, h2, h3, h4, tarG_rowI, szG, decide_true, cond_true, Bool.and_true, valueB]

/- Weights that are not permitted. -/
def outW (w : Int) : Bool := decide (w < 0) || decide (1000000 < w)
def outFrom (k : Nat) (gw : Nat → Nat → Int) (i : Nat) : Nat := i + ((List.range' i (k - i)).takeWhile fun j => !outW (gw j 0)).length
theorem outFrom_step {k : Nat} {gw : Nat → Nat → Int} {i : Nat} (h : i < k) : outFrom k gw i = bif outW (gw i 0) then i else outFrom k gw (i + 1) := by
  unfold outFrom
  rw [show k - i = (k - (i + 1)) + 1 by omega, List.range'_succ, List.takeWhile_cons]
  cases outW (gw i 0) with
  | true => rfl
  | false => simp only [Bool.not_false, if_true, cond_false, List.length_cons]; omega
theorem outFrom_end {k : Nat} {gw : Nat → Nat → Int} {i : Nat} (h : k ≤ i) : outFrom k gw i = i := by
  unfold outFrom
  rw [show k - i = 0 by omega]; rfl

end
end Sh
end Go.Proofs.YtamdjlpobonmiaaDoor

/- Whether weights are permitted. -/
namespace Go.Proofs.YtamdjlpobonmiaaDoor
namespace Sh
set_option maxRecDepth 100000

noncomputable section

def sl1 (k : Nat) (gw : Nat → Nat → Int) : C := .d (.slc k 1 fun i j => .int .i64 (gw i j))
def m77 (s : ByteArray) (n : Nat) (g : Nat → Nat → D) : List B := [.var [.d (.str s), .d (.slc n 2 g)]]

def h77 : List V → List B → Tr
  | [.w (.one (.d (.slc k 1 gw))), .w (.one (.fn 57 [] [])), .w (.one (.d (.int .i64 m))), .w (.one (.d (.int .i64 i)))], [.var [.d (.str s), .d (.slc n 2 g)]] =>
    .br (decide (0 ≤ i) && decide (k ≤ 1000000) && isI gw && decide (m = k)) (.br (decide (outFrom k (toI gw) i.toNat < k)) (.out .ret ⟨spread [4] [ri (outFrom k (toI gw) i.toNat)] 0 19, m77 s n g⟩)
      (.out (.exit 0) ⟨spread [4] [.any] 0 19, m77 s n g⟩)) .fail
  | _, _ => .fail
def d77 : LoopD := ⟨19, [0, 1, 7, 8], [4], h77⟩

theorem t77L (s : ByteArray) (n : Nat) (g : Nat → Nat → D) (k : Nat) (gw : Nat → Nat → Int) (i : Int) : evN Tryd.prog G7 noPl 3 [] (loopAt Tryd.f77 0)
  { tmps := spread d77.live [V.w (U.one (sl1 k gw)), V.w (U.one (C.fn 57 [] [])), ri (↑k : Int), ri i] 0 19, mem := m77 s n g } (d77.obs 1) =
  bif decide (i < (↑k : Int)) then
  bif decide (0 ≤ i) && decide (i < (↑k : Int)) && true then
    bif decide (gw i.toNat 0 < 0) then some (Ex.ret, [ri i], m77 s n g)
    else
      bif decide (1000000 < gw i.toNat 0) then some (Ex.ret, [ri i], m77 s n g)
      else some (Ex.norm, [.w (.one (sl1 k gw)), V.w (U.one (C.fn 57 [] [])), ri k, ri (IntKind.i64.wrap (i + 1))], m77 s n g)
  else none
  else some (Ex.exit 0, [V.any], m77 s n g) := by kernel_rfl

theorem loop77 : LoopC Tryd.prog (loopAt Tryd.f77 0) d77.g := by
  refine loopC_at G7_ok (pl := noPl) PlOK.none 3 (ls := []) LsOK.nil d77 (fun vals _ => match vals with
    | [.w (.one (.d (.slc k _ _))), _, _, .w (.one (.d (.int _ i)))] => k - i.toNat
    | _ => 0) ?_
  intro vals mem e st' hh
  simp only [d77] at hh
  unfold h77 at hh
  split at hh
  case h_2 => cases hh
  rename_i k gw m i s n g
  cases hg : decide (0 ≤ i) && decide (k ≤ 1000000) && isI gw && decide (m = k) with
  | false => simp only [Tr.s, hg, cond_false] at hh; cases hh
  | true =>
  simp only [Tr.s, hg, cond_true] at hh
  simp only [Bool.and_eq_true, decide_eq_true_eq] at hg
  obtain ⟨⟨⟨hi0, hsz⟩, hI⟩, rfl⟩ := hg
  obtain ⟨gw, rfl⟩ := isI_elim hI
  rw [toI_lit] at hh
  have ht := t77L s n g k gw i
  change ∃ e1 vals1 mem1, evN Tryd.prog G7 noPl 3 [] (loopAt Tryd.f77 0) ⟨spread d77.live [.w (.one (sl1 k gw)), V.w (U.one (C.fn 57 [] [])), ri k, ri i] 0 19, m77 s n g⟩ (d77.obs 1) = some (e1, vals1, mem1) ∧ _
  rw [ht]
  by_cases hlt : i < (k : Int)
  · have hk : i.toNat < k := by omega
    have hw : IntKind.i64.wrap (i + 1) = i + 1 := wrap_id (by omega) (by omega)
    have hn : (i + 1).toNat = i.toNat + 1 := by omega
    rw [outFrom_step hk] at hh
    simp only [hlt, hi0, decide_true, cond_true, Bool.and_self, Bool.and_true, hw]
    have hbad : outW (gw i.toNat 0) = true → ∃ e1 vals1 mem1, (some (Ex.ret, [ri i], m77 s n g)) = some (e1, vals1, mem1) ∧
        ((e1 = .norm ∧ (match vals1 with
          | [.w (.one (.d (.slc k _ _))), _, _, .w (.one (.d (.int _ i)))] => k - i.toNat
          | _ => 0) < k - i.toNat ∧ (d77.h vals1 mem1).s = some (e, st')) ∨ (e1 ≠ .norm ∧ e = e1 ∧ st' = ⟨spread d77.liveX vals1 0 d77.N, mem1⟩)) := by
      intro hp
      simp only [hp, cond_true, hk, decide_true, Option.some.injEq, Prod.mk.injEq] at hh
      obtain ⟨rfl, rfl⟩ := hh
      refine ⟨_, _, _, rfl, .inr ⟨(fun h => by cases h), rfl, ?_⟩⟩
      simp only [ri, show ((i.toNat : Nat) : Int) = i by omega]
      rfl
    have hgood : outW (gw i.toNat 0) = false → ∃ e1 vals1 mem1, (some (Ex.norm, [.w (.one (sl1 k gw)), V.w (U.one (C.fn 57 [] [])), ri k, ri (i + 1)], m77 s n g)) = some (e1, vals1, mem1) ∧
        ((e1 = .norm ∧ (match vals1 with
          | [.w (.one (.d (.slc k _ _))), _, _, .w (.one (.d (.int _ i)))] => k - i.toNat
          | _ => 0) < k - i.toNat ∧ (d77.h vals1 mem1).s = some (e, st')) ∨ (e1 ≠ .norm ∧ e = e1 ∧ st' = ⟨spread d77.liveX vals1 0 d77.N, mem1⟩)) := by
      intro hp
      simp only [hp, cond_false] at hh
      refine ⟨_, _, _, rfl, .inl ⟨rfl, ?_, ?_⟩⟩
      · simp only [ri, sl1]; omega
      · simp only [d77, h77, ri, sl1, m77, Tr.s, hn, toI_lit, isI_lit, show (0 : Int) ≤ i + 1 by omega, hsz, decide_true, Bool.and_self, cond_true]
        exact hh
    unfold outW at hbad hgood
    cases h1 : decide (gw i.toNat 0 < 0) <;> cases h2 : decide (1000000 < gw i.toNat 0) <;> simp only [h1, h2] at hgood hbad <;> first | exact hgood rfl | exact hbad rfl
  · rw [outFrom_end (by omega)] at hh
    have : ¬ i.toNat < k := by omega
    simp only [this, decide_false, cond_false, Option.some.injEq, Prod.mk.injEq] at hh
    obtain ⟨rfl, rfl⟩ := hh
    simp only [hlt, decide_false, cond_false]
    exact ⟨_, _, _, rfl, .inr ⟨(fun h => by cases h), rfl, rfl⟩⟩

end
end Sh
end Go.Proofs.YtamdjlpobonmiaaDoor

/- The error of a tariff and weights. -/
namespace Go.Proofs.YtamdjlpobonmiaaDoor
namespace Sh
set_option maxRecDepth 100000

noncomputable section

def pl77 : Plans := addP noPl 77 [some d77.g]
theorem pl77_ok : PlOK Tryd.prog pl77 := addP_ok PlOK.none (fn := Tryd.f77) (by kernel_rfl) (LsOK.one (x := loopAt Tryd.f77 0) (ls := []) (by kernel_rfl) loop77)

def rightB (s : ByteArray) (n : Nat) (g : Nat → Nat → Int) (k : Nat) (gw : Nat → Nat → Int) : Int :=
  bif validB s n g then (bif decide (outFrom k gw 0 < k) then 2 else 0) else 1

theorem t37 (s : ByteArray) (n : Nat) (g : Nat → Nat → Int) (k : Nat) (gw : Nat → Nat → Int) : fnW Tryd.prog G7 pl77 5 [] Tryd.f37 [tar s n g, U.one (sl1 k gw)] =
  bif tarG n 2 (rowI g) && szG s n then
  bif !validB s n (cz n 2 g) then some (ri 1)
  else
    bif (decide (k ≤ 1000000) && isI fun i j => D.int IntKind.i64 (gw i j)) && decide ((↑k : Int) = (↑k : Int)) then
      bif decide (outFrom k (toI fun i j => D.int IntKind.i64 (gw i j)) 0 < k) then some (ri 2)
      else some (ri 0)
    else none
  else none := by kernel_rfl

theorem clsFrom_cz {n : Nat} {g : Nat → Nat → Int} : ∀ (m k : Nat), m = n - k → clsFrom n (cz n 2 g) k = clsFrom n g k := by
  intro m
  induction m with
  | zero => intro k h; rw [clsFrom_end (by omega), clsFrom_end (by omega)]
  | succ m ih =>
    intro k h
    rw [clsFrom_step (g := cz n 2 g) (k := k) (by omega), clsFrom_step (g := g) (k := k) (by omega), ih (k + 1) (by omega)]
    unfold clsAt
    rw [cz_in (by omega) (by omega), cz_in (by omega) (by omega), cz_in (by omega) (by omega)]
theorem validB_cz {s : ByteArray} {n : Nat} {g : Nat → Nat → Int} : validB s n (cz n 2 g) = validB s n g := by
  unfold validB
  rw [clsFrom_cz _ 0 rfl]
  by_cases h : 1 ≤ (n : Int)
  · rw [cz_in (by omega) (by omega)]
  · simp only [h, decide_false, Bool.false_and]

theorem right_ent (s : ByteArray) (n : Nat) (g : Nat → Nat → Int) (k : Nat) (gw : Nat → Nat → Int) (hs : s.size ≤ 1000000) (hn : n ≤ 1000000) (hk : k ≤ 1000000) :
    EntOK Tryd.prog 37 [tar s n g, .one (sl1 k gw)] (ri (rightB s n g k gw)) := by
  refine ent_of_fnW (fn := Tryd.f37) G7_ok pl77_ok (n := 5) (ls := []) (v := ri (rightB s n g k gw)) (by kernel_rfl) (by kernel_rfl) (fun _ _ => LsOK.nil) ?_ rfl rfl
  rw [t37, validB_cz]
  unfold rightB
  simp only [hs, hn, hk, szG, tarG_rowI, isI_lit, toI_lit, decide_true, cond_true, Bool.and_true]
  by_cases h : outFrom k gw 0 < k
  · simp only [h, decide_true, cond_true]
    cases validB s n g <;> rfl
  · simp only [h, decide_false, cond_false]
    cases validB s n g <;> rfl

end
end Sh
end Go.Proofs.YtamdjlpobonmiaaDoor

/- The error of a tariff and weights: the entry. -/
namespace Go.Proofs.YtamdjlpobonmiaaDoor
namespace Sh
set_option maxRecDepth 100000

noncomputable section

def eRight : List U → Option (Bool × V) := eT fun s n g rest => match rest with
  | [.one (.d (.slc k 1 gw))] => some (szG s n && (decide (k ≤ 1000000) && isR k 1 gw), ri (rightB s n g k (cz k 1 (toI gw))))
  | [.one (.d (.slc 0 0 _))] => some (szG s n, ri (rightB s n g 0 fun _ _ => 0))
  | _ => none

theorem right_any (s : ByteArray) (n : Nat) (g : Nat → Nat → Int) (k : Nat) (gw : Nat → Nat → D) (hs : s.size ≤ 1000000) (hn : n ≤ 1000000) (hk : k ≤ 1000000) (hw : isR k 1 gw = true) :
    EntOK Tryd.prog 37 [tar s n g, .one (.d (.slc k 1 gw))] (ri (rightB s n g k (cz k 1 (toI gw)))) :=
  (right_ent s n g k (cz k 1 (toI gw)) hs hn hk).weaken fun w I ρ M vs hu => by
    obtain ⟨v0, l1, rfl, c0, r1⟩ := F2.cons_left hu
    obtain ⟨v1, l2, rfl, c1, r2⟩ := F2.cons_left r1
    exact ⟨c0, slcR (fun i j hi hj => by rw [isR_elim hw i j hi hj, cz_in hi hj]) c1, r2⟩
theorem right_nil (s : ByteArray) (n : Nat) (g : Nat → Nat → Int) (gw : Nat → Nat → D) (hs : s.size ≤ 1000000) (hn : n ≤ 1000000) :
    EntOK Tryd.prog 37 [tar s n g, .one (.d (.slc 0 0 gw))] (ri (rightB s n g 0 fun _ _ => 0)) :=
  (right_ent s n g 0 (fun _ _ => 0) hs hn (Nat.zero_le _)).weaken fun w I ρ M vs hu => by
    obtain ⟨v0, l1, rfl, c0, r1⟩ := F2.cons_left hu
    obtain ⟨v1, l2, rfl, c1, r2⟩ := F2.cons_left r1
    exact ⟨c0, slc0 c1, r2⟩

def G8 : Tab := addE G7 37 eRight
theorem G8_ok : GOK Tryd.prog G8 := addE_ok G7_ok (eT_ok fun s n g rest v hk => by
  split at hk
  · rename_i k gw
    simp only [Option.some.injEq, Prod.mk.injEq, szG, Bool.and_eq_true, decide_eq_true_eq] at hk
    obtain ⟨⟨⟨h1, h2⟩, h3, h4⟩, rfl⟩ := hk
    exact right_any s n g k gw h1 h2 h3 h4
  · rename_i gw
    simp only [Option.some.injEq, Prod.mk.injEq, szG, Bool.and_eq_true, decide_eq_true_eq] at hk
    obtain ⟨⟨h1, h2⟩, rfl⟩ := hk
    exact right_nil s n g gw h1 h2
  · cases hk)

end
end Sh
end Go.Proofs.YtamdjlpobonmiaaDoor

/- ClassOf, Value and Next: the entries. -/
namespace Go.Proofs.YtamdjlpobonmiaaDoor
namespace Sh
set_option maxRecDepth 100000

noncomputable section

/-- The row of one weight, as the call makes it. -/
def oneRow (wt : Int) : Nat → Nat → D := fun a j => [D.int IntKind.i64 wt].getD (a * 1 + j) D.nil
theorem oneRow_R (wt : Int) : isR 1 1 (oneRow wt) = true := isR_intro fun i j hi hj => by
  obtain rfl : i = 0 := by omega
  obtain rfl : j = 0 := by omega
  exact ⟨wt, rfl⟩

/-- The error of one weight. -/
def errB (s : ByteArray) (n : Nat) (g : Nat → Nat → Int) (wt : Int) : Int := bif validB s n g then (bif outW wt then 2 else 0) else 1
def err1 (s : ByteArray) (n : Nat) (g : Nat → Nat → Int) (wt : Int) : Int := rightB s n (cz n 2 g) 1 (cz 1 1 (toI (oneRow wt)))
theorem err1_eq (s : ByteArray) (n : Nat) (g : Nat → Nat → Int) (wt : Int) : err1 s n g wt = errB s n g wt := by
  unfold err1 errB rightB
  rw [validB_cz, outFrom_step (by omega), outFrom_end (Nat.le_refl _)]
  have : cz 1 1 (toI (oneRow wt)) 0 0 = wt := rfl
  rw [this]
  cases validB s n g <;> cases outW wt <;> rfl
theorem valueB_cz {n : Nat} {g : Nat → Nat → Int} {wt : Int} (h0 : 0 ≤ classB n g wt) (h1 : classB n g wt < (n : Int)) : valueB n (cz n 2 g) wt = valueB n g wt := by
  unfold valueB
  rw [classB_cz, cz_in (by omega) (by omega)]

def rt (a b : Int) : V := .tup [.one (.d (.int .i64 a)), .one (.d (.int .i64 b))]

theorem t18 (s : ByteArray) (n : Nat) (g : Nat → Nat → Int) (wt : Int) : fnV Tryd.prog G8 4 Tryd.f18 [tar s n g, ui wt] =
  bif tarG n 2 (rowI g) && (szG s n && isR 1 1 (oneRow wt)) then
  bif !decide (err1 s n g wt = 0) then some (rt 0 (err1 s n g wt))
  else
    bif tarG n 2 (rowI g) && (szG s n && (decide (0 ≤ classB n (cz n 2 g) wt) && decide (classB n (cz n 2 g) wt < (↑n : Int)))) then
      some (rt (valueB n (cz n 2 g) wt) 0)
    else none
  else none := by kernel_rfl
theorem t20 (s : ByteArray) (n : Nat) (g : Nat → Nat → Int) (wt : Int) : fnV Tryd.prog G8 4 Tryd.f20 [tar s n g, ui wt] =
  bif tarG n 2 (rowI g) && (szG s n && isR 1 1 (oneRow wt)) then
  bif !decide (err1 s n g wt = 0) then some (rt 0 (err1 s n g wt))
  else
    bif tarG n 2 (rowI g) && szG s n then some (rt (classB n (cz n 2 g) wt) 0)
    else none
  else none := by kernel_rfl
theorem t21 (s : ByteArray) (n : Nat) (g : Nat → Nat → Int) (wt : Int) : fnV Tryd.prog G8 4 Tryd.f21 [tar s n g, ui wt] =
  bif tarG n 2 (rowI g) && (szG s n && isR 1 1 (oneRow wt)) then
  bif !decide (err1 s n g wt = 0) then some (rt 0 (err1 s n g wt))
  else
    bif tarG n 2 (rowI g) && szG s n then
      bif decide (IntKind.i64.wrap (classB n (cz n 2 g) wt + 1) < (↑n : Int)) then
        bif decide (0 ≤ IntKind.i64.wrap (classB n (cz n 2 g) wt + 1)) && decide (IntKind.i64.wrap (classB n (cz n 2 g) wt + 1) < (↑n : Int)) && true then
          some (rt (g (IntKind.i64.wrap (classB n (cz n 2 g) wt + 1)).toNat 0) 0)
        else none
      else some (rt 0 7)
    else none
  else none := by kernel_rfl

/-- The class of a permitted weight of a valid tariff is one. -/
theorem class_in {s : ByteArray} {n : Nat} {g : Nat → Nat → Int} {wt : Int} (hv : validB s n g = true) (hw : outW wt = false) : 0 ≤ classB n g wt ∧ classB n g wt < (n : Int) := by
  unfold validB at hv
  simp only [Bool.and_eq_true, decide_eq_true_eq] at hv
  obtain ⟨_, h1, _, h0, _⟩ := hv
  unfold outW at hw
  simp only [Bool.or_eq_false_iff, decide_eq_false_iff_not] at hw
  have hle : firstFrom n g wt 0 ≤ n := firstFrom_le (Nat.zero_le _)
  have hge : 1 ≤ firstFrom n g wt 0 := by
    rw [firstFrom_step (by omega)]
    have : decide (wt < g 0 0) = false := by simp only [decide_eq_false_iff_not, h0]; omega
    rw [this]
    exact firstFrom_ge
  unfold classB
  omega
theorem class_of_err {s : ByteArray} {n : Nat} {g : Nat → Nat → Int} {wt : Int} (h : errB s n g wt = 0) : 0 ≤ classB n g wt ∧ classB n g wt < (n : Int) := by
  unfold errB at h
  cases hv : validB s n g with
  | false => rw [hv] at h; cases h
  | true =>
    rw [hv] at h
    cases hw : outW wt with
    | true => rw [hw] at h; cases h
    | false => exact class_in hv hw

/-- The next step, or 0. -/
def nextB (n : Nat) (g : Nat → Nat → Int) (wt : Int) : Int × Int := bif decide (firstFrom n g wt 0 < n) then (g (firstFrom n g wt 0) 0, 0) else (0, 7)

def valE (s : ByteArray) (n : Nat) (g : Nat → Nat → Int) (w : Int) : Int := bif decide (errB s n g w = 0) then valueB n g w else 0
def classE (s : ByteArray) (n : Nat) (g : Nat → Nat → Int) (w : Int) : Int := bif decide (errB s n g w = 0) then classB n g w else 0
def nextV (s : ByteArray) (n : Nat) (g : Nat → Nat → Int) (w : Int) : Int := bif decide (errB s n g w = 0) then (nextB n g w).1 else 0
def nextE (s : ByteArray) (n : Nat) (g : Nat → Nat → Int) (w : Int) : Int := bif decide (errB s n g w = 0) then (nextB n g w).2 else errB s n g w
def eVal : List U → Option (Bool × V) := eT1 fun s n g w => some (szG s n, rt (valE s n g w) (errB s n g w))
def eClassOf : List U → Option (Bool × V) := eT1 fun s n g w => some (szG s n, rt (classE s n g w) (errB s n g w))
def eNext : List U → Option (Bool × V) := eT1 fun s n g w => some (szG s n, rt (nextV s n g w) (nextE s n g w))

theorem pureBif {b : Bool} {x y : V} (hx : pureV (dataV x) = true) (hy : pureV (dataV y) = true) : pureV (dataV (bif b then x else y)) = true := by cases b <;> assumption
theorem dataBif {b : Bool} {x y : V} (hx : dataV x = x) (hy : dataV y = y) : dataV (bif b then x else y) = bif b then x else y := by cases b <;> assumption

/-- As ent_of_fnV, where the result is data as it stands. -/
theorem ent_fnV {P : Program} {G : Tab} (hG : GOK P G) {n : Nat} {f : FuncId} {fn : Func} {us : List U} {v : V} (hf : P.funcs[f]? = some fn) (hname : (fn.name == "runtime.NumGoroutine") = false)
    (h : fnV P G n fn us = some v) (hus : us.all pureU = true) (hd : dataV v = v) (hv : pureV v = true) : EntOK P f us v := by
  have := ent_of_fnV hG hf hname h hus (by rw [hd]; exact hv)
  rwa [hd] at this
theorem ent_fnW {P : Program} {G : Tab} (hG : GOK P G) {pl : Plans} (hp : PlOK P pl) {n : Nat} {ls : Ls} {f : FuncId} {fn : Func} {us : List U} {v : V} (hf : P.funcs[f]? = some fn) (hname : (fn.name == "runtime.NumGoroutine") = false)
    (hls : LsOK P ls (bodyOf fn)) (h : fnW P G pl n ls fn us = some v) (hus : us.all pureU = true) (hd : dataV v = v) (hv : pureV v = true) : EntOK P f us v := by
  have := ent_of_fnW hG hp hf hname (fun c hc => by
    have e : bodyOf fn = c := by simp only [bodyOf, hc, Option.getD_some]
    rw [← e]; exact hls) h hus (by rw [hd]; exact hv)
  rwa [hd] at this

def G9 : Tab := addE (addE (addE G8 18 eVal) 20 eClassOf) 21 eNext
theorem G9_ok : GOK Tryd.prog G9 := by
  refine addE_ok (addE_ok (addE_ok G8_ok (eT1_ok ?_)) (eT1_ok ?_)) (eT1_ok ?_)
  all_goals
    intro s n g w v hk
    simp only [Option.some.injEq, Prod.mk.injEq] at hk
    obtain ⟨h1, rfl⟩ := hk
  · refine ent_fnV (fn := Tryd.f18) G8_ok (n := 4) (by kernel_rfl) (by kernel_rfl) ?_ rfl rfl rfl
    rw [t18]
    simp only [h1, tarG_rowI, oneRow_R, err1_eq, cond_true, Bool.true_and, Bool.and_true]
    by_cases h : errB s n g w = 0
    · obtain ⟨h2, h3⟩ := class_of_err h
      simp only [valE, classB_cz, valueB_cz h2 h3, h, h2, h3, decide_true, Bool.not_true, cond_false, cond_true, Bool.and_self]
    · simp only [valE, h, decide_false, Bool.not_false, cond_false, cond_true]
  · refine ent_fnV (fn := Tryd.f20) G8_ok (n := 4) (by kernel_rfl) (by kernel_rfl) ?_ rfl rfl rfl
    rw [t20]
    simp only [h1, tarG_rowI, oneRow_R, err1_eq, cond_true, Bool.true_and, Bool.and_true, classB_cz, classE]
    by_cases h : errB s n g w = 0
    · simp only [h, decide_true, Bool.not_true, cond_false, cond_true]
    · simp only [h, decide_false, Bool.not_false, cond_false, cond_true]
  · refine ent_fnV (fn := Tryd.f21) G8_ok (n := 4) (by kernel_rfl) (by kernel_rfl) ?_ rfl rfl rfl
    rw [t21]
    simp only [h1, tarG_rowI, oneRow_R, err1_eq, cond_true, Bool.true_and, Bool.and_true, classB_cz, nextV, nextE]
    unfold szG at h1
    simp only [Bool.and_eq_true, decide_eq_true_eq] at h1
    by_cases h : errB s n g w = 0
    · obtain ⟨h2, h3⟩ := class_of_err h
      rw [wrap_id (by omega) (by omega)]
      have e : classB n g w + 1 = (firstFrom n g w 0 : Int) := by unfold classB; omega
      have e1 : ((firstFrom n g w 0 : Nat) : Int) < n ↔ firstFrom n g w 0 < n := by omega
      simp only [e, h, decide_true, Bool.not_true, cond_false, cond_true, nextB, Int.toNat_natCast, show (0 : Int) ≤ (firstFrom n g w 0 : Nat) by omega, Bool.true_and, e1]
      by_cases h4 : firstFrom n g w 0 < n
      · simp only [h4, decide_true, cond_true]
      · simp only [h4, decide_false, cond_false]
    · simp only [h, decide_false, Bool.not_false, cond_false, cond_true]

end
end Sh
end Go.Proofs.YtamdjlpobonmiaaDoor

/- Loops by their states: a rule that asks for one round alone. -/
namespace Go.Proofs.YtamdjlpobonmiaaDoor
namespace Sh
open Go.RowKit

inductive RT
  | out (e : Ex) (vs : List V) (m : List B)
  | br (b : Bool) (x y : RT)
def RT.tr (live : List Nat) (N : Nat) : RT → Tr
  | .out e vs m => .out e ⟨spread live vs 0 N, m⟩
  | .br b x y => .br b (x.tr live N) (y.tr live N)
def RT.r : RT → Ex × List V × List B
  | .out e vs m => (e, vs, m)
  | .br b x y => bif b then x.r else y.r

theorem RT.tr_s {live : List Nat} {N : Nat} : ∀ t : RT, (t.tr live N).s = some (t.r.1, ⟨spread live t.r.2.1 0 N, t.r.2.2⟩)
  | .out _ _ _ => rfl
  | .br b x y => by
    simp only [RT.tr, Tr.s, RT.r, RT.tr_s x, RT.tr_s y]
    cases b <;> rfl

structure LoopS (σ : Type) where
  N : Nat
  live : List Nat
  liveX : List Nat
  dec : List V → List B → Option (Bool × σ)
  res : σ → RT

def LoopS.d {σ : Type} (L : LoopS σ) : LoopD := ⟨L.N, L.live, L.liveX, fun vals mem => match L.dec vals mem with
  | some (g, s) => .br g ((L.res s).tr L.liveX L.N) .fail
  | none => .fail⟩

section
variable {P : Program} {G : Tab}

/-- A loop's contract by its states: good states, one round each. -/
theorem loopC_st {σ : Type} (L : LoopS σ) (hG : GOK P G) {pl : Plans} (hp : PlOK P pl) (n : Nat) {x : Code} {ls : Ls} (hls : LsOK P ls x) (head : σ → List V × List B) (good : σ → Prop) (μ : σ → Nat)
    (hdec : ∀ vals mem s, L.dec vals mem = some (true, s) → good s ∧ head s = (vals, mem))
    (hround : ∀ s, good s →
      (∃ s', evN P G pl n ls x ⟨spread L.live (head s).1 0 L.N, (head s).2⟩ (L.d.obs (head s).2.length) = some (.norm, head s') ∧ good s' ∧ μ s' < μ s ∧ (L.res s').r = (L.res s).r) ∨
      (evN P G pl n ls x ⟨spread L.live (head s).1 0 L.N, (head s).2⟩ (L.d.obs (head s).2.length) = some (L.res s).r ∧ (L.res s).r.1 ≠ .norm)) : LoopC P x L.d.g := by
  refine loopC_rel hG hp n hls L.d
    (fun m vals mem e st' => ∃ s, good s ∧ μ s = m ∧ head s = (vals, mem) ∧ (L.res s).r.1 = e ∧ st' = ⟨spread L.liveX (L.res s).r.2.1 0 L.N, (L.res s).r.2.2⟩) ?_ ?_
  · intro vals mem e st' h
    simp only [LoopS.d] at h
    split at h
    · rename_i g s hs
      cases g with
      | false => simp only [Tr.s, cond_false] at h; cases h
      | true =>
        simp only [Tr.s, cond_true, RT.tr_s, Option.some.injEq, Prod.mk.injEq] at h
        obtain ⟨h1, h2⟩ := hdec _ _ _ hs
        exact ⟨_, s, h1, rfl, h2, h.1, h.2.symm⟩
    · cases h
  · rintro m vals mem e st' ⟨s, hg, rfl, hh, rfl, rfl⟩
    have h1 : (head s).1 = vals := by rw [hh]
    have h2 : (head s).2 = mem := by rw [hh]
    subst h1 h2
    rcases hround s hg with ⟨s', h3, h4, h5, h6⟩ | ⟨h3, h4⟩
    · refine ⟨.norm, (head s').1, (head s').2, h3, .inl ⟨rfl, μ s', h5, s', h4, rfl, rfl, by rw [h6], by rw [h6]⟩⟩
    · exact ⟨_, _, _, h3, .inr ⟨h4, rfl, rfl⟩⟩

/-- Two states are one. -/
noncomputable def sameM (x y : List V × List B) : Bool := @decide (x = y) (Classical.propDecidable _)
theorem sameM_of {x y : List V × List B} (h : x = y) : sameM x y = true := by unfold sameM; exact @decide_eq_true _ (Classical.propDecidable _) h
theorem sameM_elim {x y : List V × List B} (h : sameM x y = true) : x = y := by unfold sameM at h; exact @of_decide_eq_true _ (Classical.propDecidable _) h

/-- A loop by what it reads off its state: what else the state is, is asked for whole. -/
structure LoopQ (σ : Type) where
  N : Nat
  live : List Nat
  liveX : List Nat
  ext : List V → List B → Option σ
  pre : σ → Bool
  head : σ → List V × List B
  res : σ → RT

noncomputable def LoopQ.s {σ : Type} (L : LoopQ σ) : LoopS σ := ⟨L.N, L.live, L.liveX, fun vals mem => match L.ext vals mem with
  | some s => some (L.pre s && sameM (vals, mem) (L.head s), s)
  | none => none, L.res⟩
noncomputable def LoopQ.g {σ : Type} (L : LoopQ σ) : St → Tr := L.s.d.g

theorem loopC_q {σ : Type} (L : LoopQ σ) (hG : GOK P G) {pl : Plans} (hp : PlOK P pl) (n : Nat) {x : Code} {ls : Ls} (hls : LsOK P ls x) (inv : σ → Prop) (μ : σ → Nat) (hpre : ∀ s, L.pre s = true → inv s)
    (hround : ∀ s, inv s →
      (∃ s', evN P G pl n ls x ⟨spread L.live (L.head s).1 0 L.N, (L.head s).2⟩ (L.s.d.obs (L.head s).2.length) = some (.norm, L.head s') ∧ inv s' ∧ μ s' < μ s ∧ (L.res s').r = (L.res s).r) ∨
      (evN P G pl n ls x ⟨spread L.live (L.head s).1 0 L.N, (L.head s).2⟩ (L.s.d.obs (L.head s).2.length) = some (L.res s).r ∧ (L.res s).r.1 ≠ .norm)) : LoopC P x L.g := by
  refine loopC_st L.s hG hp n hls L.head inv μ (fun vals mem s h => ?_) hround
  simp only [LoopQ.s] at h
  split at h
  · simp only [Option.some.injEq, Prod.mk.injEq, Bool.and_eq_true] at h
    obtain ⟨⟨h1, h2⟩, rfl⟩ := h
    exact ⟨hpre _ h1, (sameM_elim h2).symm⟩
  · cases h

end
end Sh
end Go.Proofs.YtamdjlpobonmiaaDoor

/- Whether a tariff is fair: the program's side. -/
namespace Go.Proofs.YtamdjlpobonmiaaDoor
namespace Sh
set_option maxRecDepth 100000

noncomputable section

/-- The first place from k on, below n, at which p. -/
def ffrom (p : Nat → Bool) (n k : Nat) : Nat := k + ((List.range' k (n - k)).takeWhile fun j => !p j).length
theorem ffrom_step {p : Nat → Bool} {n k : Nat} (h : k < n) : ffrom p n k = bif p k then k else ffrom p n (k + 1) := by
  unfold ffrom
  rw [show n - k = (n - (k + 1)) + 1 by omega, List.range'_succ, List.takeWhile_cons]
  cases p k with
  | true => rfl
  | false => simp only [Bool.not_false, if_true, cond_false, List.length_cons]; omega
theorem ffrom_end {p : Nat → Bool} {n k : Nat} (h : n ≤ k) : ffrom p n k = k := by
  unfold ffrom
  rw [show n - k = 0 by omega]; rfl
theorem ffrom_le {p : Nat → Bool} {n k : Nat} (h : k ≤ n) : ffrom p n k ≤ n := by
  unfold ffrom
  have h1 : ((List.range' k (n - k)).takeWhile fun j => !p j).length ≤ (List.range' k (n - k)).length := (List.takeWhile_sublist _).length_le
  rw [List.length_range'] at h1
  omega
/-- What the first place is. -/
theorem ffrom_spec {p : Nat → Bool} {n : Nat} : ∀ (m k : Nat), m = n - k → k ≤ n → k ≤ ffrom p n k ∧ ffrom p n k ≤ n ∧ (∀ j, k ≤ j → j < ffrom p n k → p j = false) ∧ (ffrom p n k < n → p (ffrom p n k) = true) := by
  intro m
  induction m with
  | zero =>
    intro k h hk
    rw [ffrom_end (by omega)]
    exact ⟨Nat.le_refl _, hk, fun j h1 h2 => by omega, fun h1 => by omega⟩
  | succ m ih =>
    intro k h hk
    rw [ffrom_step (by omega)]
    cases hp : p k with
    | true => exact ⟨Nat.le_refl _, hk, fun j h1 h2 => by simp only [cond_true] at h2; omega, fun _ => hp⟩
    | false =>
      simp only [cond_false]
      obtain ⟨h1, h2, h3, h4⟩ := ih (k + 1) (by omega) (by omega)
      refine ⟨by omega, h2, fun j h5 h6 => ?_, h4⟩
      by_cases e : j = k
      · rw [e]; exact hp
      · exact h3 j (by omega) h6

/-- What a valid tariff is. -/
theorem clsFrom_all {n : Nat} {g : Nat → Nat → Int} : ∀ (m k : Nat), m = n - k → (clsFrom n g k = true ↔ ∀ j, k ≤ j → j < n → clsAt g j = true) := by
  intro m k h
  unfold clsFrom
  rw [List.all_eq_true]
  constructor
  · intro h1 j h2 h3
    exact h1 j (by rw [List.mem_range'_1]; omega)
  · intro h1 j h2
    rw [List.mem_range'_1] at h2
    exact h1 j (by omega) (by omega)

structure Vd (s : ByteArray) (n : Nat) (g : Nat → Nat → Int) : Prop where
  name : nameB s = true
  one : 1 ≤ n
  few : n ≤ 20
  zero : g 0 0 = 0
  from_le : ∀ i, i < n → g i 0 ≤ 1000000
  price0 : ∀ i, i < n → 0 ≤ g i 1
  price1 : ∀ i, i < n → g i 1 ≤ 1000000
  up : ∀ i, i + 1 < n → g i 0 < g (i + 1) 0
theorem valid_iff {s : ByteArray} {n : Nat} {g : Nat → Nat → Int} : validB s n g = true ↔ Vd s n g := by
  unfold validB
  simp only [Bool.and_eq_true, decide_eq_true_eq]
  rw [clsFrom_all _ 0 rfl]
  constructor
  · rintro ⟨h1, h2, h3, h4, h5⟩
    have key : ∀ j, j < n → (g j 0 ≤ 1000000 ∧ 0 ≤ g j 1 ∧ g j 1 ≤ 1000000) ∧ (0 < j → g (j - 1) 0 < g j 0) := by
      intro j hj
      have := h5 j (Nat.zero_le _) hj
      unfold clsAt at this
      simp only [Bool.not_eq_true', Bool.or_eq_false_iff, decide_eq_false_iff_not, Bool.and_eq_false_iff] at this
      omega
    exact ⟨h1, by omega, by omega, h4, fun i hi => (key i hi).1.1, fun i hi => (key i hi).1.2.1, fun i hi => (key i hi).1.2.2, fun i hi => (key (i + 1) hi).2 (by omega)⟩
  · intro h
    refine ⟨h.name, by have := h.one; omega, by have := h.few; omega, h.zero, fun j _ hj => ?_⟩
    have h1 := h.from_le j hj
    have h2 := h.price0 j hj
    have h3 := h.price1 j hj
    unfold clsAt
    simp only [Bool.not_eq_true', Bool.or_eq_false_iff, decide_eq_false_iff_not, Bool.and_eq_false_iff]
    refine ⟨⟨⟨by omega, by omega⟩, by omega⟩, ?_⟩
    cases j with
    | zero => exact .inl (by omega)
    | succ j => have := h.up j hj; simp only [Nat.add_sub_cancel]; omega
theorem Vd.lt {s : ByteArray} {n : Nat} {g : Nat → Nat → Int} (h : Vd s n g) : ∀ (d i : Nat), i + d + 1 < n → g i 0 < g (i + d + 1) 0
  | 0, i, hi => h.up i hi
  | d + 1, i, hi => Int.lt_trans (h.lt d i (by omega)) (h.up (i + d + 1) hi)
theorem Vd.mono {s : ByteArray} {n : Nat} {g : Nat → Nat → Int} (h : Vd s n g) {i j : Nat} (hij : i < j) (hj : j < n) : g i 0 < g j 0 := by
  have := h.lt (j - i - 1) i (by omega)
  rwa [show i + (j - i - 1) + 1 = j by omega] at this
theorem Vd.from0 {s : ByteArray} {n : Nat} {g : Nat → Nat → Int} (h : Vd s n g) {i : Nat} (hi : i < n) : 0 ≤ g i 0 := by
  cases i with
  | zero => rw [h.zero]; exact Int.le_refl _
  | succ i => have := h.mono (i := 0) (j := i + 1) (by omega) hi; have := h.zero; omega

/-- A step at which the value falls. -/
def unf (n : Nat) (g : Nat → Nat → Int) (i : Nat) : Bool := decide (valueB n g (g (1 + i) 0) < valueB n g (g (1 + i) 0 - 1))

def mT (s : ByteArray) (n : Nat) (g : Nat → Nat → Int) : List B := [.var [.d (.str s), sl n g]]
def fnFair : U := .one (.fn 40 [] [(0, 0)])
abbrev TarI := ByteArray × Nat × (Nat → Nat → Int) × Int
def LFair : LoopS TarI where
  N := 19
  live := [0, 1, 7, 8]
  liveX := [4]
  dec vals mem := match vals, mem with
    | [.w (.one c), .w (.one (.fn 40 [] [(0, 0)])), .w (.one (.d (.int .i64 m))), .w (.one (.d (.int .i64 i)))], [.var [.d (.str s), .d (.slc n 2 g)]] =>
      some (decide (0 ≤ i) && (szG s n && (validB s n (toI g) && (isI g && (sameC c (.d (.slc (n - 1) 2 fun a b => g (1 + a) b)) && decide (m = ((n - 1 : Nat) : Int)))))), (s, n, toI g, i))
    | _, _ => none
  res := fun (s, n, g, i) => .br (decide (ffrom (unf n g) (n - 1) i.toNat < n - 1)) (.out .ret [ri (ffrom (unf n g) (n - 1) i.toNat)] (mT s n g)) (.out (.exit 0) [.any] (mT s n g))

theorem tFairL (s : ByteArray) (n : Nat) (g : Nat → Nat → Int) (i : Int) : evN Tryd.prog G9 noPl 3 [] (loopAt Tryd.f58 0)
  ⟨spread [0, 1, 7, 8] [.w (.one (sl (n - 1) fun a b => g (1 + a) b)), .w fnFair, ri ((n - 1 : Nat) : Int), ri i] 0 19, mT s n g⟩ (LFair.d.obs 1) =
  bif decide (i < ((n - 1 : Nat) : Int)) then
  bif decide (0 ≤ i) && decide (i < (↑(n - 1) : Int)) && true then
    bif tarG n 2 (rowI g) && (szG s n && (decide (0 ≤ classB n (cz n 2 g) (IntKind.i64.wrap (g (1 + i.toNat) 0 - 1))) && decide (classB n (cz n 2 g) (IntKind.i64.wrap (g (1 + i.toNat) 0 - 1)) < (↑n : Int)))) then
      bif tarG n 2 (rowI g) && (szG s n && (decide (0 ≤ classB n (cz n 2 g) (g (1 + i.toNat) 0)) && decide (classB n (cz n 2 g) (g (1 + i.toNat) 0) < (↑n : Int)))) then
        bif decide (valueB n (cz n 2 g) (g (1 + i.toNat) 0) < valueB n (cz n 2 g) (IntKind.i64.wrap (g (1 + i.toNat) 0 - 1))) then some (Ex.ret, [ri i], mT s n g)
        else some (Ex.norm, [.w (.one (sl (n - 1) fun a b => g (1 + a) b)), .w fnFair, ri ((n - 1 : Nat) : Int), ri (IntKind.i64.wrap (i + 1))], mT s n g)
      else none
    else none
  else none
  else some (Ex.exit 0, [V.any], mT s n g) := by kernel_rfl

theorem outW_f {w : Int} (h0 : 0 ≤ w) (h1 : w ≤ 1000000) : outW w = false := by
  unfold outW
  simp only [Bool.or_eq_false_iff, decide_eq_false_iff_not]; omega
theorem szG_iff {s : ByteArray} {n : Nat} : szG s n = true ↔ s.size ≤ 1000000 ∧ n ≤ 1000000 := by unfold szG; simp

theorem loopFair : LoopC Tryd.prog (loopAt Tryd.f58 0) LFair.d.g := by
  refine loopC_st LFair G9_ok (pl := noPl) PlOK.none 3 (ls := []) LsOK.nil
    (fun (s, n, g, i) => ([.w (.one (sl (n - 1) fun a b => g (1 + a) b)), .w fnFair, ri ((n - 1 : Nat) : Int), ri i], mT s n g))
    (fun (s, n, g, i) => 0 ≤ i ∧ szG s n = true ∧ validB s n g = true) (fun (_, n, _, i) => n - 1 - i.toNat) ?_ ?_
  · intro vals mem st h
    simp only [LFair] at h
    split at h <;> try (cases h; done)
    simp only [Option.some.injEq, Prod.mk.injEq, Bool.and_eq_true, decide_eq_true_eq] at h
    obtain ⟨⟨h1, h2, h3, h4, h5, h6⟩, rfl⟩ := h
    subst h6
    obtain rfl := sameC_elim h5
    obtain ⟨g, rfl⟩ := isI_elim h4
    exact ⟨⟨h1, h2, h3⟩, rfl⟩
  · rintro ⟨s, n, g, i⟩ ⟨hi, hz, hv⟩
    have ht := tFairL s n g i
    have V := valid_iff.1 hv
    have := V.few
    simp only [LFair] at ht ⊢
    rw [show (mT s n g).length = 1 from rfl, ht]
    by_cases hlt : i < ((n - 1 : Nat) : Int)
    · have hk : i.toNat < n - 1 := by omega
      have hw : IntKind.i64.wrap (i + 1) = i + 1 := wrap_id (by omega) (by omega)
      have hn : (i + 1).toNat = i.toNat + 1 := by omega
      have hg0 := V.from_le (1 + i.toNat) (by omega)
      have hg1 := V.mono (i := 0) (j := 1 + i.toNat) (by omega) (by omega)
      rw [V.zero] at hg1
      have hw1 : IntKind.i64.wrap (g (1 + i.toNat) 0 - 1) = g (1 + i.toNat) 0 - 1 := wrap_id (by omega) (by omega)
      obtain ⟨a1, a2⟩ := class_in hv (outW_f (w := g (1 + i.toNat) 0) (by omega) (by omega))
      obtain ⟨b1, b2⟩ := class_in hv (outW_f (w := g (1 + i.toNat) 0 - 1) (by omega) (by omega))
      simp only [hlt, hi, hw, hw1, hz, tarG_rowI, classB_cz, valueB_cz a1 a2, valueB_cz b1 b2, a1, a2, b1, b2, decide_true, Bool.and_true, cond_true, RT.r]
      rw [ffrom_step hk]
      change _ ∨ ((bif unf n g i.toNat then _ else _) = _ ∧ _)
      by_cases hp : unf n g i.toNat = true
      · right
        simp only [hp, cond_true, hk, decide_true, show ((i.toNat : Nat) : Int) = i by omega]
        exact ⟨trivial, fun h => by cases h⟩
      · left
        refine ⟨(s, n, g, i + 1), ?_, ⟨(by omega : (0 : Int) ≤ i + 1), hz, hv⟩, ?_, ?_⟩
        · change (bif unf n g i.toNat then _ else _) = _
          simp only [hp, cond_false]
        · simp only; omega
        · simp only [hn, hp, cond_false]
    · right
      rw [ffrom_end (by omega)]
      have : ¬ i.toNat < n - 1 := by omega
      simp only [hlt, this, decide_false, cond_false, RT.r]
      exact ⟨trivial, fun h => by cases h⟩

end
end Sh
end Go.Proofs.YtamdjlpobonmiaaDoor

/- Fair, Own, Total and Least of the program. -/
namespace Go.Proofs.YtamdjlpobonmiaaDoor
namespace Sh
set_option maxRecDepth 100000

noncomputable section

/- Fair. -/
def plFair : Plans := addP noPl 58 [some LFair.d.g]
theorem plFair_ok : PlOK Tryd.prog plFair := addP_ok PlOK.none (fn := Tryd.f58) (by kernel_rfl) (LsOK.one (x := loopAt Tryd.f58 0) (ls := []) (by kernel_rfl) loopFair)
theorem tFair (s : ByteArray) (n : Nat) (g : Nat → Nat → Int) : fnW Tryd.prog G9 plFair 6 [] Tryd.f19 [tar s n g] =
  bif (tarG n 2 (rowI g)) && szG s n then
  bif validB s n (cz n 2 g) then
  bif decide (1 ≤ (↑n : Int)) && decide ((↑n : Int) ≤ (↑n : Int)) && true then
  bif szG s n && (validB s n g && ((isI (rowI g)) && (sameC (C.d (D.slc (n - 1) 2 fun i j => D.int IntKind.i64 (g (1 + i) j))) (C.d (D.slc (n - 1) 2 fun a b => D.int IntKind.i64 (g (1 + a) b))) && decide ((↑(n - 1) : Int) = (↑(n - 1) : Int))))) then
  bif decide (ffrom (unf n g) (n - 1) (Int.toNat 0) < n - 1) then some (rb false)
  else some (rb true)
  else none
  else none
  else some (rb false)
  else none := by kernel_rfl

def fairB (s : ByteArray) (n : Nat) (g : Nat → Nat → Int) : Bool := validB s n g && !decide (ffrom (unf n g) (n - 1) 0 < n - 1)
theorem fair_ent (s : ByteArray) (n : Nat) (g : Nat → Nat → Int) (h : szG s n = true) : EntOK Tryd.prog 19 [tar s n g] (rb (fairB s n g)) := by
  refine ent_fnW (fn := Tryd.f19) G9_ok plFair_ok (n := 6) (ls := []) (by kernel_rfl) (by kernel_rfl) LsOK.nil ?_ rfl rfl rfl
  rw [tFair, validB_cz]
  unfold fairB
  simp only [h, tarG_rowI, Bool.and_self, cond_true]
  cases hv : validB s n g with
  | false => rfl
  | true =>
    have V := valid_iff.1 hv
    have h1 : (1 : Int) ≤ n := by have := V.one; omega
    have hI : isI (rowI g) = true := isI_lit g
    simp only [h1, hI, sameC_refl, Int.le_refl, decide_true, Bool.and_self, cond_true, Bool.true_and]
    change (bif decide (ffrom (unf n g) (n - 1) 0 < n - 1) then _ else _) = _
    cases decide (ffrom (unf n g) (n - 1) 0 < n - 1) <;> rfl

/- Own. -/
def mO (s : ByteArray) (n k : Nat) (g : Nat → Nat → Int) : List B := [.var [.d (.str s), sl n g], .var [.d (.str ⟨#[]⟩), .own 2 0 2 dg], .tick 0 2, .tick k 2, .var [.d (.str s), .own 3 k 2 (cd k 2 (rowI g))], .tick 0 2]
def LOwn : LoopQ (ByteArray × Nat × (Nat → Nat → Int) × Nat) where
  N := 24
  live := [1, 2, 3, 10, 11, 12]
  liveX := [2, 3]
  ext _ mem := match mem.getD 0 .gone with
    | .var [.d (.str s), .d (.slc n _ g)] => some (s, n, toI g, 0)
    | _ => none
  pre := fun (s, n, _, k) => szG s n && decide (k ≤ n)
  head := fun (s, n, g, k) => ([.w (.one (.ptr 0 0)), .w (.one (.ptr 1 0)), .w (.one (.ptr 4 0)), .w (.one (sl n g)), ri (n : Int), ri k], mO s n k g)
  res := fun (s, n, g, _) => .out (.exit 0) [.w (.one (.ptr 1 0)), .w (.one (.ptr 4 0))] (mO s n n g)
theorem tOwnL (s : ByteArray) (n k : Nat) (g : Nat → Nat → Int) : evN Tryd.prog G9 noPl 3 [] (loopAt Tryd.f16 0) ⟨spread [1, 2, 3, 10, 11, 12] [.w (.one (.ptr 0 0)), .w (.one (.ptr 1 0)), .w (.one (.ptr 4 0)), .w (.one (sl n g)), ri (n : Int), ri k] 0 24, mO s n k g⟩ (LOwn.s.d.obs 6) =
  bif decide ((↑k : Int) < (↑n : Int)) then
  bif decide ((↑k : Int) < (↑n : Int)) && true then
  bif k.beq k && (k + 1).ble 8278675785607 then some (Ex.norm, [V.w (U.one (C.ptr 0 0)), V.w (U.one (C.ptr 1 0)), V.w (U.one (C.ptr 4 0)), V.w (U.one (sl n g)), ri (↑n : Int), ri (IntKind.i64.wrap ((↑k : Int) + 1))], [B.var [C.d (D.str s), sl n g], B.var [C.d (D.str ⟨#[]⟩), C.own 2 0 2 dg], B.tick 0 2, B.tick (k + 1) 2, B.var [C.d (D.str s), C.own 3 (k + 1) 2 (appGet k (cd k 2 (rowI g)) fun a j => [D.int IntKind.i64 (g k 0), D.int IntKind.i64 (g k 1)].getD (a * 2 + j) D.nil)], B.tick 0 2])
  else none
  else none
  else some (Ex.exit 0, [V.w (U.one (C.ptr 1 0)), V.w (U.one (C.ptr 4 0))], [B.var [C.d (D.str s), sl n g], B.var [C.d (D.str ⟨#[]⟩), C.own 2 0 2 dg], B.tick 0 2, B.tick k 2, B.var [C.d (D.str s), C.own 3 k 2 (cd k 2 (rowI g))], B.tick 0 2]) := by kernel_rfl

theorem cd_zero {e : Nat} {g : Nat → Nat → D} : cd 0 e g = dg := by
  funext i j
  unfold cd dg
  rw [blt_f (Nat.not_lt_zero i)]; rfl
/-- A row grows by one. -/
theorem cd_grow {k e : Nat} {g x : Nat → Nat → D} (h : ∀ i j, x i j = bif Nat.blt i 1 && Nat.blt j e then g k j else .nil) : appGet k (cd k e g) x = cd (k + 1) e g := by
  funext i j
  unfold appGet cd
  by_cases hi : i < k
  · rw [show Nat.blt i k = true by simpa using hi, show Nat.blt i (k + 1) = true by simpa using (by omega : i < k + 1)]; rfl
  · rw [blt_f hi, cond_false, h]
    by_cases e1 : i = k
    · subst e1
      rw [Nat.sub_self, show Nat.blt i (i + 1) = true by simp]; rfl
    · rw [blt_f (by omega : ¬ i - k < 1), blt_f (by omega : ¬ i < k + 1)]; rfl
theorem two_row (x y : D) (i j : Nat) : [x, y].getD (i * 2 + j) D.nil = bif Nat.blt i 1 && Nat.blt j 2 then (match j with | 0 => x | _ => y) else .nil := by
  match i, j with
  | 0, 0 => rfl
  | 0, 1 => rfl
  | 0, j + 2 => rw [show 0 * 2 + (j + 2) = j + 2 by omega, blt_f (by omega : ¬ j + 2 < 2)]; rfl
  | i + 1, j => rw [show (i + 1) * 2 + j = (i * 2 + j) + 2 by omega, blt_f (by omega : ¬ i + 1 < 1)]; rfl
theorem own_grow {k : Nat} {g : Nat → Nat → Int} : appGet k (cd k 2 (rowI g)) (fun a j => [D.int IntKind.i64 (g k 0), D.int IntKind.i64 (g k 1)].getD (a * 2 + j) D.nil) = cd (k + 1) 2 (rowI g) := by
  refine cd_grow fun i j => ?_
  rw [two_row]
  by_cases hj : j < 2
  · match j, hj with
    | 0, _ => rfl
    | 1, _ => rfl
  · rw [blt_f hj]; simp

theorem loopOwn : LoopC Tryd.prog (loopAt Tryd.f16 0) LOwn.g := by
  refine loopC_q LOwn G9_ok (pl := noPl) PlOK.none 3 (ls := []) LsOK.nil (fun (s, n, g, k) => szG s n = true ∧ k ≤ n) (fun (_, n, _, k) => n - k) ?_ ?_
  · rintro ⟨s, n, g, k⟩ h
    simpa [LOwn] using h
  · rintro ⟨s, n, g, k⟩ ⟨hz, hk⟩
    have ht := tOwnL s n k g
    simp only [LOwn] at ht ⊢
    rw [show (mO s n k g).length = 6 from rfl, ht]
    rw [szG_iff] at hz
    by_cases hlt : k < n
    · left
      have h1 : (k : Int) < n := by omega
      have h2 : (k + 1).ble 8278675785607 = true := by simp; omega
      have hw : IntKind.i64.wrap ((k : Int) + 1) = ((k + 1 : Nat) : Int) := by rw [wrap_id (by omega) (by omega)]; omega
      refine ⟨(s, n, g, k + 1), ?_, ⟨szG_iff.2 hz, hlt⟩, ?_, rfl⟩
      · simp only [h1, h2, hw, Nat.beq_refl, decide_true, Bool.and_self, cond_true, Option.some.injEq, Prod.mk.injEq, true_and, mO]
        change _ = [_, _, _, _, B.var [_, C.own 3 (k + 1) 2 _], _]
        rw [← own_grow]
      · simp only; omega
    · right
      obtain rfl : k = n := by omega
      simp only [Int.lt_irrefl, decide_false, cond_false]
      exact ⟨rfl, fun h => by cases h⟩

def plOwn : Plans := noPl
theorem tOwn (s : ByteArray) (n : Nat) (g : Nat → Nat → Int) : fnW Tryd.prog G9 noPl 6 [some LOwn.g] Tryd.f16 [tar s n g] =
  bif szG s n && true && sameM ([V.w (U.one (C.ptr 0 0)), V.w (U.one (C.ptr 1 0)), V.w (U.one (C.ptr 4 0)), V.w (U.one (sl n g)), ri (↑n : Int), ri 0], [B.var [C.d (D.str s), sl n g], B.var [C.d (D.str ⟨#[]⟩), C.own 2 0 2 dg], B.tick 0 2, B.tick 0 2, B.var [C.d (D.str s), C.own 3 0 2 dg], B.tick 0 2]) ([V.w (U.one (C.ptr 0 0)), V.w (U.one (C.ptr 1 0)), V.w (U.one (C.ptr 4 0)), V.w (U.one (C.d (D.slc n 2 fun i j => D.int IntKind.i64 (toI (rowI g) i j)))), ri (↑n : Int), ri 0], [B.var [C.d (D.str s), C.d (D.slc n 2 fun i j => D.int IntKind.i64 (toI (rowI g) i j))], B.var [C.d (D.str ⟨#[]⟩), C.own 2 0 2 dg], B.tick 0 2, B.tick 0 2, B.var [C.d (D.str s), C.own 3 0 2 (cd 0 2 (rowI g))], B.tick 0 2]) then some (V.w (U.agg [C.d (D.str s), C.own 3 n 2 (cd n 2 (rowI g))]))
  else none := by kernel_rfl
def tarO (s : ByteArray) (n : Nat) (g : Nat → Nat → Int) : U := .agg [.d (.str s), .d (.slc n 2 (cd n 2 (rowI g)))]
theorem own_ent (s : ByteArray) (n : Nat) (g : Nat → Nat → Int) (h : szG s n = true) : EntOK Tryd.prog 16 [tar s n g] (.w (tarO s n g)) := by
  refine ent_of_fnW (fn := Tryd.f16) G9_ok (pl := noPl) PlOK.none (n := 6) (ls := [some LOwn.g]) (v := .w (.agg [.d (.str s), .own 3 n 2 (cd n 2 (rowI g))])) (by kernel_rfl) (by kernel_rfl) (fun c hc => ?_) ?_ rfl rfl
  · have e : bodyOf Tryd.f16 = c := by simp only [bodyOf, hc, Option.getD_some]
    rw [← e]
    exact LsOK.one (x := loopAt Tryd.f16 0) (ls := []) (by kernel_rfl) loopOwn
  · rw [tOwn]
    rw [sameM_of]
    · simp only [h, Bool.and_self, cond_true]
    · simp only [mO, cd_zero]; rfl

end
end Sh
end Go.Proofs.YtamdjlpobonmiaaDoor

/- Total and Least of the program. -/
namespace Go.Proofs.YtamdjlpobonmiaaDoor
namespace Sh
set_option maxRecDepth 100000

noncomputable section

/- Total. -/
def totF (n : Nat) (g gw : Nat → Nat → Int) (k i : Nat) (sum : Int) : Int := (List.range' i (k - i)).foldl (fun a j => IntKind.i64.wrap (a + valueB n g (gw j 0))) sum
theorem totF_step {n : Nat} {g gw : Nat → Nat → Int} {k i : Nat} {sum : Int} (h : i < k) : totF n g gw k i sum = totF n g gw k (i + 1) (IntKind.i64.wrap (sum + valueB n g (gw i 0))) := by
  unfold totF
  rw [show k - i = (k - (i + 1)) + 1 by omega, List.range'_succ, List.foldl_cons]
theorem totF_end {n : Nat} {g gw : Nat → Nat → Int} {k i : Nat} {sum : Int} (h : k ≤ i) : totF n g gw k i sum = sum := by
  unfold totF
  rw [show k - i = 0 by omega]; rfl

theorem outFrom_all {k : Nat} {gw : Nat → Nat → Int} : ∀ (m i : Nat), m = k - i → i ≤ k → (outFrom k gw i = k ↔ ∀ j, i ≤ j → j < k → outW (gw j 0) = false) := by
  intro m
  induction m with
  | zero =>
    intro i h hi
    rw [outFrom_end (by omega)]
    exact ⟨fun _ j h1 h2 => by omega, fun _ => by omega⟩
  | succ m ih =>
    intro i h hi
    rw [outFrom_step (by omega)]
    cases hp : outW (gw i 0) with
    | true =>
      simp only [cond_true]
      refine ⟨fun e => by omega, fun h1 => ?_⟩
      have := h1 i (Nat.le_refl _) (by omega)
      rw [hp] at this; cases this
    | false =>
      simp only [cond_false]
      rw [ih (i + 1) (by omega) (by omega)]
      refine ⟨fun h1 j h2 h3 => ?_, fun h1 j h2 h3 => h1 j (by omega) h3⟩
      by_cases e : j = i
      · rw [e]; exact hp
      · exact h1 j (by omega) h3
theorem outFrom_le {k : Nat} {gw : Nat → Nat → Int} {i : Nat} (h : i ≤ k) : outFrom k gw i ≤ k := by
  unfold outFrom
  have h1 : ((List.range' i (k - i)).takeWhile fun j => !outW (gw j 0)).length ≤ (List.range' i (k - i)).length := (List.takeWhile_sublist _).length_le
  rw [List.length_range'] at h1
  omega

structure TW where
  s : ByteArray
  n : Nat
  g : Nat → Nat → Int
  k : Nat
  gw : Nat → Nat → Int
  i : Nat
  sum : Int

def LTot : LoopQ TW where
  N := 36
  live := [2, 7, 23, 24, 25]
  liveX := [7]
  ext vals mem := match mem.getD 0 .gone, vals.getD 1 .any, vals.getD 2 .any, vals.getD 4 .any with
    | .var [.d (.str s), .d (.slc n _ g)], .w (.one (.d (.int _ sum))), .w (.one (.d (.slc k _ gw))), .w (.one (.d (.int _ i))) => some ⟨s, n, toI g, k, toI gw, i.toNat, sum⟩
    | _, _, _, _ => none
  pre t := szG t.s t.n && (validB t.s t.n t.g && (decide (t.k ≤ 1000) && (decide (outFrom t.k t.gw 0 = t.k) && decide (t.i ≤ t.k))))
  head t := ([.w (.one (.ptr 0 0)), ri t.sum, .w (.one (sl1 t.k t.gw)), ri (t.k : Int), ri t.i], mT t.s t.n t.g)
  res t := .out (.exit 0) [ri (totF t.n t.g t.gw t.k t.i t.sum)] (mT t.s t.n t.g)
theorem tTotL (s : ByteArray) (n : Nat) (g : Nat → Nat → Int) (k : Nat) (gw : Nat → Nat → Int) (i : Nat) (sum : Int) : evN Tryd.prog G9 noPl 3 [] (loopAt Tryd.f26 0) ⟨spread [2, 7, 23, 24, 25] [.w (.one (.ptr 0 0)), ri sum, .w (.one (sl1 k gw)), ri (k : Int), ri i] 0 36, mT s n g⟩ (LTot.s.d.obs 1) =
  bif decide ((↑i : Int) < (↑k : Int)) then
  bif decide ((↑i : Int) < (↑k : Int)) && true then
  bif (tarG n 2 (rowI g)) && (szG s n && (decide (0 ≤ classB n (cz n 2 g) (gw i 0)) && decide (classB n (cz n 2 g) (gw i 0) < (↑n : Int)))) then some (Ex.norm, [V.w (U.one (C.ptr 0 0)), ri (IntKind.i64.wrap (sum + valueB n (cz n 2 g) (gw i 0))), V.w (U.one (sl1 k gw)), ri (↑k : Int), ri (IntKind.i64.wrap ((↑i : Int) + 1))], (mT s n g))
  else none
  else none
  else some (Ex.exit 0, [ri sum], (mT s n g)) := by kernel_rfl

theorem loopTot : LoopC Tryd.prog (loopAt Tryd.f26 0) LTot.g := by
  refine loopC_q LTot G9_ok (pl := noPl) PlOK.none 3 (ls := []) LsOK.nil (fun t => szG t.s t.n = true ∧ validB t.s t.n t.g = true ∧ t.k ≤ 1000 ∧ (∀ j, j < t.k → outW (t.gw j 0) = false) ∧ t.i ≤ t.k) (fun t => t.k - t.i) ?_ ?_
  · rintro ⟨s, n, g, k, gw, i, sum⟩ h
    simp only [LTot, Bool.and_eq_true, decide_eq_true_eq] at h
    obtain ⟨h1, h2, h3, h4, h5⟩ := h
    rw [outFrom_all _ 0 rfl (Nat.zero_le _)] at h4
    exact ⟨h1, h2, h3, fun j hj => h4 j (Nat.zero_le _) hj, h5⟩
  · rintro ⟨s, n, g, k, gw, i, sum⟩ ⟨hz, hv, hk, ho, hi⟩
    have ht := tTotL s n g k gw i sum
    simp only [LTot] at hz hv hk ho hi ht ⊢
    rw [show (mT s n g).length = 1 from rfl, ht]
    by_cases hlt : i < k
    · left
      have h1 : (i : Int) < k := by omega
      have hw : IntKind.i64.wrap ((i : Int) + 1) = ((i + 1 : Nat) : Int) := by rw [wrap_id (by omega) (by omega)]; omega
      obtain ⟨a1, a2⟩ := class_in hv (ho i hlt)
      refine ⟨⟨s, n, g, k, gw, i + 1, IntKind.i64.wrap (sum + valueB n g (gw i 0))⟩, ?_, ⟨hz, hv, hk, ho, hlt⟩, ?_, ?_⟩
      · simp only [h1, hw, hz, tarG_rowI, classB_cz, valueB_cz a1 a2, a1, a2, decide_true, Bool.and_self, cond_true]
      · simp only; omega
      · simp only [RT.r, totF_step hlt]
    · right
      obtain rfl : i = k := by omega
      simp only [Int.lt_irrefl, decide_false, cond_false, RT.r, totF_end (Nat.le_refl _)]
      exact ⟨trivial, fun h => by cases h⟩

theorem tTot (s : ByteArray) (n : Nat) (g : Nat → Nat → Int) (k : Nat) (gw : Nat → Nat → Int) : fnW Tryd.prog G9 noPl 6 [some LTot.g] Tryd.f26 [tar s n g, .one (sl1 k gw)] =
  bif (tarG n 2 (rowI g)) && (szG s n && (decide (k ≤ 1000000) && isR k 1 (rowI gw))) then
  bif !decide (rightB s n (cz n 2 g) k (cz k 1 gw) = 1) then
  bif decide (1000 < (↑k : Int)) then some (V.tup [ui 0, ui 3]) else
  bif !decide (rightB s n (cz n 2 g) k (cz k 1 gw) = 0) then some (V.tup [ui 0, ui (rightB s n (cz n 2 g) k (cz k 1 gw))]) else
  bif szG s n && (validB s n g && (decide (k ≤ 1000) && (decide (outFrom k gw 0 = k) && true))) && sameM ([V.w (U.one (C.ptr 0 0)), ri 0, V.w (U.one (sl1 k gw)), ri (↑k : Int), ri 0], (mT s n g)) ([V.w (U.one (C.ptr 0 0)), ri 0, V.w (U.one (sl1 k gw)), ri (↑k : Int), ri 0], (mT s n g)) then some (V.tup [ui (totF n g gw k 0 0), ui 0])
  else none else
  bif !decide (rightB s n (cz n 2 g) k (cz k 1 gw) = 0) then some (V.tup [ui 0, ui (rightB s n (cz n 2 g) k (cz k 1 gw))]) else
  bif szG s n && (validB s n g && (decide (k ≤ 1000) && (decide (outFrom k gw 0 = k) && true))) && sameM ([V.w (U.one (C.ptr 0 0)), ri 0, V.w (U.one (sl1 k gw)), ri (↑k : Int), ri 0], (mT s n g)) ([V.w (U.one (C.ptr 0 0)), ri 0, V.w (U.one (sl1 k gw)), ri (↑k : Int), ri 0], (mT s n g)) then some (V.tup [ui (totF n g gw k 0 0), ui 0])
  else none
  else none := by kernel_rfl

theorem outFrom_cz {k : Nat} {gw : Nat → Nat → Int} : ∀ (m i : Nat), m = k - i → outFrom k (cz k 1 gw) i = outFrom k gw i := by
  intro m
  induction m with
  | zero => intro i h; rw [outFrom_end (by omega), outFrom_end (by omega)]
  | succ m ih =>
    intro i h
    rw [outFrom_step (gw := cz k 1 gw) (i := i) (by omega), outFrom_step (gw := gw) (i := i) (by omega), ih (i + 1) (by omega), cz_in (by omega) (by omega)]
theorem rightB_cz {s : ByteArray} {n : Nat} {g : Nat → Nat → Int} {k : Nat} {gw : Nat → Nat → Int} : rightB s n (cz n 2 g) k (cz k 1 gw) = rightB s n g k gw := by
  unfold rightB
  rw [validB_cz, outFrom_cz _ 0 rfl]

/-- The sum of values: the number and the error. -/
def totB (s : ByteArray) (n : Nat) (g : Nat → Nat → Int) (k : Nat) (gw : Nat → Nat → Int) : Int × Int :=
  bif validB s n g then (bif decide (1000 < k) then (0, 3) else bif decide (outFrom k gw 0 < k) then (0, 2) else (totF n g gw k 0 0, 0)) else (0, 1)
theorem tot_ent (s : ByteArray) (n : Nat) (g : Nat → Nat → Int) (k : Nat) (gw : Nat → Nat → Int) (h : szG s n = true) (hk : k ≤ 1000000) : EntOK Tryd.prog 26 [tar s n g, .one (sl1 k gw)] (rt (totB s n g k gw).1 (totB s n g k gw).2) := by
  refine ent_fnW (fn := Tryd.f26) G9_ok (pl := noPl) PlOK.none (n := 6) (ls := [some LTot.g]) (by kernel_rfl) (by kernel_rfl) (LsOK.one (x := loopAt Tryd.f26 0) (ls := []) (by kernel_rfl) loopTot) ?_ rfl rfl rfl
  rw [tTot, rightB_cz]
  rw [sameM_of rfl]
  have hI : isR k 1 (rowI gw) = true := isR_rowI
  simp only [h, hk, hI, tarG_rowI, decide_true, Bool.and_self, Bool.and_true, cond_true]
  unfold rightB totB
  have e1 : ((1000 : Int) < (k : Int)) ↔ 1000 < k := by omega
  simp only [e1]
  cases hv : validB s n g with
  | false => simp only [cond_false, decide_true, Bool.not_true, show decide ((1 : Int) = 0) = false by decide, Bool.not_false, cond_true]; rfl
  | true =>
    by_cases h1 : 1000 < k
    · simp only [h1, decide_true, cond_true]
      cases decide (outFrom k gw 0 < k) <;> rfl
    · have h2 : k ≤ 1000 := by omega
      by_cases h3 : outFrom k gw 0 < k
      · simp only [h1, h3, decide_true, decide_false, cond_true, cond_false]; rfl
      · have h4 : outFrom k gw 0 = k := by have := outFrom_le (k := k) (gw := gw) (i := 0) (Nat.zero_le _); omega
        simp only [h1, h2, h3, h4, decide_true, decide_false, cond_true, cond_false]
        simp; rfl

/- Least. -/
def lastB (n : Nat) (g : Nat → Nat → Int) (i : Nat) : Int := bif decide (i + 1 < n) then g (i + 1) 0 - 1 else 1000000
def leastW (g : Nat → Nat → Int) (w : Int) (i : Nat) : Int := if (w * 1000 + g i 1 - 1).tdiv (g i 1) > g i 0 then (w * 1000 + g i 1 - 1).tdiv (g i 1) else g i 0
def leaP (n : Nat) (g : Nat → Nat → Int) (w : Int) (i : Nat) : Bool := !decide (g i 1 = 0) && decide (leastW g w i ≤ lastB n g i)

structure TL where
  s : ByteArray
  n : Nat
  g : Nat → Nat → Int
  w : Int
  i : Nat
def LLea : LoopQ TL where
  N := 62
  live := [1, 2, 21, 22, 23]
  liveX := [4, 5]
  ext vals mem := match mem.getD 0 .gone, vals.getD 0 .any, vals.getD 4 .any with
    | .var [.d (.str s), .d (.slc n _ g)], .w (.one (.d (.int _ w))), .w (.one (.d (.int _ i))) => some ⟨s, n, toI g, w, i.toNat⟩
    | _, _, _ => none
  pre t := szG t.s t.n && (validB t.s t.n t.g && (decide (0 < t.w) && (decide (t.w ≤ 1000000000) && decide (t.i ≤ t.n))))
  head t := ([ri t.w, .w (.one (.ptr 0 0)), .w (.one (sl t.n t.g)), ri (t.n : Int), ri t.i], mT t.s t.n t.g)
  res t := .br (decide (ffrom (leaP t.n t.g t.w) t.n t.i < t.n)) (.out .ret [ri (leastW t.g t.w (ffrom (leaP t.n t.g t.w) t.n t.i)), ri 0] (mT t.s t.n t.g)) (.out (.exit 1) [.any, .any] (mT t.s t.n t.g))
theorem tLeaL (s : ByteArray) (n : Nat) (g : Nat → Nat → Int) (w : Int) (i : Nat) : evN Tryd.prog G9 noPl 3 [] (loopAt Tryd.f27 0) ⟨spread [1, 2, 21, 22, 23] [ri w, .w (.one (.ptr 0 0)), .w (.one (sl n g)), ri (n : Int), ri i] 0 62, mT s n g⟩ (LLea.s.d.obs 1) =
  bif decide ((↑i : Int) < (↑n : Int)) then
  bif decide ((↑i : Int) < (↑n : Int)) && true then
  bif decide (IntKind.i64.wrap ((↑i : Int) + 1) < (↑n : Int)) then
  bif decide (0 ≤ IntKind.i64.wrap ((↑i : Int) + 1)) && decide (IntKind.i64.wrap ((↑i : Int) + 1) < (↑n : Int)) && true then
  bif decide (g i 1 = 0) then some (Ex.norm, [ri w, V.w (U.one (C.ptr 0 0)), V.w (U.one (sl n g)), ri (↑n : Int), ri (IntKind.i64.wrap ((↑i : Int) + 1))], (mT s n g)) else
  bif !decide (g i 1 = 0) then
  bif decide ((if IntKind.i64.wrap ((IntKind.i64.wrap (IntKind.i64.wrap (IntKind.i64.wrap (w * 1000) + g i 1) - 1)).tdiv (g i 1)) > g i 0 then IntKind.i64.wrap ((IntKind.i64.wrap (IntKind.i64.wrap (IntKind.i64.wrap (w * 1000) + g i 1) - 1)).tdiv (g i 1))
  else g i 0) ≤ IntKind.i64.wrap (g (IntKind.i64.wrap ((↑i : Int) + 1)).toNat 0 - 1)) then some (Ex.ret, [ri (if IntKind.i64.wrap ((IntKind.i64.wrap (IntKind.i64.wrap (IntKind.i64.wrap (w * 1000) + g i 1) - 1)).tdiv (g i 1)) > g i 0 then IntKind.i64.wrap ((IntKind.i64.wrap (IntKind.i64.wrap (IntKind.i64.wrap (w * 1000) + g i 1) - 1)).tdiv (g i 1))
  else g i 0), ri 0], (mT s n g))
  else some (Ex.norm, [ri w, V.w (U.one (C.ptr 0 0)), V.w (U.one (sl n g)), ri (↑n : Int), ri (IntKind.i64.wrap ((↑i : Int) + 1))], (mT s n g))
  else none
  else none else
  bif decide (g i 1 = 0) then some (Ex.norm, [ri w, V.w (U.one (C.ptr 0 0)), V.w (U.one (sl n g)), ri (↑n : Int), ri (IntKind.i64.wrap ((↑i : Int) + 1))], (mT s n g)) else
  bif !decide (g i 1 = 0) then
  bif decide ((if IntKind.i64.wrap ((IntKind.i64.wrap (IntKind.i64.wrap (IntKind.i64.wrap (w * 1000) + g i 1) - 1)).tdiv (g i 1)) > g i 0 then IntKind.i64.wrap ((IntKind.i64.wrap (IntKind.i64.wrap (IntKind.i64.wrap (w * 1000) + g i 1) - 1)).tdiv (g i 1))
  else g i 0) ≤ 1000000) then some (Ex.ret, [ri (if IntKind.i64.wrap ((IntKind.i64.wrap (IntKind.i64.wrap (IntKind.i64.wrap (w * 1000) + g i 1) - 1)).tdiv (g i 1)) > g i 0 then IntKind.i64.wrap ((IntKind.i64.wrap (IntKind.i64.wrap (IntKind.i64.wrap (w * 1000) + g i 1) - 1)).tdiv (g i 1))
  else g i 0), ri 0], (mT s n g))
  else some (Ex.norm, [ri w, V.w (U.one (C.ptr 0 0)), V.w (U.one (sl n g)), ri (↑n : Int), ri (IntKind.i64.wrap ((↑i : Int) + 1))], (mT s n g))
  else none
  else none
  else some (Ex.exit 1, [V.any, V.any], (mT s n g)) := by kernel_rfl
theorem lea_q {g : Nat → Nat → Int} {w p : Int} (h0 : 0 < w) (h1 : w ≤ 1000000000) (hp : 0 ≤ p) (hq : p ≤ 1000000) (hne : p ≠ 0) :
    IntKind.i64.wrap ((IntKind.i64.wrap (IntKind.i64.wrap (IntKind.i64.wrap (w * 1000) + p) - 1)).tdiv p) = (w * 1000 + p - 1).tdiv p := by
  have e1 : IntKind.i64.wrap (w * 1000) = w * 1000 := wrap_id (by omega) (by omega)
  rw [e1]
  have e2 : IntKind.i64.wrap (w * 1000 + p) = w * 1000 + p := wrap_id (by omega) (by omega)
  rw [e2]
  have e3 : IntKind.i64.wrap (w * 1000 + p - 1) = w * 1000 + p - 1 := wrap_id (by omega) (by omega)
  rw [e3]
  rw [Int.tdiv_eq_ediv_of_nonneg (by omega)]
  have a1 : 0 ≤ (w * 1000 + p - 1) / p := Int.ediv_nonneg (by omega) hp
  have a2 : (w * 1000 + p - 1) / p ≤ w * 1000 + p - 1 := Int.ediv_le_self _ (by omega)
  exact wrap_id (by omega) (by omega)

theorem loopLea : LoopC Tryd.prog (loopAt Tryd.f27 0) LLea.g := by
  refine loopC_q LLea G9_ok (pl := noPl) PlOK.none 3 (ls := []) LsOK.nil (fun t => szG t.s t.n = true ∧ validB t.s t.n t.g = true ∧ 0 < t.w ∧ t.w ≤ 1000000000 ∧ t.i ≤ t.n) (fun t => t.n - t.i) ?_ ?_
  · rintro ⟨s, n, g, w, i⟩ h
    simpa [LLea] using h
  · rintro ⟨s, n, g, w, i⟩ ⟨hz, hv, hw0, hw1, hi⟩
    have ht := tLeaL s n g w i
    simp only [LLea] at hz hv hw0 hw1 hi ht ⊢
    rw [show (mT s n g).length = 1 from rfl, ht]
    have Vh := valid_iff.1 hv
    have hfew := Vh.few
    by_cases hlt : i < n
    · have h1 : (i : Int) < n := by omega
      have hw : IntKind.i64.wrap ((i : Int) + 1) = ((i + 1 : Nat) : Int) := by rw [wrap_id (by omega) (by omega)]; omega
      have hlast : (bif decide (((i + 1 : Nat) : Int) < (n : Int)) then IntKind.i64.wrap (g (i + 1) 0 - 1) else 1000000) = lastB n g i := by
        unfold lastB
        by_cases h2 : i + 1 < n
        · have h3 : ((i + 1 : Nat) : Int) < n := by omega
          have := Vh.from0 h2
          have := Vh.from_le _ h2
          simp only [h2, h3, decide_true, cond_true]
          exact wrap_id (by omega) (by omega)
        · have h3 : ¬ ((i + 1 : Nat) : Int) < n := by omega
          simp only [h2, h3, decide_false, cond_false]
      have key : (leaP n g w i = true ∧ (LLea.res ⟨s, n, g, w, i⟩).r = (.ret, [ri (leastW g w i), ri 0], mT s n g)) ∨ (leaP n g w i = false ∧ (LLea.res ⟨s, n, g, w, i⟩).r = (LLea.res ⟨s, n, g, w, i + 1⟩).r) := by
        cases hp : leaP n g w i with
        | true =>
          left
          refine ⟨rfl, ?_⟩
          simp only [LLea, RT.r]
          rw [ffrom_step hlt, hp, cond_true]
          simp only [hlt, decide_true, cond_true]
        | false =>
          right
          refine ⟨rfl, ?_⟩
          simp only [LLea, RT.r]
          rw [ffrom_step hlt, hp, cond_false]
      have hgo : leaP n g w i = false → ∃ s', some (Ex.norm, [ri w, V.w (U.one (C.ptr 0 0)), V.w (U.one (sl n g)), ri (↑n : Int), ri ((i + 1 : Nat) : Int)], (mT s n g)) = some (Ex.norm, LLea.head s') ∧
          (szG s'.s s'.n = true ∧ validB s'.s s'.n s'.g = true ∧ 0 < s'.w ∧ s'.w ≤ 1000000000 ∧ s'.i ≤ s'.n) ∧ s'.n - s'.i < n - i ∧ (LLea.res s').r = (LLea.res ⟨s, n, g, w, i⟩).r := by
        intro hp
        refine ⟨⟨s, n, g, w, i + 1⟩, rfl, ⟨hz, hv, hw0, hw1, hlt⟩, ?_, ?_⟩
        · simp only; omega
        · rcases key with ⟨h2, _⟩ | ⟨_, h2⟩
          · rw [hp] at h2; cases h2
          · exact h2.symm
      have hstop : leaP n g w i = true → some (Ex.ret, [ri (leastW g w i), ri 0], mT s n g) = some (LLea.res ⟨s, n, g, w, i⟩).r ∧ (LLea.res ⟨s, n, g, w, i⟩).r.1 ≠ .norm := by
        intro hp
        rcases key with ⟨_, h2⟩ | ⟨h2, _⟩
        · rw [h2]; exact ⟨rfl, fun h => by cases h⟩
        · rw [hp] at h2; cases h2
      have hP : leaP n g w i = (!decide (g i 1 = 0) && decide (leastW g w i ≤ (bif decide (((i + 1 : Nat) : Int) < (n : Int)) then IntKind.i64.wrap (g (i + 1) 0 - 1) else 1000000))) := by rw [hlast]; rfl
      simp only [h1, hw, decide_true, cond_true, Bool.and_self, Bool.and_true, show (0 : Int) ≤ ((i + 1 : Nat) : Int) by omega, Int.toNat_natCast, Bool.true_and]
      by_cases hpr : g i 1 = 0
      · have hp : leaP n g w i = false := by rw [hP, hpr]; rfl
        obtain ⟨s', e1, e2⟩ := hgo hp
        left
        refine ⟨s', ?_, e2⟩
        simp only [hpr, decide_true, cond_true]
        cases decide (((i + 1 : Nat) : Int) < (n : Int)) <;> exact e1
      · have hq := lea_q (g := g) (w := w) (p := g i 1) hw0 hw1 (Vh.price0 i hlt) (Vh.price1 i hlt) hpr
        simp only [hpr, decide_false, cond_false, Bool.not_false, cond_true, hq]
        have hf : (if (w * 1000 + g i 1 - 1).tdiv (g i 1) > g i 0 then (w * 1000 + g i 1 - 1).tdiv (g i 1) else g i 0) = leastW g w i := rfl
        simp only [hf]
        simp only [hpr, decide_false, Bool.not_false, Bool.true_and] at hP
        cases hb : decide (((i + 1 : Nat) : Int) < (n : Int)) with
        | true =>
          rw [hb] at hP
          simp only [cond_true] at hP ⊢
          rw [← hP]
          cases hp : leaP n g w i with
          | true => exact .inr (hstop hp)
          | false => obtain ⟨s', e1, e2⟩ := hgo hp; exact .inl ⟨s', e1, e2⟩
        | false =>
          rw [hb] at hP
          simp only [cond_false] at hP ⊢
          rw [← hP]
          cases hp : leaP n g w i with
          | true => exact .inr (hstop hp)
          | false => obtain ⟨s', e1, e2⟩ := hgo hp; exact .inl ⟨s', e1, e2⟩
    · right
      obtain rfl : i = n := by omega
      rw [ffrom_end (Nat.le_refl _)]
      simp only [Int.lt_irrefl, Nat.lt_irrefl, decide_false, cond_false, RT.r]
      exact ⟨trivial, fun h => by cases h⟩

theorem tLea (s : ByteArray) (n : Nat) (g : Nat → Nat → Int) (w : Int) : fnW Tryd.prog G9 noPl 6 [some LLea.g] Tryd.f27 [tar s n g, ui w] =
  bif (tarG n 2 (rowI g)) && szG s n then
  bif !validB s n (cz n 2 g) then some (V.tup [ui 0, ui 1]) else
  bif decide (w ≤ 0) then some (V.tup [ui 0, ui 0]) else
  bif decide (1000000000 < w) then some (V.tup [ui 0, ui 7]) else
  bif szG s n && (validB s n g && (decide (0 < w) && (decide (w ≤ 1000000000) && true))) && sameM ([ri w, V.w (U.one (C.ptr 0 0)), V.w (U.one (sl n g)), ri (↑n : Int), ri 0], (mT s n g)) ([ri w, V.w (U.one (C.ptr 0 0)), V.w (U.one (sl n g)), ri (↑n : Int), ri 0], (mT s n g)) then
  bif decide (ffrom (leaP n g w) n 0 < n) then some (V.tup [ui (leastW g w (ffrom (leaP n g w) n 0)), ui 0])
  else some (V.tup [ui 0, ui 7])
  else none
  else none := by kernel_rfl

/-- The least weight with a value: the number and the error. -/
def leaB (s : ByteArray) (n : Nat) (g : Nat → Nat → Int) (w : Int) : Int × Int :=
  bif validB s n g then (bif decide (w ≤ 0) then (0, 0) else bif decide (1000000000 < w) then (0, 7) else bif decide (ffrom (leaP n g w) n 0 < n) then (leastW g w (ffrom (leaP n g w) n 0), 0) else (0, 7)) else (0, 1)
theorem lea_ent (s : ByteArray) (n : Nat) (g : Nat → Nat → Int) (w : Int) (h : szG s n = true) : EntOK Tryd.prog 27 [tar s n g, ui w] (rt (leaB s n g w).1 (leaB s n g w).2) := by
  refine ent_fnW (fn := Tryd.f27) G9_ok (pl := noPl) PlOK.none (n := 6) (ls := [some LLea.g]) (by kernel_rfl) (by kernel_rfl) (LsOK.one (x := loopAt Tryd.f27 0) (ls := []) (by kernel_rfl) loopLea) ?_ rfl rfl rfl
  rw [tLea, validB_cz]
  rw [sameM_of rfl]
  simp only [h, tarG_rowI, Bool.and_self, Bool.and_true, cond_true, Bool.true_and]
  unfold leaB
  cases hv : validB s n g with
  | false => rfl
  | true =>
    by_cases h1 : w ≤ 0
    · simp only [h1, decide_true, cond_true]; rfl
    · have h2 : 0 < w := by omega
      by_cases h3 : 1000000000 < w
      · simp only [h1, h3, decide_true, decide_false, cond_true, cond_false]; rfl
      · have h4 : w ≤ 1000000000 := by omega
        simp only [h1, h2, h3, h4, decide_true, decide_false, cond_true, cond_false, Bool.and_self]
        cases decide (ffrom (leaP n g w) n 0 < n) <;> rfl

def eFair : List U → Option (Bool × V) := eT0 fun s n g => some (szG s n, rb (fairB s n g))
def eOwn : List U → Option (Bool × V) := eT0 fun s n g => some (szG s n, .w (tarO s n g))
def eLea : List U → Option (Bool × V) := eT1 fun s n g w => some (szG s n, rt (leaB s n g w).1 (leaB s n g w).2)
def eTot : List U → Option (Bool × V) := eT fun s n g rest => match rest with
  | [.one (.d (.slc k 1 gw))] => some (szG s n && (decide (k ≤ 1000000) && isR k 1 gw), rt (totB s n g k (cz k 1 (toI gw))).1 (totB s n g k (cz k 1 (toI gw))).2)
  | [.one (.d (.slc 0 0 _))] => some (szG s n, rt (totB s n g 0 fun _ _ => 0).1 (totB s n g 0 fun _ _ => 0).2)
  | _ => none
def G10 : Tab := addE (addE (addE (addE G9 19 eFair) 16 eOwn) 27 eLea) 26 eTot
theorem G10_ok : GOK Tryd.prog G10 := by
  refine addE_ok (addE_ok (addE_ok (addE_ok G9_ok (eT0_ok ?_)) (eT0_ok ?_)) (eT1_ok ?_)) (eT_ok ?_)
  · intro s n g v hk
    simp only [Option.some.injEq, Prod.mk.injEq] at hk
    obtain ⟨h1, rfl⟩ := hk
    exact fair_ent s n g h1
  · intro s n g v hk
    simp only [Option.some.injEq, Prod.mk.injEq] at hk
    obtain ⟨h1, rfl⟩ := hk
    exact own_ent s n g h1
  · intro s n g w v hk
    simp only [Option.some.injEq, Prod.mk.injEq] at hk
    obtain ⟨h1, rfl⟩ := hk
    exact lea_ent s n g w h1
  · intro s n g rest v hk
    split at hk
    · rename_i k gw
      simp only [Option.some.injEq, Prod.mk.injEq, Bool.and_eq_true, decide_eq_true_eq] at hk
      obtain ⟨⟨h1, h2, h3⟩, rfl⟩ := hk
      exact (tot_ent s n g k (cz k 1 (toI gw)) h1 h2).weaken fun w I ρ M vs hu => by
        obtain ⟨v0, l1, rfl, c0, r1⟩ := F2.cons_left hu
        obtain ⟨v1, l2, rfl, c1, r2⟩ := F2.cons_left r1
        exact ⟨c0, slcR (fun i j hi hj => by rw [isR_elim h3 i j hi hj, cz_in hi hj]) c1, r2⟩
    · rename_i gw
      simp only [Option.some.injEq, Prod.mk.injEq] at hk
      obtain ⟨h1, rfl⟩ := hk
      exact (tot_ent s n g 0 (fun _ _ => 0) h1 (Nat.zero_le _)).weaken fun w I ρ M vs hu => by
        obtain ⟨v0, l1, rfl, c0, r1⟩ := F2.cons_left hu
        obtain ⟨v1, l2, rfl, c1, r2⟩ := F2.cons_left r1
        exact ⟨c0, slc0 c1, r2⟩
    · cases hk

end
end Sh
end Go.Proofs.YtamdjlpobonmiaaDoor
