/- A tariff is valid: the program's loop, and both functions. -/
import Derived.Test.YtamdjlpobonmiaaDoorTaE
namespace Go.Proofs.YtamdjlpobonmiaaDoor
namespace Sh
set_option maxRecDepth 100000

noncomputable section

def sameC (c c' : C) : Bool := @decide (c = c') (Classical.propDecidable _)
theorem sameC_refl (c : C) : sameC c c = true := by unfold sameC; exact @decide_eq_true _ (Classical.propDecidable _) rfl
theorem sameC_elim {c c' : C} (h : sameC c c' = true) : c = c' := by unfold sameC at h; exact @of_decide_eq_true _ (Classical.propDecidable _) h

def clqAt (g : Nat → Nat → Int) (i : Nat) : Bool :=
  !(decide (1000000 < g i 0) || decide (g i 1 < 0) || decide (1000000 < g i 1) || (decide (i = 0) && !decide (g i 0 = 0)) || (decide (0 < i) && decide (g i 0 ≤ g (i - 1) 0)))
def clqFrom (n : Nat) (g : Nat → Nat → Int) (k : Nat) : Bool := (List.range' k (n - k)).all (clqAt g)
theorem clqFrom_step {n : Nat} {g : Nat → Nat → Int} {k : Nat} (h : k < n) : clqFrom n g k = (clqAt g k && clqFrom n g (k + 1)) := by
  unfold clqFrom
  rw [show n - k = (n - (k + 1)) + 1 by omega, List.range'_succ, List.all_cons]
theorem clqFrom_end {n : Nat} {g : Nat → Nat → Int} {k : Nat} (h : n ≤ k) : clqFrom n g k = true := by
  unfold clqFrom
  rw [show n - k = 0 by omega]; rfl

def h23 : List V → List B → Tr
  | [.w (.one (.ptr 0 0)), .w (.one c), .w (.one (.d (.int .i64 m))), .w (.one (.d (.int .i64 i)))], [.var [.d (.str s), .d (.slc n 2 g)]] =>
    .br (decide (0 ≤ i) && decide (n ≤ 1000000) && isI g && sameC c (.d (.slc n 2 g)) && decide (m = n)) (.br (clqFrom n (toI g) i.toNat) (.out (.exit 0) ⟨spread [1, 2] [.w (.one (.ptr 0 0)), .any] 0 67, [.var [.d (.str s), .d (.slc n 2 g)]]⟩)
      (.out .ret ⟨spread [1, 2] [.w (.one (.ptr 0 0)), rb false] 0 67, [.var [.d (.str s), .d (.slc n 2 g)]]⟩)) .fail
  | _, _ => .fail
def d23 : LoopD := ⟨67, [1, 6, 7, 8], [1, 2], h23⟩

def no23 (s : ByteArray) (n : Nat) (g : Nat → Nat → Int) : Option (Ex × List V × List B) := some (Ex.ret, [V.w (U.one (C.ptr 0 0)), rb false], [B.var [C.d (D.str s), sl n g]])
def go23 (s : ByteArray) (n : Nat) (g : Nat → Nat → Int) (i : Int) : Option (Ex × List V × List B) :=
  some (Ex.norm, [V.w (U.one (C.ptr 0 0)), .w (.one (sl n g)), ri n, ri (IntKind.i64.wrap (i + 1))], [B.var [C.d (D.str s), sl n g]])

theorem t23L (s : ByteArray) (n : Nat) (g : Nat → Nat → Int) (i : Int) : evN Tryd.prog G4 noPl 3 [] (loopAt Tryd.f23 0)
  { tmps := spread d23.live [V.w (U.one (C.ptr 0 0)), V.w (U.one (sl n g)), ri (↑n : Int), ri i] 0 67, mem := [B.var [C.d (D.str s), sl n g]] }
  (d23.obs 1) =
  bif decide (i < (↑n : Int)) then
  bif decide (0 ≤ i) && decide (i < (↑n : Int)) && true then
    bif decide (1000000 < g i.toNat 0) then no23 s n g
    else
      bif decide (g i.toNat 1 < 0) then no23 s n g
      else
        bif decide (1000000 < g i.toNat 1) then no23 s n g
        else
          bif decide (i = 0) then
            bif !decide (g i.toNat 0 = 0) then no23 s n g
            else
              bif decide (0 < i) then
                bif decide (0 ≤ IntKind.i64.wrap (i - 1)) && decide (IntKind.i64.wrap (i - 1) < (↑n : Int)) && true then
                  bif decide (g i.toNat 0 ≤ g (IntKind.i64.wrap (i - 1)).toNat 0) then no23 s n g
                  else go23 s n g i
                else none
              else go23 s n g i
          else
            bif decide (0 < i) then
              bif decide (0 ≤ IntKind.i64.wrap (i - 1)) && decide (IntKind.i64.wrap (i - 1) < (↑n : Int)) && true then
                bif decide (g i.toNat 0 ≤ g (IntKind.i64.wrap (i - 1)).toNat 0) then no23 s n g
                else go23 s n g i
              else none
            else go23 s n g i
  else none
  else some (Ex.exit 0, [V.w (U.one (C.ptr 0 0)), V.any], [B.var [C.d (D.str s), sl n g]]) := by kernel_rfl

theorem loop23 : LoopC Tryd.prog (loopAt Tryd.f23 0) d23.g := by
  refine loopC_at G4_ok (pl := noPl) PlOK.none 3 (ls := []) LsOK.nil d23 (fun vals mem => match vals, mem with
    | [_, _, _, .w (.one (.d (.int _ i)))], [.var [_, .d (.slc n _ _)]] => n - i.toNat
    | _, _ => 0) ?_
  intro vals mem e st' hh
  simp only [d23] at hh
  unfold h23 at hh
  split at hh
  case h_2 => cases hh
  rename_i c m i s n g
  cases hg : decide (0 ≤ i) && decide (n ≤ 1000000) && isI g && sameC c (.d (.slc n 2 g)) && decide (m = n) with
  | false => simp only [Tr.s, hg, cond_false] at hh; cases hh
  | true =>
  simp only [Tr.s, hg, cond_true] at hh
  simp only [Bool.and_eq_true, decide_eq_true_eq] at hg
  obtain ⟨⟨⟨⟨hi0, hsz⟩, hI⟩, hc⟩, rfl⟩ := hg
  obtain rfl := sameC_elim hc
  obtain ⟨g, rfl⟩ := isI_elim hI
  rw [toI_lit] at hh
  have ht := t23L s n g i
  change evN Tryd.prog G4 noPl 3 [] (loopAt Tryd.f23 0) ⟨spread d23.live [.w (.one (.ptr 0 0)), .w (.one (sl n g)), ri n, ri i] 0 d23.N, [.var [.d (.str s), sl n g]]⟩ (d23.obs 1) = _ at ht
  change ∃ e1 vals1 mem1, evN Tryd.prog G4 noPl 3 [] (loopAt Tryd.f23 0) ⟨spread d23.live [.w (.one (.ptr 0 0)), .w (.one (sl n g)), ri n, ri i] 0 d23.N, [.var [.d (.str s), sl n g]]⟩ (d23.obs 1) = some (e1, vals1, mem1) ∧ _
  rw [ht]
  by_cases hlt : i < (n : Int)
  · have hk : i.toNat < n := by omega
    have hw : IntKind.i64.wrap (i + 1) = i + 1 := wrap_id (by omega) (by omega)
    have hw1 : IntKind.i64.wrap (i - 1) = i - 1 := wrap_id (by omega) (by omega)
    have hn : (i + 1).toNat = i.toNat + 1 := by omega
    have hn1 : (i - 1).toNat = i.toNat - 1 := by omega
    have hlt1 : i - 1 < (n : Int) := by omega
    have hz : decide (0 < i) = decide (0 < i.toNat) := by simp only [decide_eq_decide]; omega
    have hz0 : decide (i = 0) = decide (i.toNat = 0) := by simp only [decide_eq_decide]; omega
    have hz1 : decide (0 ≤ i - 1) = decide (0 < i.toNat) := by simp only [decide_eq_decide]; omega
    rw [clqFrom_step hk] at hh
    simp only [hlt, hi0, hlt1, decide_true, cond_true, Bool.and_self, Bool.and_true, hw1, hn1, hz, hz0, hz1]
    have hgood : clqAt g i.toNat = true → ∃ e1 vals1 mem1, go23 s n g i = some (e1, vals1, mem1) ∧
        ((e1 = .norm ∧ (match vals1, mem1 with
          | [_, _, _, .w (.one (.d (.int _ i)))], [.var [_, .d (.slc n _ _)]] => n - i.toNat
          | _, _ => 0) < n - i.toNat ∧ (d23.h vals1 mem1).s = some (e, st')) ∨ (e1 ≠ .norm ∧ e = e1 ∧ st' = ⟨spread d23.liveX vals1 0 d23.N, mem1⟩)) := by
      intro hok
      refine ⟨_, _, _, rfl, .inl ⟨rfl, ?_, ?_⟩⟩
      · simp only [ri, sl, hw]; omega
      · rw [hok, Bool.true_and] at hh
        simp only [d23, h23, ri, sl, Tr.s, hw, hn, toI_lit, isI_lit, sameC_refl, show (0 : Int) ≤ i + 1 by omega, hsz, decide_true, Bool.and_self, cond_true]
        exact hh
    have hbad : clqAt g i.toNat = false → ∃ e1 vals1 mem1, no23 s n g = some (e1, vals1, mem1) ∧
        ((e1 = .norm ∧ (match vals1, mem1 with
          | [_, _, _, .w (.one (.d (.int _ i)))], [.var [_, .d (.slc n _ _)]] => n - i.toNat
          | _, _ => 0) < n - i.toNat ∧ (d23.h vals1 mem1).s = some (e, st')) ∨ (e1 ≠ .norm ∧ e = e1 ∧ st' = ⟨spread d23.liveX vals1 0 d23.N, mem1⟩)) := by
      intro hok
      rw [hok, Bool.false_and] at hh
      simp only [cond_false, Option.some.injEq, Prod.mk.injEq] at hh
      obtain ⟨rfl, rfl⟩ := hh
      exact ⟨_, _, _, rfl, .inr ⟨(fun h => by cases h), rfl, rfl⟩⟩
    unfold clqAt at hgood hbad
    cases h1 : decide (1000000 < g i.toNat 0) <;> cases h2 : decide (g i.toNat 1 < 0) <;> cases h3 : decide (1000000 < g i.toNat 1) <;> cases h4 : decide (0 < i.toNat) <;> cases h5 : decide (g i.toNat 0 ≤ g (i.toNat - 1) 0) <;>
      cases h6 : decide (i.toNat = 0) <;> cases h7 : decide (g i.toNat 0 = 0) <;>
      simp only [h1, h2, h3, h4, h5, h6, h7] at hgood hbad <;> first | exact hgood rfl | exact hbad rfl
  · rw [clqFrom_end (by omega)] at hh
    simp only [cond_true, Option.some.injEq, Prod.mk.injEq] at hh
    obtain ⟨rfl, rfl⟩ := hh
    simp only [hlt, decide_false, cond_false]
    exact ⟨_, _, _, rfl, .inr ⟨(fun h => by cases h), rfl, rfl⟩⟩

/- Both functions. -/
def validB (s : ByteArray) (n : Nat) (g : Nat → Nat → Int) : Bool := nameB s && (decide (1 ≤ (n : Int)) && (decide ((n : Int) ≤ 20) && (decide (g 0 0 = 0) && clsFrom n g 0)))

theorem t17 (s : ByteArray) (n : Nat) (g : Nat → Nat → Int) : fnW Tryd.prog G4 noPl 3 [some d17.g] Tryd.f17 [tar s n g] =
  bif decide (s.size ≤ 1000000) then
  bif !nameB s then some (rb false)
  else
    bif decide ((↑n : Int) < 1) then some (rb false)
    else
      bif decide (20 < (↑n : Int)) then some (rb false)
      else
        bif decide (0 < (↑n : Int)) && true then
          bif !decide (g 0 0 = 0) then some (rb false)
          else
            bif decide (n ≤ 1000000) && isI fun i j => D.int IntKind.i64 (g i j) then
              bif clsFrom n (toI fun i j => D.int IntKind.i64 (g i j)) 0 then some (rb true)
              else some (rb false)
            else none
        else none
  else none := by kernel_rfl

theorem t23 (s : ByteArray) (n : Nat) (g : Nat → Nat → Int) : fnW Tryd.prog G4 noPl 3 [some d23.g] Tryd.f23 [tar s n g] =
  bif decide (n ≤ 1000000) && (isI fun i j => D.int IntKind.i64 (g i j)) && sameC (sl n g) (sl n g) && decide ((n : Int) = n) then
  bif clqFrom n (toI fun i j => D.int IntKind.i64 (g i j)) 0 then
    bif decide (s.size ≤ 1000000) then
      bif nameB s then
        bif decide (1 ≤ (↑n : Int)) then some (rb (decide ((↑n : Int) ≤ 20)))
        else some (rb false)
      else some (rb false)
    else none
  else some (rb false)
  else none := by kernel_rfl

theorem validR_ent (s : ByteArray) (n : Nat) (g : Nat → Nat → Int) (hs : s.size ≤ 1000000) (hn : n ≤ 1000000) : EntOK Tryd.prog 17 [tar s n g] (rb (validB s n g)) := by
  refine ent_of_fnW (fn := Tryd.f17) G4_ok (pl := noPl) PlOK.none (n := 3) (ls := [some d17.g]) (v := rb (validB s n g)) (by kernel_rfl) (by kernel_rfl) (fun c hc => ?_) ?_ rfl rfl
  · have e : bodyOf Tryd.f17 = c := by simp only [bodyOf, hc, Option.getD_some]
    rw [← e]
    exact LsOK.one (x := loopAt Tryd.f17 0) (ls := []) (by kernel_rfl) loop17
  · rw [t17]
    unfold validB
    simp only [hs, hn, isI_lit, toI_lit, decide_true, cond_true, Bool.and_true]
    cases nameB s with
    | false => rfl
    | true =>
      by_cases h1 : (n : Int) < 1
      · have h2 : ¬ (1 : Int) ≤ n := by omega
        simp only [h1, h2, decide_true, decide_false, cond_true, Bool.not_true, cond_false, Bool.false_and, Bool.and_false]
      · have h2 : (1 : Int) ≤ n := by omega
        have h3 : (0 : Int) < n := by omega
        by_cases h4 : (20 : Int) < n
        · have h5 : ¬ (n : Int) ≤ 20 := by omega
          simp only [h1, h2, h4, h5, decide_true, decide_false, cond_true, Bool.not_true, cond_false, Bool.false_and, Bool.and_false]
        · have h5 : (n : Int) ≤ 20 := by omega
          simp only [h1, h2, h3, h4, h5, decide_true, decide_false, cond_true, Bool.not_true, cond_false, Bool.true_and]
          cases decide (g 0 0 = 0) <;> cases clsFrom n g 0 <;> rfl

theorem clq_cls {n : Nat} {g : Nat → Nat → Int} (h : 1 ≤ n) : clqFrom n g 0 = (decide (g 0 0 = 0) && clsFrom n g 0) := by
  have key : ∀ (m k : Nat), m = n - k → 1 ≤ k → clqFrom n g k = clsFrom n g k := by
    intro m
    induction m with
    | zero => intro k hm hk; rw [clqFrom_end (by omega), clsFrom_end (by omega)]
    | succ m ih =>
      intro k hm hk
      rw [clqFrom_step (by omega), clsFrom_step (by omega), ih (k + 1) (by omega) (by omega)]
      have : decide (k = 0) = false := by simp only [decide_eq_false_iff_not]; omega
      unfold clqAt clsAt
      rw [this]
      simp only [Bool.false_and, Bool.or_false]
  rw [clqFrom_step (by omega), clsFrom_step (by omega), key _ 1 rfl (Nat.le_refl _)]
  unfold clqAt clsAt
  cases decide (1000000 < g 0 0) <;> cases decide (g 0 1 < 0) <;> cases decide (1000000 < g 0 1) <;> cases decide (g 0 0 = 0) <;> cases clsFrom n g 1 <;> rfl

theorem valid_ent (s : ByteArray) (n : Nat) (g : Nat → Nat → Int) (hs : s.size ≤ 1000000) (hn : n ≤ 1000000) : EntOK Tryd.prog 23 [tar s n g] (rb (validB s n g)) := by
  refine ent_of_fnW (fn := Tryd.f23) G4_ok (pl := noPl) PlOK.none (n := 3) (ls := [some d23.g]) (v := rb (validB s n g)) (by kernel_rfl) (by kernel_rfl) (fun c hc => ?_) ?_ rfl rfl
  · have e : bodyOf Tryd.f23 = c := by simp only [bodyOf, hc, Option.getD_some]
    rw [← e]
    exact LsOK.one (x := loopAt Tryd.f23 0) (ls := []) (by kernel_rfl) loop23
  · rw [t23]
    unfold validB
    simp only [hs, hn, isI_lit, toI_lit, sameC_refl, decide_true, cond_true, Bool.and_true]
    by_cases h0 : n = 0
    · subst h0
      rw [clqFrom_end (Nat.le_refl _)]
      cases nameB s <;> rfl
    · rw [clq_cls (by omega)]
      have h2 : (1 : Int) ≤ n := by omega
      simp only [h2, decide_true, cond_true, Bool.true_and]
      cases nameB s <;> cases decide ((n : Int) ≤ 20) <;> cases decide (g 0 0 = 0) <;> cases clsFrom n g 0 <;> rfl

end
end Sh
end Go.Proofs.YtamdjlpobonmiaaDoor
