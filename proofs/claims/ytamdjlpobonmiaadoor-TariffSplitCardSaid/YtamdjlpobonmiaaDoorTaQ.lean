/- Total and Least of the program. -/
import Derived.Test.YtamdjlpobonmiaaDoorTaP
namespace Go.Proofs.YtamdjlpobonmiaaDoor
namespace Sh
set_option maxRecDepth 100000

noncomputable section

/- Total. -/
def totF (n : Nat) (g gw : Nat → Nat → Int) (k i : Nat) (sum : Int) : Int := (List.range' i (k - i)).foldl (fun a j => IntKind.i64.wrap (a + valueB n g (gw j 0))) sum
theorem totF_step {n : Nat} {g gw : Nat → Nat → Int} {k i : Nat} {sum : Int} (h : i < k) : totF n g gw k i sum = totF n g gw k (i + 1) (IntKind.i64.wrap (sum + valueB n g (gw i 0))) := by
  unfold totF
  rw [show k - i = (k - (i + 1)) + 1 by omega, List.range'_succ, List.foldl_cons]
theorem totF_end {n : Nat} {g gw : Nat → Nat → Int} {k i : Nat} {sum : Int} (h : k ≤ i) : totF n g gw k i sum = sum := by
  unfold totF
  rw [show k - i = 0 by omega]; rfl

theorem outFrom_all {k : Nat} {gw : Nat → Nat → Int} : ∀ (m i : Nat), m = k - i → i ≤ k → (outFrom k gw i = k ↔ ∀ j, i ≤ j → j < k → outW (gw j 0) = false) := by
  intro m
  induction m with
  | zero =>
    intro i h hi
    rw [outFrom_end (by omega)]
    exact ⟨fun _ j h1 h2 => by omega, fun _ => by omega⟩
  | succ m ih =>
    intro i h hi
    rw [outFrom_step (by omega)]
    cases hp : outW (gw i 0) with
    | true =>
      simp only [cond_true]
      refine ⟨fun e => by omega, fun h1 => ?_⟩
      have := h1 i (Nat.le_refl _) (by omega)
      rw [hp] at this; cases this
    | false =>
      simp only [cond_false]
      rw [ih (i + 1) (by omega) (by omega)]
      refine ⟨fun h1 j h2 h3 => ?_, fun h1 j h2 h3 => h1 j (by omega) h3⟩
      by_cases e : j = i
      · rw [e]; exact hp
      · exact h1 j (by omega) h3
theorem outFrom_le {k : Nat} {gw : Nat → Nat → Int} {i : Nat} (h : i ≤ k) : outFrom k gw i ≤ k := by
  unfold outFrom
  have h1 : ((List.range' i (k - i)).takeWhile fun j => !outW (gw j 0)).length ≤ (List.range' i (k - i)).length := (List.takeWhile_sublist _).length_le
  rw [List.length_range'] at h1
  omega

structure TW where
  s : ByteArray
  n : Nat
  g : Nat → Nat → Int
  k : Nat
  gw : Nat → Nat → Int
  i : Nat
  sum : Int

def LTot : LoopQ TW where
  N := 36
  live := [2, 7, 23, 24, 25]
  liveX := [7]
  ext vals mem := match mem.getD 0 .gone, vals.getD 1 .any, vals.getD 2 .any, vals.getD 4 .any with
    | .var [.d (.str s), .d (.slc n _ g)], .w (.one (.d (.int _ sum))), .w (.one (.d (.slc k _ gw))), .w (.one (.d (.int _ i))) => some ⟨s, n, toI g, k, toI gw, i.toNat, sum⟩
    | _, _, _, _ => none
  pre t := szG t.s t.n && (validB t.s t.n t.g && (decide (t.k ≤ 1000) && (decide (outFrom t.k t.gw 0 = t.k) && decide (t.i ≤ t.k))))
  head t := ([.w (.one (.ptr 0 0)), ri t.sum, .w (.one (sl1 t.k t.gw)), ri (t.k : Int), ri t.i], mT t.s t.n t.g)
  res t := .out (.exit 0) [ri (totF t.n t.g t.gw t.k t.i t.sum)] (mT t.s t.n t.g)
theorem tTotL (s : ByteArray) (n : Nat) (g : Nat → Nat → Int) (k : Nat) (gw : Nat → Nat → Int) (i : Nat) (sum : Int) : evN Tryd.prog G9 noPl 3 [] (loopAt Tryd.f26 0) ⟨spread [2, 7, 23, 24, 25] [.w (.one (.ptr 0 0)), ri sum, .w (.one (sl1 k gw)), ri (k : Int), ri i] 0 36, mT s n g⟩ (LTot.s.d.obs 1) =
  bif decide ((↑i : Int) < (↑k : Int)) then
  bif decide ((↑i : Int) < (↑k : Int)) && true then
  bif (tarG n 2 (rowI g)) && (szG s n && (decide (0 ≤ classB n (cz n 2 g) (gw i 0)) && decide (classB n (cz n 2 g) (gw i 0) < (↑n : Int)))) then some (Ex.norm, [V.w (U.one (C.ptr 0 0)), ri (IntKind.i64.wrap (sum + valueB n (cz n 2 g) (gw i 0))), V.w (U.one (sl1 k gw)), ri (↑k : Int), ri (IntKind.i64.wrap ((↑i : Int) + 1))], (mT s n g))
  else none
  else none
  else some (Ex.exit 0, [ri sum], (mT s n g)) := by kernel_rfl

theorem loopTot : LoopC Tryd.prog (loopAt Tryd.f26 0) LTot.g := by
  refine loopC_q LTot G9_ok (pl := noPl) PlOK.none 3 (ls := []) LsOK.nil (fun t => szG t.s t.n = true ∧ validB t.s t.n t.g = true ∧ t.k ≤ 1000 ∧ (∀ j, j < t.k → outW (t.gw j 0) = false) ∧ t.i ≤ t.k) (fun t => t.k - t.i) ?_ ?_
  · rintro ⟨s, n, g, k, gw, i, sum⟩ h
    simp only [LTot, Bool.and_eq_true, decide_eq_true_eq] at h
    obtain ⟨h1, h2, h3, h4, h5⟩ := h
    rw [outFrom_all _ 0 rfl (Nat.zero_le _)] at h4
    exact ⟨h1, h2, h3, fun j hj => h4 j (Nat.zero_le _) hj, h5⟩
  · rintro ⟨s, n, g, k, gw, i, sum⟩ ⟨hz, hv, hk, ho, hi⟩
    have ht := tTotL s n g k gw i sum
    simp only [LTot] at hz hv hk ho hi ht ⊢
    rw [show (mT s n g).length = 1 from rfl, ht]
    by_cases hlt : i < k
    · left
      have h1 : (i : Int) < k := by omega
      have hw : IntKind.i64.wrap ((i : Int) + 1) = ((i + 1 : Nat) : Int) := by rw [wrap_id (by omega) (by omega)]; omega
      obtain ⟨a1, a2⟩ := class_in hv (ho i hlt)
      refine ⟨⟨s, n, g, k, gw, i + 1, IntKind.i64.wrap (sum + valueB n g (gw i 0))⟩, ?_, ⟨hz, hv, hk, ho, hlt⟩, ?_, ?_⟩
      · simp only [h1, hw, hz, tarG_rowI, classB_cz, valueB_cz a1 a2, a1, a2, decide_true, Bool.and_self, cond_true]
      · simp only; omega
      · simp only [RT.r, totF_step hlt]
    · right
      obtain rfl : i = k := by omega
      simp only [Int.lt_irrefl, decide_false, cond_false, RT.r, totF_end (Nat.le_refl _)]
      exact ⟨trivial, fun h => by cases h⟩

theorem tTot (s : ByteArray) (n : Nat) (g : Nat → Nat → Int) (k : Nat) (gw : Nat → Nat → Int) : fnW Tryd.prog G9 noPl 6 [some LTot.g] Tryd.f26 [tar s n g, .one (sl1 k gw)] =
  bif (tarG n 2 (rowI g)) && (szG s n && (decide (k ≤ 1000000) && isR k 1 (rowI gw))) then
  bif !decide (rightB s n (cz n 2 g) k (cz k 1 gw) = 1) then
  bif decide (1000 < (↑k : Int)) then some (V.tup [ui 0, ui 3]) else
  bif !decide (rightB s n (cz n 2 g) k (cz k 1 gw) = 0) then some (V.tup [ui 0, ui (rightB s n (cz n 2 g) k (cz k 1 gw))]) else
  bif szG s n && (validB s n g && (decide (k ≤ 1000) && (decide (outFrom k gw 0 = k) && true))) && sameM ([V.w (U.one (C.ptr 0 0)), ri 0, V.w (U.one (sl1 k gw)), ri (↑k : Int), ri 0], (mT s n g)) ([V.w (U.one (C.ptr 0 0)), ri 0, V.w (U.one (sl1 k gw)), ri (↑k : Int), ri 0], (mT s n g)) then some (V.tup [ui (totF n g gw k 0 0), ui 0])
  else none else
  bif !decide (rightB s n (cz n 2 g) k (cz k 1 gw) = 0) then some (V.tup [ui 0, ui (rightB s n (cz n 2 g) k (cz k 1 gw))]) else
  bif szG s n && (validB s n g && (decide (k ≤ 1000) && (decide (outFrom k gw 0 = k) && true))) && sameM ([V.w (U.one (C.ptr 0 0)), ri 0, V.w (U.one (sl1 k gw)), ri (↑k : Int), ri 0], (mT s n g)) ([V.w (U.one (C.ptr 0 0)), ri 0, V.w (U.one (sl1 k gw)), ri (↑k : Int), ri 0], (mT s n g)) then some (V.tup [ui (totF n g gw k 0 0), ui 0])
  else none
  else none := by kernel_rfl

theorem outFrom_cz {k : Nat} {gw : Nat → Nat → Int} : ∀ (m i : Nat), m = k - i → outFrom k (cz k 1 gw) i = outFrom k gw i := by
  intro m
  induction m with
  | zero => intro i h; rw [outFrom_end (by omega), outFrom_end (by omega)]
  | succ m ih =>
    intro i h
    rw [outFrom_step (gw := cz k 1 gw) (i := i) (by omega), outFrom_step (gw := gw) (i := i) (by omega), ih (i + 1) (by omega), cz_in (by omega) (by omega)]
theorem rightB_cz {s : ByteArray} {n : Nat} {g : Nat → Nat → Int} {k : Nat} {gw : Nat → Nat → Int} : rightB s n (cz n 2 g) k (cz k 1 gw) = rightB s n g k gw := by
  unfold rightB
  rw [validB_cz, outFrom_cz _ 0 rfl]

/-- The sum of values: the number and the error. -/
def totB (s : ByteArray) (n : Nat) (g : Nat → Nat → Int) (k : Nat) (gw : Nat → Nat → Int) : Int × Int :=
  bif validB s n g then (bif decide (1000 < k) then (0, 3) else bif decide (outFrom k gw 0 < k) then (0, 2) else (totF n g gw k 0 0, 0)) else (0, 1)
theorem tot_ent (s : ByteArray) (n : Nat) (g : Nat → Nat → Int) (k : Nat) (gw : Nat → Nat → Int) (h : szG s n = true) (hk : k ≤ 1000000) : EntOK Tryd.prog 26 [tar s n g, .one (sl1 k gw)] (rt (totB s n g k gw).1 (totB s n g k gw).2) := by
  refine ent_fnW (fn := Tryd.f26) G9_ok (pl := noPl) PlOK.none (n := 6) (ls := [some LTot.g]) (by kernel_rfl) (by kernel_rfl) (LsOK.one (x := loopAt Tryd.f26 0) (ls := []) (by kernel_rfl) loopTot) ?_ rfl rfl rfl
  rw [tTot, rightB_cz]
  rw [sameM_of rfl]
  have hI : isR k 1 (rowI gw) = true := isR_rowI
  simp only [h, hk, hI, tarG_rowI, decide_true, Bool.and_self, Bool.and_true, cond_true]
  unfold rightB totB
  have e1 : ((1000 : Int) < (k : Int)) ↔ 1000 < k := by omega
  simp only [e1]
  cases hv : validB s n g with
  | false => simp only [cond_false, decide_true, Bool.not_true, show decide ((1 : Int) = 0) = false by decide, Bool.not_false, cond_true]; rfl
  | true =>
    by_cases h1 : 1000 < k
    · simp only [h1, decide_true, cond_true]
      cases decide (outFrom k gw 0 < k) <;> rfl
    · have h2 : k ≤ 1000 := by omega
      by_cases h3 : outFrom k gw 0 < k
      · simp only [h1, h3, decide_true, decide_false, cond_true, cond_false]; rfl
      · have h4 : outFrom k gw 0 = k := by have := outFrom_le (k := k) (gw := gw) (i := 0) (Nat.zero_le _); omega
        simp only [h1, h2, h3, h4, decide_true, decide_false, cond_true, cond_false]
        simp; rfl

/- Least. -/
def lastB (n : Nat) (g : Nat → Nat → Int) (i : Nat) : Int := bif decide (i + 1 < n) then g (i + 1) 0 - 1 else 1000000
def leastW (g : Nat → Nat → Int) (w : Int) (i : Nat) : Int := if (w * 1000 + g i 1 - 1).tdiv (g i 1) > g i 0 then (w * 1000 + g i 1 - 1).tdiv (g i 1) else g i 0
def leaP (n : Nat) (g : Nat → Nat → Int) (w : Int) (i : Nat) : Bool := !decide (g i 1 = 0) && decide (leastW g w i ≤ lastB n g i)

structure TL where
  s : ByteArray
  n : Nat
  g : Nat → Nat → Int
  w : Int
  i : Nat
def LLea : LoopQ TL where
  N := 62
  live := [1, 2, 21, 22, 23]
  liveX := [4, 5]
  ext vals mem := match mem.getD 0 .gone, vals.getD 0 .any, vals.getD 4 .any with
    | .var [.d (.str s), .d (.slc n _ g)], .w (.one (.d (.int _ w))), .w (.one (.d (.int _ i))) => some ⟨s, n, toI g, w, i.toNat⟩
    | _, _, _ => none
  pre t := szG t.s t.n && (validB t.s t.n t.g && (decide (0 < t.w) && (decide (t.w ≤ 1000000000) && decide (t.i ≤ t.n))))
  head t := ([ri t.w, .w (.one (.ptr 0 0)), .w (.one (sl t.n t.g)), ri (t.n : Int), ri t.i], mT t.s t.n t.g)
  res t := .br (decide (ffrom (leaP t.n t.g t.w) t.n t.i < t.n)) (.out .ret [ri (leastW t.g t.w (ffrom (leaP t.n t.g t.w) t.n t.i)), ri 0] (mT t.s t.n t.g)) (.out (.exit 1) [.any, .any] (mT t.s t.n t.g))
theorem tLeaL (s : ByteArray) (n : Nat) (g : Nat → Nat → Int) (w : Int) (i : Nat) : evN Tryd.prog G9 noPl 3 [] (loopAt Tryd.f27 0) ⟨spread [1, 2, 21, 22, 23] [ri w, .w (.one (.ptr 0 0)), .w (.one (sl n g)), ri (n : Int), ri i] 0 62, mT s n g⟩ (LLea.s.d.obs 1) =
  bif decide ((↑i : Int) < (↑n : Int)) then
  bif decide ((↑i : Int) < (↑n : Int)) && true then
  bif decide (IntKind.i64.wrap ((↑i : Int) + 1) < (↑n : Int)) then
  bif decide (0 ≤ IntKind.i64.wrap ((↑i : Int) + 1)) && decide (IntKind.i64.wrap ((↑i : Int) + 1) < (↑n : Int)) && true then
  bif decide (g i 1 = 0) then some (Ex.norm, [ri w, V.w (U.one (C.ptr 0 0)), V.w (U.one (sl n g)), ri (↑n : Int), ri (IntKind.i64.wrap ((↑i : Int) + 1))], (mT s n g)) else
  bif !decide (g i 1 = 0) then
  bif decide ((if IntKind.i64.wrap ((IntKind.i64.wrap (IntKind.i64.wrap (IntKind.i64.wrap (w * 1000) + g i 1) - 1)).tdiv (g i 1)) > g i 0 then IntKind.i64.wrap ((IntKind.i64.wrap (IntKind.i64.wrap (IntKind.i64.wrap (w * 1000) + g i 1) - 1)).tdiv (g i 1))
  else g i 0) ≤ IntKind.i64.wrap (g (IntKind.i64.wrap ((↑i : Int) + 1)).toNat 0 - 1)) then some (Ex.ret, [ri (if IntKind.i64.wrap ((IntKind.i64.wrap (IntKind.i64.wrap (IntKind.i64.wrap (w * 1000) + g i 1) - 1)).tdiv (g i 1)) > g i 0 then IntKind.i64.wrap ((IntKind.i64.wrap (IntKind.i64.wrap (IntKind.i64.wrap (w * 1000) + g i 1) - 1)).tdiv (g i 1))
  else g i 0), ri 0], (mT s n g))
  else some (Ex.norm, [ri w, V.w (U.one (C.ptr 0 0)), V.w (U.one (sl n g)), ri (↑n : Int), ri (IntKind.i64.wrap ((↑i : Int) + 1))], (mT s n g))
  else none
  else none else
  bif decide (g i 1 = 0) then some (Ex.norm, [ri w, V.w (U.one (C.ptr 0 0)), V.w (U.one (sl n g)), ri (↑n : Int), ri (IntKind.i64.wrap ((↑i : Int) + 1))], (mT s n g)) else
  bif !decide (g i 1 = 0) then
  bif decide ((if IntKind.i64.wrap ((IntKind.i64.wrap (IntKind.i64.wrap (IntKind.i64.wrap (w * 1000) + g i 1) - 1)).tdiv (g i 1)) > g i 0 then IntKind.i64.wrap ((IntKind.i64.wrap (IntKind.i64.wrap (IntKind.i64.wrap (w * 1000) + g i 1) - 1)).tdiv (g i 1))
  else g i 0) ≤ 1000000) then some (Ex.ret, [ri (if IntKind.i64.wrap ((IntKind.i64.wrap (IntKind.i64.wrap (IntKind.i64.wrap (w * 1000) + g i 1) - 1)).tdiv (g i 1)) > g i 0 then IntKind.i64.wrap ((IntKind.i64.wrap (IntKind.i64.wrap (IntKind.i64.wrap (w * 1000) + g i 1) - 1)).tdiv (g i 1))
  else g i 0), ri 0], (mT s n g))
  else some (Ex.norm, [ri w, V.w (U.one (C.ptr 0 0)), V.w (U.one (sl n g)), ri (↑n : Int), ri (IntKind.i64.wrap ((↑i : Int) + 1))], (mT s n g))
  else none
  else none
  else some (Ex.exit 1, [V.any, V.any], (mT s n g)) := by kernel_rfl
theorem lea_q {g : Nat → Nat → Int} {w p : Int} (h0 : 0 < w) (h1 : w ≤ 1000000000) (hp : 0 ≤ p) (hq : p ≤ 1000000) (hne : p ≠ 0) :
    IntKind.i64.wrap ((IntKind.i64.wrap (IntKind.i64.wrap (IntKind.i64.wrap (w * 1000) + p) - 1)).tdiv p) = (w * 1000 + p - 1).tdiv p := by
  have e1 : IntKind.i64.wrap (w * 1000) = w * 1000 := wrap_id (by omega) (by omega)
  rw [e1]
  have e2 : IntKind.i64.wrap (w * 1000 + p) = w * 1000 + p := wrap_id (by omega) (by omega)
  rw [e2]
  have e3 : IntKind.i64.wrap (w * 1000 + p - 1) = w * 1000 + p - 1 := wrap_id (by omega) (by omega)
  rw [e3]
  rw [Int.tdiv_eq_ediv_of_nonneg (by omega)]
  have a1 : 0 ≤ (w * 1000 + p - 1) / p := Int.ediv_nonneg (by omega) hp
  have a2 : (w * 1000 + p - 1) / p ≤ w * 1000 + p - 1 := Int.ediv_le_self _ (by omega)
  exact wrap_id (by omega) (by omega)

theorem loopLea : LoopC Tryd.prog (loopAt Tryd.f27 0) LLea.g := by
  refine loopC_q LLea G9_ok (pl := noPl) PlOK.none 3 (ls := []) LsOK.nil (fun t => szG t.s t.n = true ∧ validB t.s t.n t.g = true ∧ 0 < t.w ∧ t.w ≤ 1000000000 ∧ t.i ≤ t.n) (fun t => t.n - t.i) ?_ ?_
  · rintro ⟨s, n, g, w, i⟩ h
    simpa [LLea] using h
  · rintro ⟨s, n, g, w, i⟩ ⟨hz, hv, hw0, hw1, hi⟩
    have ht := tLeaL s n g w i
    simp only [LLea] at hz hv hw0 hw1 hi ht ⊢
    rw [show (mT s n g).length = 1 from rfl, ht]
    have Vh := valid_iff.1 hv
    have hfew := Vh.few
    by_cases hlt : i < n
    · have h1 : (i : Int) < n := by omega
      have hw : IntKind.i64.wrap ((i : Int) + 1) = ((i + 1 : Nat) : Int) := by rw [wrap_id (by omega) (by omega)]; omega
      have hlast : (bif decide (((i + 1 : Nat) : Int) < (n : Int)) then IntKind.i64.wrap (g (i + 1) 0 - 1) else 1000000) = lastB n g i := by
        unfold lastB
        by_cases h2 : i + 1 < n
        · have h3 : ((i + 1 : Nat) : Int) < n := by omega
          have := Vh.from0 h2
          have := Vh.from_le _ h2
          simp only [h2, h3, decide_true, cond_true]
          exact wrap_id (by omega) (by omega)
        · have h3 : ¬ ((i + 1 : Nat) : Int) < n := by omega
          simp only [h2, h3, decide_false, cond_false]
      have key : (leaP n g w i = true ∧ (LLea.res ⟨s, n, g, w, i⟩).r = (.ret, [ri (leastW g w i), ri 0], mT s n g)) ∨ (leaP n g w i = false ∧ (LLea.res ⟨s, n, g, w, i⟩).r = (LLea.res ⟨s, n, g, w, i + 1⟩).r) := by
        cases hp : leaP n g w i with
        | true =>
          left
          refine ⟨rfl, ?_⟩
          simp only [LLea, RT.r]
          rw [ffrom_step hlt, hp, cond_true]
          simp only [hlt, decide_true, cond_true]
        | false =>
          right
          refine ⟨rfl, ?_⟩
          simp only [LLea, RT.r]
          rw [ffrom_step hlt, hp, cond_false]
      have hgo : leaP n g w i = false → ∃ s', some (Ex.norm, [ri w, V.w (U.one (C.ptr 0 0)), V.w (U.one (sl n g)), ri (↑n : Int), ri ((i + 1 : Nat) : Int)], (mT s n g)) = some (Ex.norm, LLea.head s') ∧
          (szG s'.s s'.n = true ∧ validB s'.s s'.n s'.g = true ∧ 0 < s'.w ∧ s'.w ≤ 1000000000 ∧ s'.i ≤ s'.n) ∧ s'.n - s'.i < n - i ∧ (LLea.res s').r = (LLea.res ⟨s, n, g, w, i⟩).r := by
        intro hp
        refine ⟨⟨s, n, g, w, i + 1⟩, rfl, ⟨hz, hv, hw0, hw1, hlt⟩, ?_, ?_⟩
        · simp only; omega
        · rcases key with ⟨h2, _⟩ | ⟨_, h2⟩
          · rw [hp] at h2; cases h2
          · exact h2.symm
      have hstop : leaP n g w i = true → some (Ex.ret, [ri (leastW g w i), ri 0], mT s n g) = some (LLea.res ⟨s, n, g, w, i⟩).r ∧ (LLea.res ⟨s, n, g, w, i⟩).r.1 ≠ .norm := by
        intro hp
        rcases key with ⟨_, h2⟩ | ⟨h2, _⟩
        · rw [h2]; exact ⟨rfl, fun h => by cases h⟩
        · rw [hp] at h2; cases h2
      have hP : leaP n g w i = (!decide (g i 1 = 0) && decide (leastW g w i ≤ (bif decide (((i + 1 : Nat) : Int) < (n : Int)) then IntKind.i64.wrap (g (i + 1) 0 - 1) else 1000000))) := by rw [hlast]; rfl
      simp only [h1, hw, decide_true, cond_true, Bool.and_self, Bool.and_true, show (0 : Int) ≤ ((i + 1 : Nat) : Int) by omega, Int.toNat_natCast, Bool.true_and]
      by_cases hpr : g i 1 = 0
      · have hp : leaP n g w i = false := by rw [hP, hpr]; rfl
        obtain ⟨s', e1, e2⟩ := hgo hp
        left
        refine ⟨s', ?_, e2⟩
        simp only [hpr, decide_true, cond_true]
        cases decide (((i + 1 : Nat) : Int) < (n : Int)) <;> exact e1
      · have hq := lea_q (g := g) (w := w) (p := g i 1) hw0 hw1 (Vh.price0 i hlt) (Vh.price1 i hlt) hpr
        simp only [hpr, decide_false, cond_false, Bool.not_false, cond_true, hq]
        have hf : (if (w * 1000 + g i 1 - 1).tdiv (g i 1) > g i 0 then (w * 1000 + g i 1 - 1).tdiv (g i 1) else g i 0) = leastW g w i := rfl
        simp only [hf]
        simp only [hpr, decide_false, Bool.not_false, Bool.true_and] at hP
        cases hb : decide (((i + 1 : Nat) : Int) < (n : Int)) with
        | true =>
          rw [hb] at hP
          simp only [cond_true] at hP ⊢
          rw [← hP]
          cases hp : leaP n g w i with
          | true => exact .inr (hstop hp)
          | false => obtain ⟨s', e1, e2⟩ := hgo hp; exact .inl ⟨s', e1, e2⟩
        | false =>
          rw [hb] at hP
          simp only [cond_false] at hP ⊢
          rw [← hP]
          cases hp : leaP n g w i with
          | true => exact .inr (hstop hp)
          | false => obtain ⟨s', e1, e2⟩ := hgo hp; exact .inl ⟨s', e1, e2⟩
    · right
      obtain rfl : i = n := by omega
      rw [ffrom_end (Nat.le_refl _)]
      simp only [Int.lt_irrefl, Nat.lt_irrefl, decide_false, cond_false, RT.r]
      exact ⟨trivial, fun h => by cases h⟩

theorem tLea (s : ByteArray) (n : Nat) (g : Nat → Nat → Int) (w : Int) : fnW Tryd.prog G9 noPl 6 [some LLea.g] Tryd.f27 [tar s n g, ui w] =
  bif (tarG n 2 (rowI g)) && szG s n then
  bif !validB s n (cz n 2 g) then some (V.tup [ui 0, ui 1]) else
  bif decide (w ≤ 0) then some (V.tup [ui 0, ui 0]) else
  bif decide (1000000000 < w) then some (V.tup [ui 0, ui 7]) else
  bif szG s n && (validB s n g && (decide (0 < w) && (decide (w ≤ 1000000000) && true))) && sameM ([ri w, V.w (U.one (C.ptr 0 0)), V.w (U.one (sl n g)), ri (↑n : Int), ri 0], (mT s n g)) ([ri w, V.w (U.one (C.ptr 0 0)), V.w (U.one (sl n g)), ri (↑n : Int), ri 0], (mT s n g)) then
  bif decide (ffrom (leaP n g w) n 0 < n) then some (V.tup [ui (leastW g w (ffrom (leaP n g w) n 0)), ui 0])
  else some (V.tup [ui 0, ui 7])
  else none
  else none := by kernel_rfl

/-- The least weight with a value: the number and the error. -/
def leaB (s : ByteArray) (n : Nat) (g : Nat → Nat → Int) (w : Int) : Int × Int :=
  bif validB s n g then (bif decide (w ≤ 0) then (0, 0) else bif decide (1000000000 < w) then (0, 7) else bif decide (ffrom (leaP n g w) n 0 < n) then (leastW g w (ffrom (leaP n g w) n 0), 0) else (0, 7)) else (0, 1)
theorem lea_ent (s : ByteArray) (n : Nat) (g : Nat → Nat → Int) (w : Int) (h : szG s n = true) : EntOK Tryd.prog 27 [tar s n g, ui w] (rt (leaB s n g w).1 (leaB s n g w).2) := by
  refine ent_fnW (fn := Tryd.f27) G9_ok (pl := noPl) PlOK.none (n := 6) (ls := [some LLea.g]) (by kernel_rfl) (by kernel_rfl) (LsOK.one (x := loopAt Tryd.f27 0) (ls := []) (by kernel_rfl) loopLea) ?_ rfl rfl rfl
  rw [tLea, validB_cz]
  rw [sameM_of rfl]
  simp only [h, tarG_rowI, Bool.and_self, Bool.and_true, cond_true, Bool.true_and]
  unfold leaB
  cases hv : validB s n g with
  | false => rfl
  | true =>
    by_cases h1 : w ≤ 0
    · simp only [h1, decide_true, cond_true]; rfl
    · have h2 : 0 < w := by omega
      by_cases h3 : 1000000000 < w
      · simp only [h1, h3, decide_true, decide_false, cond_true, cond_false]; rfl
      · have h4 : w ≤ 1000000000 := by omega
        simp only [h1, h2, h3, h4, decide_true, decide_false, cond_true, cond_false, Bool.and_self]
        cases decide (ffrom (leaP n g w) n 0 < n) <;> rfl

def eFair : List U → Option (Bool × V) := eT0 fun s n g => some (szG s n, rb (fairB s n g))
def eOwn : List U → Option (Bool × V) := eT0 fun s n g => some (szG s n, .w (tarO s n g))
def eLea : List U → Option (Bool × V) := eT1 fun s n g w => some (szG s n, rt (leaB s n g w).1 (leaB s n g w).2)
def eTot : List U → Option (Bool × V) := eT fun s n g rest => match rest with
  | [.one (.d (.slc k 1 gw))] => some (szG s n && (decide (k ≤ 1000000) && isR k 1 gw), rt (totB s n g k (cz k 1 (toI gw))).1 (totB s n g k (cz k 1 (toI gw))).2)
  | [.one (.d (.slc 0 0 _))] => some (szG s n, rt (totB s n g 0 fun _ _ => 0).1 (totB s n g 0 fun _ _ => 0).2)
  | _ => none
def G10 : Tab := addE (addE (addE (addE G9 19 eFair) 16 eOwn) 27 eLea) 26 eTot
theorem G10_ok : GOK Tryd.prog G10 := by
  refine addE_ok (addE_ok (addE_ok (addE_ok G9_ok (eT0_ok ?_)) (eT0_ok ?_)) (eT1_ok ?_)) (eT_ok ?_)
  · intro s n g v hk
    simp only [Option.some.injEq, Prod.mk.injEq] at hk
    obtain ⟨h1, rfl⟩ := hk
    exact fair_ent s n g h1
  · intro s n g v hk
    simp only [Option.some.injEq, Prod.mk.injEq] at hk
    obtain ⟨h1, rfl⟩ := hk
    exact own_ent s n g h1
  · intro s n g w v hk
    simp only [Option.some.injEq, Prod.mk.injEq] at hk
    obtain ⟨h1, rfl⟩ := hk
    exact lea_ent s n g w h1
  · intro s n g rest v hk
    split at hk
    · rename_i k gw
      simp only [Option.some.injEq, Prod.mk.injEq, Bool.and_eq_true, decide_eq_true_eq] at hk
      obtain ⟨⟨h1, h2, h3⟩, rfl⟩ := hk
      exact (tot_ent s n g k (cz k 1 (toI gw)) h1 h2).weaken fun w I ρ M vs hu => by
        obtain ⟨v0, l1, rfl, c0, r1⟩ := F2.cons_left hu
        obtain ⟨v1, l2, rfl, c1, r2⟩ := F2.cons_left r1
        exact ⟨c0, slcR (fun i j hi hj => by rw [isR_elim h3 i j hi hj, cz_in hi hj]) c1, r2⟩
    · rename_i gw
      simp only [Option.some.injEq, Prod.mk.injEq] at hk
      obtain ⟨h1, rfl⟩ := hk
      exact (tot_ent s n g 0 (fun _ _ => 0) h1 (Nat.zero_le _)).weaken fun w I ρ M vs hu => by
        obtain ⟨v0, l1, rfl, c0, r1⟩ := F2.cons_left hu
        obtain ⟨v1, l2, rfl, c1, r2⟩ := F2.cons_left r1
        exact ⟨c0, slc0 c1, r2⟩
    · cases hk

end
end Sh
end Go.Proofs.YtamdjlpobonmiaaDoor
