/- The class of a weight. -/
import Derived.Test.YtamdjlpobonmiaaDoorTaG
namespace Go.Proofs.YtamdjlpobonmiaaDoor
namespace Sh
set_option maxRecDepth 100000

noncomputable section

/-- The first class behind a weight. -/
def firstFrom (n : Nat) (g : Nat → Nat → Int) (wt : Int) (k : Nat) : Nat := k + ((List.range' k (n - k)).takeWhile fun j => !decide (wt < g j 0)).length
theorem firstFrom_step {n : Nat} {g : Nat → Nat → Int} {wt : Int} {k : Nat} (h : k < n) : firstFrom n g wt k = bif decide (wt < g k 0) then k else firstFrom n g wt (k + 1) := by
  unfold firstFrom
  rw [show n - k = (n - (k + 1)) + 1 by omega, List.range'_succ, List.takeWhile_cons]
  cases decide (wt < g k 0) with
  | true => rfl
  | false => simp only [Bool.not_false, if_true, cond_false, List.length_cons]; omega
theorem firstFrom_end {n : Nat} {g : Nat → Nat → Int} {wt : Int} {k : Nat} (h : n ≤ k) : firstFrom n g wt k = k := by
  unfold firstFrom
  rw [show n - k = 0 by omega]; rfl
theorem firstFrom_le {n : Nat} {g : Nat → Nat → Int} {wt : Int} {k : Nat} (h : k ≤ n) : firstFrom n g wt k ≤ n := by
  unfold firstFrom
  have h1 : ((List.range' k (n - k)).takeWhile fun j => !decide (wt < g j 0)).length ≤ (List.range' k (n - k)).length := (List.takeWhile_sublist _).length_le
  rw [List.length_range'] at h1
  omega
theorem firstFrom_ge {n : Nat} {g : Nat → Nat → Int} {wt : Int} {k : Nat} : k ≤ firstFrom n g wt k := by unfold firstFrom; omega

def m58 (s : ByteArray) (n : Nat) (g : Nat → Nat → D) (wt : Int) : List B := [.var [.d (.str s), .d (.slc n 2 g)], .var [.d (.int .i64 wt)]]

def h58 : List V → List B → Tr
  | [.w (.one c), .w (.one (.fn 59 [] [(1, 0)])), .w (.one (.d (.int .i64 m))), .w (.one (.d (.int .i64 i)))], [.var [.d (.str s), .d (.slc n 2 g)], .var [.d (.int .i64 wt)]] =>
    .br (decide (0 ≤ i) && decide (n ≤ 1000000) && isI g && sameC c (.d (.slc n 2 g)) && decide (m = n)) (.br (decide (firstFrom n (toI g) wt i.toNat < n)) (.out .ret ⟨spread [4] [ri (firstFrom n (toI g) wt i.toNat)] 0 19, m58 s n g wt⟩)
      (.out (.exit 0) ⟨spread [4] [.any] 0 19, m58 s n g wt⟩)) .fail
  | _, _ => .fail
def d58 : LoopD := ⟨19, [0, 1, 7, 8], [4], h58⟩

theorem t58L (s : ByteArray) (n : Nat) (g : Nat → Nat → Int) (wt : Int) (i : Int) : evN Tryd.prog G5 noPl 3 [] (loopAt Tryd.f58 0)
  { tmps := spread d58.live [V.w (U.one (sl n g)), V.w (U.one (C.fn 59 [] [(1, 0)])), ri (↑n : Int), ri i] 0 19, mem := m58 s n (fun i j => .int .i64 (g i j)) wt } (d58.obs 2) =
  bif decide (i < (↑n : Int)) then
  bif decide (0 ≤ i) && decide (i < (↑n : Int)) && true then
    bif decide (wt < g i.toNat 0) then some (Ex.ret, [ri i], m58 s n (fun i j => .int .i64 (g i j)) wt)
    else some (Ex.norm, [.w (.one (sl n g)), V.w (U.one (C.fn 59 [] [(1, 0)])), ri n, ri (IntKind.i64.wrap (i + 1))], m58 s n (fun i j => .int .i64 (g i j)) wt)
  else none
  else some (Ex.exit 0, [V.any], m58 s n (fun i j => .int .i64 (g i j)) wt) := by kernel_rfl

theorem loop58 : LoopC Tryd.prog (loopAt Tryd.f58 0) d58.g := by
  refine loopC_at G5_ok (pl := noPl) PlOK.none 3 (ls := []) LsOK.nil d58 (fun vals mem => match vals, mem with
    | [_, _, _, .w (.one (.d (.int _ i)))], [.var [_, .d (.slc n _ _)], _] => n - i.toNat
    | _, _ => 0) ?_
  intro vals mem e st' hh
  simp only [d58] at hh
  unfold h58 at hh
  split at hh
  case h_2 => cases hh
  rename_i c m i s n g wt
  cases hg : decide (0 ≤ i) && decide (n ≤ 1000000) && isI g && sameC c (.d (.slc n 2 g)) && decide (m = n) with
  | false => simp only [Tr.s, hg, cond_false] at hh; cases hh
  | true =>
  simp only [Tr.s, hg, cond_true] at hh
  simp only [Bool.and_eq_true, decide_eq_true_eq] at hg
  obtain ⟨⟨⟨⟨hi0, hsz⟩, hI⟩, hc⟩, rfl⟩ := hg
  obtain rfl := sameC_elim hc
  obtain ⟨g, rfl⟩ := isI_elim hI
  rw [toI_lit] at hh
  have ht := t58L s n g wt i
  change ∃ e1 vals1 mem1, evN Tryd.prog G5 noPl 3 [] (loopAt Tryd.f58 0) ⟨spread d58.live [.w (.one (sl n g)), V.w (U.one (C.fn 59 [] [(1, 0)])), ri n, ri i] 0 19, m58 s n (fun i j => .int .i64 (g i j)) wt⟩ (d58.obs 2) = some (e1, vals1, mem1) ∧ _
  rw [ht]
  by_cases hlt : i < (n : Int)
  · have hk : i.toNat < n := by omega
    have hw : IntKind.i64.wrap (i + 1) = i + 1 := wrap_id (by omega) (by omega)
    have hn : (i + 1).toNat = i.toNat + 1 := by omega
    rw [firstFrom_step hk] at hh
    simp only [hlt, hi0, decide_true, cond_true, Bool.and_self, Bool.and_true, hw]
    cases hp : decide (wt < g i.toNat 0) with
    | true =>
      simp only [hp, cond_true, hk, decide_true, Option.some.injEq, Prod.mk.injEq] at hh
      obtain ⟨rfl, rfl⟩ := hh
      refine ⟨_, _, _, rfl, .inr ⟨(fun h => by cases h), rfl, ?_⟩⟩
      simp only [ri, show ((i.toNat : Nat) : Int) = i by omega]
      rfl
    | false =>
      simp only [hp, cond_false] at hh
      refine ⟨_, _, _, rfl, .inl ⟨rfl, ?_, ?_⟩⟩
      · simp only [ri, sl, m58]; omega
      · simp only [d58, h58, ri, sl, m58, Tr.s, hn, toI_lit, isI_lit, sameC_refl, show (0 : Int) ≤ i + 1 by omega, hsz, decide_true, Bool.and_self, cond_true]
        exact hh
  · rw [firstFrom_end (by omega)] at hh
    have : ¬ i.toNat < n := by omega
    simp only [this, decide_false, cond_false, Option.some.injEq, Prod.mk.injEq] at hh
    obtain ⟨rfl, rfl⟩ := hh
    simp only [hlt, decide_false, cond_false]
    exact ⟨_, _, _, rfl, .inr ⟨(fun h => by cases h), rfl, rfl⟩⟩

end
end Sh
end Go.Proofs.YtamdjlpobonmiaaDoor
