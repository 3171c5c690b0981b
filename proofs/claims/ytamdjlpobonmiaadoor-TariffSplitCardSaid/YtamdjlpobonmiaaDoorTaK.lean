/- Whether weights are permitted. -/
import Derived.Test.YtamdjlpobonmiaaDoorTaJ
namespace Go.Proofs.YtamdjlpobonmiaaDoor
namespace Sh
set_option maxRecDepth 100000

noncomputable section

def sl1 (k : Nat) (gw : Nat → Nat → Int) : C := .d (.slc k 1 fun i j => .int .i64 (gw i j))
def m77 (s : ByteArray) (n : Nat) (g : Nat → Nat → D) : List B := [.var [.d (.str s), .d (.slc n 2 g)]]

def h77 : List V → List B → Tr
  | [.w (.one (.d (.slc k 1 gw))), .w (.one (.fn 57 [] [])), .w (.one (.d (.int .i64 m))), .w (.one (.d (.int .i64 i)))], [.var [.d (.str s), .d (.slc n 2 g)]] =>
    .br (decide (0 ≤ i) && decide (k ≤ 1000000) && isI gw && decide (m = k)) (.br (decide (outFrom k (toI gw) i.toNat < k)) (.out .ret ⟨spread [4] [ri (outFrom k (toI gw) i.toNat)] 0 19, m77 s n g⟩)
      (.out (.exit 0) ⟨spread [4] [.any] 0 19, m77 s n g⟩)) .fail
  | _, _ => .fail
def d77 : LoopD := ⟨19, [0, 1, 7, 8], [4], h77⟩

theorem t77L (s : ByteArray) (n : Nat) (g : Nat → Nat → D) (k : Nat) (gw : Nat → Nat → Int) (i : Int) : evN Tryd.prog G7 noPl 3 [] (loopAt Tryd.f77 0)
  { tmps := spread d77.live [V.w (U.one (sl1 k gw)), V.w (U.one (C.fn 57 [] [])), ri (↑k : Int), ri i] 0 19, mem := m77 s n g } (d77.obs 1) =
  bif decide (i < (↑k : Int)) then
  bif decide (0 ≤ i) && decide (i < (↑k : Int)) && true then
    bif decide (gw i.toNat 0 < 0) then some (Ex.ret, [ri i], m77 s n g)
    else
      bif decide (1000000 < gw i.toNat 0) then some (Ex.ret, [ri i], m77 s n g)
      else some (Ex.norm, [.w (.one (sl1 k gw)), V.w (U.one (C.fn 57 [] [])), ri k, ri (IntKind.i64.wrap (i + 1))], m77 s n g)
  else none
  else some (Ex.exit 0, [V.any], m77 s n g) := by kernel_rfl

theorem loop77 : LoopC Tryd.prog (loopAt Tryd.f77 0) d77.g := by
  refine loopC_at G7_ok (pl := noPl) PlOK.none 3 (ls := []) LsOK.nil d77 (fun vals _ => match vals with
    | [.w (.one (.d (.slc k _ _))), _, _, .w (.one (.d (.int _ i)))] => k - i.toNat
    | _ => 0) ?_
  intro vals mem e st' hh
  simp only [d77] at hh
  unfold h77 at hh
  split at hh
  case h_2 => cases hh
  rename_i k gw m i s n g
  cases hg : decide (0 ≤ i) && decide (k ≤ 1000000) && isI gw && decide (m = k) with
  | false => simp only [Tr.s, hg, cond_false] at hh; cases hh
  | true =>
  simp only [Tr.s, hg, cond_true] at hh
  simp only [Bool.and_eq_true, decide_eq_true_eq] at hg
  obtain ⟨⟨⟨hi0, hsz⟩, hI⟩, rfl⟩ := hg
  obtain ⟨gw, rfl⟩ := isI_elim hI
  rw [toI_lit] at hh
  have ht := t77L s n g k gw i
  change ∃ e1 vals1 mem1, evN Tryd.prog G7 noPl 3 [] (loopAt Tryd.f77 0) ⟨spread d77.live [.w (.one (sl1 k gw)), V.w (U.one (C.fn 57 [] [])), ri k, ri i] 0 19, m77 s n g⟩ (d77.obs 1) = some (e1, vals1, mem1) ∧ _
  rw [ht]
  by_cases hlt : i < (k : Int)
  · have hk : i.toNat < k := by omega
    have hw : IntKind.i64.wrap (i + 1) = i + 1 := wrap_id (by omega) (by omega)
    have hn : (i + 1).toNat = i.toNat + 1 := by omega
    rw [outFrom_step hk] at hh
    simp only [hlt, hi0, decide_true, cond_true, Bool.and_self, Bool.and_true, hw]
    have hbad : outW (gw i.toNat 0) = true → ∃ e1 vals1 mem1, (some (Ex.ret, [ri i], m77 s n g)) = some (e1, vals1, mem1) ∧
        ((e1 = .norm ∧ (match vals1 with
          | [.w (.one (.d (.slc k _ _))), _, _, .w (.one (.d (.int _ i)))] => k - i.toNat
          | _ => 0) < k - i.toNat ∧ (d77.h vals1 mem1).s = some (e, st')) ∨ (e1 ≠ .norm ∧ e = e1 ∧ st' = ⟨spread d77.liveX vals1 0 d77.N, mem1⟩)) := by
      intro hp
      simp only [hp, cond_true, hk, decide_true, Option.some.injEq, Prod.mk.injEq] at hh
      obtain ⟨rfl, rfl⟩ := hh
      refine ⟨_, _, _, rfl, .inr ⟨(fun h => by cases h), rfl, ?_⟩⟩
      simp only [ri, show ((i.toNat : Nat) : Int) = i by omega]
      rfl
    have hgood : outW (gw i.toNat 0) = false → ∃ e1 vals1 mem1, (some (Ex.norm, [.w (.one (sl1 k gw)), V.w (U.one (C.fn 57 [] [])), ri k, ri (i + 1)], m77 s n g)) = some (e1, vals1, mem1) ∧
        ((e1 = .norm ∧ (match vals1 with
          | [.w (.one (.d (.slc k _ _))), _, _, .w (.one (.d (.int _ i)))] => k - i.toNat
          | _ => 0) < k - i.toNat ∧ (d77.h vals1 mem1).s = some (e, st')) ∨ (e1 ≠ .norm ∧ e = e1 ∧ st' = ⟨spread d77.liveX vals1 0 d77.N, mem1⟩)) := by
      intro hp
      simp only [hp, cond_false] at hh
      refine ⟨_, _, _, rfl, .inl ⟨rfl, ?_, ?_⟩⟩
      · simp only [ri, sl1]; omega
      · simp only [d77, h77, ri, sl1, m77, Tr.s, hn, toI_lit, isI_lit, show (0 : Int) ≤ i + 1 by omega, hsz, decide_true, Bool.and_self, cond_true]
        exact hh
    unfold outW at hbad hgood
    cases h1 : decide (gw i.toNat 0 < 0) <;> cases h2 : decide (1000000 < gw i.toNat 0) <;> simp only [h1, h2] at hgood hbad <;> first | exact hgood rfl | exact hbad rfl
  · rw [outFrom_end (by omega)] at hh
    have : ¬ i.toNat < k := by omega
    simp only [this, decide_false, cond_false, Option.some.injEq, Prod.mk.injEq] at hh
    obtain ⟨rfl, rfl⟩ := hh
    simp only [hlt, decide_false, cond_false]
    exact ⟨_, _, _, rfl, .inr ⟨(fun h => by cases h), rfl, rfl⟩⟩

end
end Sh
end Go.Proofs.YtamdjlpobonmiaaDoor
