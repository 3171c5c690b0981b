/- Names: words and names. -/
import Derived.Test.YtamdjlpobonmiaaDoorTaA
namespace Go.Proofs.YtamdjlpobonmiaaDoor
namespace Sh
set_option maxRecDepth 100000

noncomputable section

def bt (s : ByteArray) (i : Nat) : Int := ((s.data.toList.getD i 0).toNat : Int)

theorem t80 (c : Int) : fnV Tryd.prog G1 3 Tryd.f80 [ub c] =
  bif letterB c then some (rb true)
  else
  bif digitB c then some (rb true)
  else
    bif decide (c = 45) then some (rb true)
    else some (rb (decide (c = 95))) := by kernel_rfl
theorem wordB_fn (c : Int) : fnV Tryd.prog G1 3 Tryd.f80 [ub c] = some (rb (wordB c)) := by
  rw [t80]; unfold wordB
  cases letterB c <;> cases digitB c <;> cases decide (c = 45) <;> rfl

def resTree (s : ByteArray) : List ByteArray → Option V
  | [] => some (rb false)
  | w :: ws => bif w.toList == s.toList then some (rb true) else resTree s ws
def resTree' (s : ByteArray) : List ByteArray → Option V
  | [] => some (rb false)
  | w :: ws => bif s.toList == w.toList then some (rb true) else resTree' s ws
def resWords : List ByteArray := [⟨#[100, 101, 115, 105, 103, 110]⟩, ⟨#[111, 114, 100, 101, 114]⟩, ⟨#[109, 105, 114, 114, 111, 114]⟩, ⟨#[116, 105, 101, 114]⟩, ⟨#[97, 110, 103, 108, 101]⟩, ⟨#[97, 116]⟩,
  ⟨#[100, 101, 112, 116, 104]⟩, ⟨#[109, 101, 101, 116]⟩, ⟨#[101, 100, 103, 101]⟩, ⟨#[104, 101, 105, 103, 104, 116]⟩, ⟨#[116, 104, 114, 111, 117, 103, 104]⟩]
def resB (s : ByteArray) : Bool := resWords.any fun w => w.toList == s.toList

theorem resTree_eq (s : ByteArray) : ∀ ws, resTree s ws = some (rb (ws.any fun w => w.toList == s.toList))
  | [] => rfl
  | w :: ws => by
    simp only [resTree, resTree_eq s ws, List.any_cons]
    cases w.toList == s.toList <;> rfl
theorem resTree'_eq (s : ByteArray) : ∀ ws, resTree' s ws = resTree s ws
  | [] => rfl
  | w :: ws => by simp only [resTree', resTree, resTree'_eq s ws, BEq.comm]

theorem t55 (s : ByteArray) : fnV Tryd.prog G1 20 Tryd.f55 [us s] = resTree s resWords := by kernel_rfl
theorem t61 (s : ByteArray) : fnV Tryd.prog G1 20 Tryd.f61 [us s] = resTree' s resWords := by kernel_rfl
theorem resR_fn (s : ByteArray) : fnV Tryd.prog G1 20 Tryd.f55 [us s] = some (rb (resB s)) := by rw [t55, resTree_eq]; rfl
theorem res_fn (s : ByteArray) : fnV Tryd.prog G1 20 Tryd.f61 [us s] = some (rb (resB s)) := by rw [t61, resTree'_eq, resTree_eq]; rfl

def eWord1 (us : List U) : Option (Bool × V) := match us with
  | [.one (.d (.int .u8 c))] => some (true, rb (wordB c))
  | _ => none
def eRes (us : List U) : Option (Bool × V) := match us with
  | [.one (.d (.str s))] => some (true, rb (resB s))
  | _ => none
def G2 : Tab := addE (addE (addE G1 80 eWord1) 61 eRes) 55 eRes
theorem G2_ok : GOK Tryd.prog G2 := by
  refine addE_ok (addE_ok (addE_ok G1_ok ?_) ?_) ?_
  all_goals
    intro us v h
    simp only [eWord1, eRes] at h
    split at h
    case h_2 => cases h
    simp only [Option.some.injEq, Prod.mk.injEq, true_and] at h
    subst h
  · exact ent_of_fnV G1_ok (by kernel_rfl) (by kernel_rfl) (wordB_fn _) rfl rfl
  · exact ent_of_fnV G1_ok (by kernel_rfl) (by kernel_rfl) (res_fn _) rfl rfl
  · exact ent_of_fnV G1_ok (by kernel_rfl) (by kernel_rfl) (resR_fn _) rfl rfl

/- The reference's word. -/
def okAt (s : ByteArray) (j : Nat) : Bool := letterB (bt s j) || (!decide (j = 0) && (digitB (bt s j) || decide (bt s j = 45) || decide (bt s j = 95)))
def okFrom (s : ByteArray) (k : Nat) : Bool := (List.range' k (s.size - k)).all (okAt s)
theorem okFrom_step {s : ByteArray} {k : Nat} (h : k < s.size) : okFrom s k = (okAt s k && okFrom s (k + 1)) := by
  unfold okFrom
  rw [show s.size - k = (s.size - (k + 1)) + 1 by omega, List.range'_succ, List.all_cons]
theorem okFrom_end {s : ByteArray} {k : Nat} (h : s.size ≤ k) : okFrom s k = true := by
  unfold okFrom
  rw [show s.size - k = 0 by omega]; rfl

def h54 : List V → List B → Tr
  | [.w (.one (.d (.str s))), .w (.one (.d (.int .i64 i)))], [] =>
    .br (decide (0 ≤ i) && decide (s.size ≤ 1000000)) (.br (okFrom s i.toNat) (.out (.exit 0) ⟨spread [0, 2] [.w (.one (.d (.str s))), .any] 0 41, []⟩) (.out .ret ⟨spread [0, 2] [.w (.one (.d (.str s))), rb false] 0 41, []⟩)) .fail
  | _, _ => .fail
def d54 : LoopD := ⟨41, [0, 3], [0, 2], h54⟩

theorem t54L (s : ByteArray) (i : Int) : evN Tryd.prog G2 noPl 3 [] (loopAt Tryd.f54 0)
  { tmps := spread d54.live [V.w (U.one (C.d (D.str s))), V.w (U.one (C.d (D.int IntKind.i64 i)))] 0 41, mem := [] }
  (d54.obs 0) =
  bif decide (i < (↑s.size : Int)) then
  bif decide (0 ≤ i) && decide (i < (↑s.size : Int)) then
    bif !letterB (bt s i.toNat) then
      bif decide (i = 0) then some (Ex.ret, [V.w (U.one (C.d (D.str s))), V.w (U.one (C.d (D.bool false)))], [])
      else
        bif decide (0 ≤ i) && decide (i < (↑s.size : Int)) then
          bif !digitB (bt s i.toNat) then
            bif decide (0 ≤ i) && decide (i < (↑s.size : Int)) then
              bif !decide (bt s i.toNat = 45) then
                bif decide (0 ≤ i) && decide (i < (↑s.size : Int)) then
                  bif !decide (bt s i.toNat = 95) then
                    some (Ex.ret, [V.w (U.one (C.d (D.str s))), V.w (U.one (C.d (D.bool false)))], [])
                  else
                    some
                      (Ex.norm,
                        [V.w (U.one (C.d (D.str s))), V.w (U.one (C.d (D.int IntKind.i64 (IntKind.i64.wrap (i + 1)))))],
                        [])
                else none
              else
                some
                  (Ex.norm,
                    [V.w (U.one (C.d (D.str s))), V.w (U.one (C.d (D.int IntKind.i64 (IntKind.i64.wrap (i + 1)))))], [])
            else none
          else
            some
              (Ex.norm, [V.w (U.one (C.d (D.str s))), V.w (U.one (C.d (D.int IntKind.i64 (IntKind.i64.wrap (i + 1)))))],
                [])
        else none
    else
      some
        (Ex.norm, [V.w (U.one (C.d (D.str s))), V.w (U.one (C.d (D.int IntKind.i64 (IntKind.i64.wrap (i + 1)))))], [])
  else none
  else some (Ex.exit 0, [V.w (U.one (C.d (D.str s))), V.any], []) := by kernel_rfl

theorem wrap_id {x : Int} (h0 : -9223372036854775808 ≤ x) (h1 : x ≤ 9223372036854775807) : IntKind.i64.wrap x = x := by
  have e : IntKind.i64.wrap x = if x % 18446744073709551616 ≥ 9223372036854775808 then x % 18446744073709551616 - 18446744073709551616 else x % 18446744073709551616 := by
    have h64 : (2 : Int) ^ 64 = 18446744073709551616 := by decide
    have h63 : (2 : Int) ^ (64 - 1) = 9223372036854775808 := by decide
    unfold IntKind.wrap
    simp only [IntKind.signed, IntKind.bits, Bool.true_and, decide_eq_true_eq, h64, h63]
  rw [e]
  split <;> omega

theorem loop54 : LoopC Tryd.prog (loopAt Tryd.f54 0) d54.g := by
  refine loopC_at G2_ok (pl := noPl) PlOK.none 3 (ls := []) LsOK.nil d54 (fun vals _ => match vals with
    | [.w (.one (.d (.str s))), .w (.one (.d (.int _ i)))] => s.size - i.toNat
    | _ => 0) ?_
  intro vals mem e st' hh
  simp only [d54] at hh
  unfold h54 at hh
  split at hh
  case h_2 => cases hh
  rename_i s i
  cases hg : decide (0 ≤ i) && decide (s.size ≤ 1000000) with
  | false => simp only [Tr.s, hg, cond_false] at hh; cases hh
  | true =>
  simp only [Tr.s, hg, cond_true] at hh
  simp only [Bool.and_eq_true, decide_eq_true_eq] at hg
  obtain ⟨hi0, hsz⟩ := hg
  rw [show ([] : List B).length = 0 from rfl, show d54.N = 41 from rfl, t54L]
  by_cases hlt : i < (s.size : Int)
  · have hk : i.toNat < s.size := by omega
    have hw : IntKind.i64.wrap (i + 1) = i + 1 := wrap_id (by omega) (by omega)
    have hn : (i + 1).toNat = i.toNat + 1 := by omega
    have hz : decide (i = 0) = decide (i.toNat = 0) := by simp only [decide_eq_decide]; omega
    rw [okFrom_step hk] at hh
    simp only [hlt, hi0, decide_true, cond_true, Bool.and_self, hw, hz]
    have hstep : ∀ (hok : okAt s i.toNat = true), ∃ e1 vals1 mem1, (some (Ex.norm, [V.w (U.one (C.d (D.str s))), V.w (U.one (C.d (D.int IntKind.i64 (i + 1))))], ([] : List B))) = some (e1, vals1, mem1) ∧
        ((e1 = .norm ∧ (match vals1 with
          | [.w (.one (.d (.str s))), .w (.one (.d (.int _ i)))] => s.size - i.toNat
          | _ => 0) < s.size - i.toNat ∧ (d54.h vals1 mem1).s = some (e, st')) ∨ (e1 ≠ .norm ∧ e = e1 ∧ st' = ⟨spread d54.liveX vals1 0 d54.N, mem1⟩)) := by
      intro hok
      refine ⟨_, _, _, rfl, .inl ⟨rfl, ?_, ?_⟩⟩
      · simp only; omega
      · rw [hok, Bool.true_and] at hh
        simp only [d54, h54, Tr.s, hn, show (0 : Int) ≤ i + 1 by omega, hsz, decide_true, Bool.and_self, cond_true]
        exact hh
    have hbad : ∀ (hok : okAt s i.toNat = false), ∃ e1 vals1 mem1, (some (Ex.ret, [V.w (U.one (C.d (D.str s))), V.w (U.one (C.d (D.bool false)))], ([] : List B))) = some (e1, vals1, mem1) ∧
        ((e1 = .norm ∧ (match vals1 with
          | [.w (.one (.d (.str s))), .w (.one (.d (.int _ i)))] => s.size - i.toNat
          | _ => 0) < s.size - i.toNat ∧ (d54.h vals1 mem1).s = some (e, st')) ∨ (e1 ≠ .norm ∧ e = e1 ∧ st' = ⟨spread d54.liveX vals1 0 d54.N, mem1⟩)) := by
      intro hok
      rw [hok, Bool.false_and] at hh
      simp only [cond_false, Option.some.injEq, Prod.mk.injEq] at hh
      obtain ⟨rfl, rfl⟩ := hh
      exact ⟨_, _, _, rfl, .inr ⟨(fun h => by cases h), rfl, rfl⟩⟩
    unfold okAt at hstep hbad
    cases h1 : letterB (bt s i.toNat) <;> cases h2 : decide (i.toNat = 0) <;> cases h3 : digitB (bt s i.toNat) <;> cases h4 : decide (bt s i.toNat = 45) <;> cases h5 : decide (bt s i.toNat = 95) <;>
      simp only [h1, h2, h3, h4, h5] at hstep hbad <;> first | exact hstep rfl | exact hbad rfl
  · rw [okFrom_end (by omega)] at hh
    simp only [cond_true, Option.some.injEq, Prod.mk.injEq] at hh
    obtain ⟨rfl, rfl⟩ := hh
    simp only [hlt, decide_false, cond_false]
    exact ⟨_, _, _, rfl, .inr ⟨(fun h => by cases h), rfl, rfl⟩⟩

end
end Sh
end Go.Proofs.YtamdjlpobonmiaaDoor
