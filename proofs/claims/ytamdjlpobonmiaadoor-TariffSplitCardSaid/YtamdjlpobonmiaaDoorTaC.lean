/- Names: the lexer's word. -/
import Derived.Test.YtamdjlpobonmiaaDoorTaB
namespace Go.Proofs.YtamdjlpobonmiaaDoor
namespace Sh
set_option maxRecDepth 100000

noncomputable section

theorem t54 (s : ByteArray) : fnW Tryd.prog G2 noPl 3 [some d54.g] Tryd.f54 [us s] =
  bif decide (s.size ≤ 1000000) then
  bif okFrom s 0 then some (V.w (U.one (C.d (D.bool (decide (0 < (↑s.size : Int)))))))
  else some (V.w (U.one (C.d (D.bool false))))
  else none := by kernel_rfl

def wordRB (s : ByteArray) : Bool := okFrom s 0 && decide (0 < (↑s.size : Int))
def eWordR (us : List U) : Option (Bool × V) := match us with
  | [.one (.d (.str s))] => some (decide (s.size ≤ 1000000), rb (wordRB s))
  | _ => none
theorem wordR_ent (s : ByteArray) (h : s.size ≤ 1000000) : EntOK Tryd.prog 54 [us s] (rb (wordRB s)) := by
  refine ent_of_fnW (fn := Tryd.f54) G2_ok (pl := noPl) PlOK.none (n := 3) (ls := [some d54.g]) (v := rb (wordRB s)) (by kernel_rfl) (by kernel_rfl) (fun c hc => ?_) ?_ rfl rfl
  · have e : bodyOf Tryd.f54 = c := by simp only [bodyOf, hc, Option.getD_some]
    rw [← e]
    exact LsOK.one (x := loopAt Tryd.f54 0) (ls := []) (by kernel_rfl) loop54
  · rw [t54]
    unfold wordRB
    simp only [h, decide_true, cond_true]
    cases okFrom s 0 <;> rfl

/- The lexer's run over a word. -/
def runTo (s : ByteArray) (k : Nat) : Nat := k + ((List.range' k (s.size - k)).takeWhile fun j => wordB (bt s j)).length
theorem runTo_step {s : ByteArray} {k : Nat} (h : k < s.size) : runTo s k = bif wordB (bt s k) then runTo s (k + 1) else k := by
  unfold runTo
  rw [show s.size - k = (s.size - (k + 1)) + 1 by omega, List.range'_succ, List.takeWhile_cons]
  cases wordB (bt s k) with
  | true => simp only [if_true, cond_true, List.length_cons]; omega
  | false => rfl
theorem runTo_end {s : ByteArray} {k : Nat} (h : s.size ≤ k) : runTo s k = k := by
  unfold runTo
  rw [show s.size - k = 0 by omega]; rfl
theorem runTo_le {s : ByteArray} {k : Nat} (h : k ≤ s.size) : runTo s k ≤ s.size := by
  unfold runTo
  have h1 : ((List.range' k (s.size - k)).takeWhile fun j => wordB (bt s j)).length ≤ (List.range' k (s.size - k)).length := (List.takeWhile_sublist _).length_le
  rw [List.length_range'] at h1
  omega

def h79 : List V → List B → Tr
  | [.w (.one (.d (.str s))), .w (.one (.fn 80 [] [])), .w (.one (.d (.int .i64 i)))], [] =>
    .br (decide (0 ≤ i) && decide (s.size ≤ 1000000)) (.out (.exit 0) ⟨spread [5] [ri (runTo s i.toNat)] 0 20, []⟩) .fail
  | _, _ => .fail
def d79 : LoopD := ⟨20, [0, 1, 5], [5], h79⟩

theorem t79L (s : ByteArray) (i : Int) : evN Tryd.prog G2 noPl 3 [] (loopAt Tryd.f79 0)
  { tmps := spread d79.live [V.w (U.one (C.d (D.str s))), V.w (U.one (C.fn 80 [] [])), V.w (U.one (C.d (D.int IntKind.i64 i)))] 0 20, mem := [] }
  (d79.obs 0) =
  bif decide (i < (↑s.size : Int)) then
  bif decide (0 ≤ i) && decide (i < (↑s.size : Int)) then
    bif wordB (bt s i.toNat) then
      some
        (Ex.norm,
          [V.w (U.one (C.d (D.str s))), V.w (U.one (C.fn 80 [] [])),
            V.w (U.one (C.d (D.int IntKind.i64 (IntKind.i64.wrap (i + 1)))))],
          [])
    else some (Ex.exit 0, [V.w (U.one (C.d (D.int IntKind.i64 i)))], [])
  else none
  else some (Ex.exit 0, [V.w (U.one (C.d (D.int IntKind.i64 i)))], []) := by kernel_rfl

theorem loop79 : LoopC Tryd.prog (loopAt Tryd.f79 0) d79.g := by
  refine loopC_at G2_ok (pl := noPl) PlOK.none 3 (ls := []) LsOK.nil d79 (fun vals _ => match vals with
    | [.w (.one (.d (.str s))), _, .w (.one (.d (.int _ i)))] => s.size - i.toNat
    | _ => 0) ?_
  intro vals mem e st' hh
  simp only [d79] at hh
  unfold h79 at hh
  split at hh
  case h_2 => cases hh
  rename_i s i
  cases hg : decide (0 ≤ i) && decide (s.size ≤ 1000000) with
  | false => simp only [Tr.s, hg, cond_false] at hh; cases hh
  | true =>
  simp only [Tr.s, hg, cond_true, Option.some.injEq, Prod.mk.injEq] at hh
  simp only [Bool.and_eq_true, decide_eq_true_eq] at hg
  obtain ⟨hi0, hsz⟩ := hg
  obtain ⟨rfl, rfl⟩ := hh
  rw [show ([] : List B).length = 0 from rfl, show d79.N = 20 from rfl, t79L]
  by_cases hlt : i < (s.size : Int)
  · have hk : i.toNat < s.size := by omega
    have hw : IntKind.i64.wrap (i + 1) = i + 1 := wrap_id (by omega) (by omega)
    have hn : (i + 1).toNat = i.toNat + 1 := by omega
    rw [runTo_step hk]
    simp only [hlt, hi0, decide_true, cond_true, Bool.and_self, hw]
    cases wordB (bt s i.toNat) with
    | true =>
      refine ⟨_, _, _, rfl, .inl ⟨rfl, ?_, ?_⟩⟩
      · simp only; omega
      · simp only [d79, h79, Tr.s, hn, show (0 : Int) ≤ i + 1 by omega, hsz, decide_true, Bool.and_self, cond_true]
    | false =>
      refine ⟨_, _, _, rfl, .inr ⟨(fun h => by cases h), rfl, ?_⟩⟩
      simp only [cond_false, ri, show ((i.toNat : Nat) : Int) = i by omega]
      rfl
  · rw [runTo_end (by omega)]
    simp only [hlt, decide_false, cond_false]
    refine ⟨_, _, _, rfl, .inr ⟨(fun h => by cases h), rfl, ?_⟩⟩
    simp only [ri, show ((i.toNat : Nat) : Int) = i by omega]
    rfl

def pl2 : Plans := addP noPl 79 [some d79.g]
theorem pl2_ok : PlOK Tryd.prog pl2 := addP_ok PlOK.none (fn := Tryd.f79) (by kernel_rfl) (LsOK.one (x := loopAt Tryd.f79 0) (ls := []) (by kernel_rfl) loop79)

theorem t60 (s : ByteArray) : fnW Tryd.prog G2 pl2 4 [] Tryd.f60 [us s] =
  bif s.toList == { data := #[] : ByteArray }.toList then some (V.w (U.one (C.d (D.int IntKind.i64 0))))
  else
  bif decide (0 < (↑s.size : Int)) then
    bif !letterB (bt s 0) then some (V.w (U.one (C.d (D.int IntKind.i64 0))))
    else bif decide (s.size ≤ 1000000) then some (V.w (U.one (C.d (D.int IntKind.i64 (↑(runTo s 0) : Int))))) else none
  else none := by kernel_rfl

theorem len_toList (s : ByteArray) : s.data.toList.length = s.size := by rw [Array.length_toList]; rfl

theorem toList_eq (s : ByteArray) : s.toList = s.data.toList := by
  have key : ∀ (n i : Nat) (r : List UInt8), n = s.size - i → ByteArray.toList.loop s i r = r.reverse ++ s.data.toList.drop i := by
    intro n
    induction n with
    | zero =>
      intro i r h
      unfold ByteArray.toList.loop
      have : ¬ i < s.size := by omega
      rw [if_neg this, List.drop_eq_nil_of_le (by rw [len_toList]; exact Nat.not_lt.1 this)]
      simp
    | succ n ih =>
      intro i r h
      have hi : i < s.size := by omega
      unfold ByteArray.toList.loop
      rw [if_pos hi, ih (i + 1) _ (by omega)]
      have hi' : i < s.data.toList.length := by rw [len_toList]; exact hi
      rw [List.drop_eq_getElem_cons hi']
      have : s.get! i = s.data.toList[i] := by
        simp only [ByteArray.get!, Array.getElem_toList]
        exact getElem!_pos s.data i hi
      rw [this]
      simp
  unfold ByteArray.toList
  rw [key s.size 0 [] (by omega)]
  simp

def wordLen (s : ByteArray) : Nat := bif decide (s.size = 0) || !letterB (bt s 0) then 0 else runTo s 0
theorem empty_eq (s : ByteArray) : (s.toList == ({ data := #[] } : ByteArray).toList) = decide (s.size = 0) := by
  rw [toList_eq, toList_eq]
  rw [← len_toList]
  cases s.data.toList <;> rfl

def eWord (us : List U) : Option (Bool × V) := match us with
  | [.one (.d (.str s))] => some (decide (s.size ≤ 1000000), ri (wordLen s))
  | _ => none
theorem word_ent (s : ByteArray) (h : s.size ≤ 1000000) : EntOK Tryd.prog 60 [us s] (ri (wordLen s)) := by
  refine ent_of_fnW (fn := Tryd.f60) G2_ok pl2_ok (n := 4) (ls := []) (v := ri (wordLen s)) (by kernel_rfl) (by kernel_rfl) (fun _ _ => LsOK.nil) ?_ rfl rfl
  rw [t60, empty_eq]
  unfold wordLen
  by_cases h0 : s.size = 0
  · simp only [h0, decide_true, cond_true, Bool.true_or]; rfl
  · have : (0 : Int) < s.size := by omega
    simp only [h0, decide_false, cond_false, Bool.false_or, this, decide_true, cond_true, h]
    cases letterB (bt s 0) <;> rfl

def G3 : Tab := addE (addE G2 54 eWordR) 60 eWord
theorem G3_ok : GOK Tryd.prog G3 := by
  refine addE_ok (addE_ok G2_ok ?_) ?_
  all_goals
    intro us v h
    simp only [eWordR, eWord] at h
    split at h
    case h_2 => cases h
    simp only [Option.some.injEq, Prod.mk.injEq, decide_eq_true_eq] at h
    obtain ⟨h1, rfl⟩ := h
  · exact wordR_ent _ h1
  · exact word_ent _ h1

end
end Sh
end Go.Proofs.YtamdjlpobonmiaaDoor
