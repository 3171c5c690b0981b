/- TariffSplit: what the law computes. -/
import Derived.Test.YtamdjlpobonmiaaDoorTaX
namespace Go.Proofs.YtamdjlpobonmiaaDoor
namespace Sh
set_option maxRecDepth 100000

noncomputable section

/-- The two weights are never written. -/
def rSp (o : Oper) : Bool := match o.op with
  | .box 46 _ => true
  | _ => false
def G13 : Tab := G12.withRo rSp
theorem G13_ok : GOK Tryd.prog G13 := withRo_ok G12_ok

structure TS where
  s : ByteArray
  n : Nat
  g : Nat → Nat → Int
  gd : Nat → Nat → D
  k0 : Int
  k1 : Int
  k2 : Int
  whole : Int
  parts : Int
  i : Nat
def mS (t : TS) : List B := [.var [.d (.str t.s), sl t.n t.g], .tick 1 2, .var [.d (.str t.s), .d (.slc t.n 2 t.gd)], .tick 0 2, .var [.d (.int .i64 t.k0), .d (.int .i64 t.k1), .d (.int .i64 t.k2)], .tick 3 1]
/-- A price below the one before. -/
def dec1 (g : Nat → Nat → Int) (j : Nat) : Bool := decide (g j 1 < g (j - 1) 1)
def LSpl : LoopQ TS where
  N := 152
  live := [2, 6, 8, 13]
  liveX := [4, 6, 8]
  ext vals mem := match mem.getD 0 .gone, mem.getD 2 .gone, mem.getD 4 .gone with
    | .var [.d (.str s), .d (.slc n _ g)], .var [_, .d (.slc _ _ gd)], .var [.d (.int _ k0), .d (.int _ k1), .d (.int _ k2)] =>
      match vals.getD 1 .any, vals.getD 2 .any, vals.getD 3 .any with
      | .w (.one (.d (.int _ whole))), .w (.one (.d (.int _ parts))), .w (.one (.d (.int _ i))) => some ⟨s, n, toI g, gd, k0, k1, k2, whole, parts, i.toNat⟩
      | _, _, _ => none
    | _, _, _ => none
  pre t := szG t.s t.n && (decide (1 ≤ t.i) && decide (t.i ≤ t.n))
  head t := ([.w (.one (.ptr 0 0)), ri t.whole, ri t.parts, ri t.i], mS t)
  res t := .br (decide (ffrom (dec1 t.g) t.n t.i < t.n)) (.out .ret [rb true, ri t.whole, ri t.parts] (mS t)) (.out (.exit 2) [.any, ri t.whole, ri t.parts] (mS t))
theorem tSplL (s : ByteArray) (n : Nat) (g : Nat → Nat → Int) (gd : Nat → Nat → D) (k0 k1 k2 whole parts : Int) (i : Nat) : evN Tryd.prog G13 noPl 3 [] (loopAt Tryd.f7 1) ⟨spread [2, 6, 8, 13] [.w (.one (.ptr 0 0)), ri whole, ri parts, ri i] 0 152, mS ⟨s, n, g, gd, k0, k1, k2, whole, parts, i⟩⟩ (LSpl.s.d.obs 6) =
  bif decide ((↑i : Int) < (↑n : Int)) then
  bif decide (0 ≤ IntKind.i64.wrap ((↑i : Int) - 1)) && decide (IntKind.i64.wrap ((↑i : Int) - 1) < (↑n : Int)) && true then
  bif decide ((↑i : Int) < (↑n : Int)) && true then
  bif decide (g i 1 < g (IntKind.i64.wrap ((↑i : Int) - 1)).toNat 1) then some (Ex.ret, [rb true, ri whole, ri parts], [B.var [C.d (D.str s), sl n g], B.tick 1 2, B.var [C.d (D.str s), C.d (D.slc n 2 gd)], B.tick 0 2, B.var [C.d (D.int IntKind.i64 k0), C.d (D.int IntKind.i64 k1), C.d (D.int IntKind.i64 k2)], B.tick 3 1])
  else some (Ex.norm, [V.w (U.one (C.ptr 0 0)), ri whole, ri parts, ri (IntKind.i64.wrap ((↑i : Int) + 1))], [B.var [C.d (D.str s), sl n g], B.tick 1 2, B.var [C.d (D.str s), C.d (D.slc n 2 gd)], B.tick 0 2, B.var [C.d (D.int IntKind.i64 k0), C.d (D.int IntKind.i64 k1), C.d (D.int IntKind.i64 k2)], B.tick 3 1])
  else none
  else none
  else some (Ex.exit 2, [V.any, ri whole, ri parts], [B.var [C.d (D.str s), sl n g], B.tick 1 2, B.var [C.d (D.str s), C.d (D.slc n 2 gd)], B.tick 0 2, B.var [C.d (D.int IntKind.i64 k0), C.d (D.int IntKind.i64 k1), C.d (D.int IntKind.i64 k2)], B.tick 3 1]) := by kernel_rfl

theorem loopSpl : LoopC Tryd.prog (loopAt Tryd.f7 1) LSpl.g := by
  refine loopC_q LSpl G13_ok (pl := noPl) PlOK.none 3 (ls := []) LsOK.nil (fun t => szG t.s t.n = true ∧ 1 ≤ t.i ∧ t.i ≤ t.n) (fun t => t.n - t.i) ?_ ?_
  · rintro ⟨s, n, g, gd, k0, k1, k2, whole, parts, i⟩ h
    simpa [LSpl] using h
  · rintro ⟨s, n, g, gd, k0, k1, k2, whole, parts, i⟩ ⟨hz, h1, hi⟩
    have ht := tSplL s n g gd k0 k1 k2 whole parts i
    simp only [LSpl] at hz h1 hi ht ⊢
    rw [show (mS ⟨s, n, g, gd, k0, k1, k2, whole, parts, i⟩).length = 6 from rfl, ht]
    rw [szG_iff] at hz
    by_cases hlt : i < n
    · have q1 : (i : Int) < n := by omega
      have hw : IntKind.i64.wrap ((i : Int) + 1) = ((i + 1 : Nat) : Int) := by rw [wrap_id (by omega) (by omega)]; omega
      have hw1 : IntKind.i64.wrap ((i : Int) - 1) = ((i - 1 : Nat) : Int) := by rw [wrap_id (by omega) (by omega)]; omega
      have q2 : ((i - 1 : Nat) : Int) < n := by omega
      have q3 : (0 : Int) ≤ ((i - 1 : Nat) : Int) := by omega
      simp only [q1, hw, hw1, q2, q3, Int.toNat_natCast, decide_true, Bool.and_self, cond_true]
      rw [ffrom_step hlt]
      have hd : dec1 g i = decide (g i 1 < g (i - 1) 1) := rfl
      rw [← hd]
      cases hp : dec1 g i with
      | true =>
        right
        simp only [cond_true, hlt, decide_true, RT.r]
        exact ⟨rfl, fun h => by cases h⟩
      | false =>
        left
        refine ⟨⟨s, n, g, gd, k0, k1, k2, whole, parts, i + 1⟩, rfl, ⟨szG_iff.2 hz, by simp only; omega, hlt⟩, ?_, ?_⟩
        · simp only; omega
        · simp only [cond_false]; rfl
    · right
      obtain rfl : i = n := by omega
      rw [ffrom_end (Nat.le_refl _)]
      simp only [Int.lt_irrefl, Nat.lt_irrefl, decide_false, cond_false, RT.r]
      exact ⟨rfl, fun h => by cases h⟩

def oG (n : Nat) (g : Nat → Nat → Int) : Nat → Nat → Int := cz n 2 (toI (cd n 2 (rowI (cz n 2 g))))
def rowTwo (a b : Int) : Nat → Nat → D := fun i j => [D.int IntKind.i64 a, D.int IntKind.i64 b].getD ((0 + i) * 1 + j) D.nil
def tT (s : ByteArray) (n : Nat) (g : Nat → Nat → Int) (a b : Int) : Int × Int := totB s n (oG n g) 2 (cz 2 1 (toI (rowTwo a b)))
def sS (s : ByteArray) (n : Nat) (g : Nat → Nat → Int) (a b : Int) : Bool := sameM ([V.w (U.one (C.ptr 0 0)), ri (valE s n (oG n g) (IntKind.i64.wrap (a + b))), ri (tT s n g a b).fst, ri 1], [B.var [C.d (D.str s), sl n g], B.tick 1 2, B.var [C.d (D.str s), C.d (D.slc n 2 (cd n 2 (rowI (cz n 2 g))))], B.tick 0 2, B.var [C.d (D.int IntKind.i64 (classE s n (oG n g) a)), C.d (D.int IntKind.i64 (classE s n (oG n g) b)), C.d (D.int IntKind.i64 (classE s n (oG n g) (IntKind.i64.wrap (a + b))))], B.tick 3 1]) ([V.w (U.one (C.ptr 0 0)), ri (valE s n (oG n g) (IntKind.i64.wrap (a + b))), ri (tT s n g a b).fst, ri 1], [B.var [C.d (D.str s), sl n g], B.tick 1 2, B.var [C.d (D.str s), C.d (D.slc n 2 (cd n 2 (rowI (cz n 2 g))))], B.tick 0 2, B.var [C.d (D.int IntKind.i64 (classE s n (oG n g) a)), C.d (D.int IntKind.i64 (classE s n (oG n g) b)), C.d (D.int IntKind.i64 (classE s n (oG n g) (IntKind.i64.wrap (a + b))))], B.tick 3 1])
-- the tree as printed, with these words
theorem tSpl (s : ByteArray) (n : Nat) (g : Nat → Nat → Int) (a b : Int) : fnW Tryd.prog G13 noPl 10 [none, some LSpl.g] Tryd.f7 [tar s n g, two a b] =
  bif (tarG n 2 (rowI g)) && true then
  bif !fewB s n then some (rb true) else
  bif decide (a < 0) then some (rb true) else
  bif decide (b < 0) then some (rb true) else
  bif decide (1000000 < a) then some (rb true) else
  bif decide (1000000 < b) then some (rb true) else
  bif decide (1000000 < IntKind.i64.wrap (a + b)) then some (rb true) else
  bif (tarG n 2 (rowI g)) && szG s n then
  bif !validB s n (cz n 2 g) then some (rb true) else
  bif (tarG n 2 (rowI g)) && szG s n then
  bif tarG n 2 (cd n 2 (rowI (cz n 2 g))) && szG s n then
  bif tarG n 2 (cd n 2 (rowI (cz n 2 g))) && (szG s n && true) then
  bif !decide (errB s n (oG n g) (IntKind.i64.wrap (a + b)) = 0) then some (rb false) else
  bif !decide ((tT s n g a b).snd = 0) then some (rb false) else
  bif tarG n 2 (cd n 2 (rowI (cz n 2 g))) && szG s n then
  bif tarG n 2 (cd n 2 (rowI (cz n 2 g))) && szG s n then
  bif tarG n 2 (cd n 2 (rowI (cz n 2 g))) && szG s n then
  bif decide (classE s n (oG n g) a = classE s n (oG n g) (IntKind.i64.wrap (a + b))) then
  bif decide (classE s n (oG n g) b = classE s n (oG n g) (IntKind.i64.wrap (a + b))) then
  bif decide (IntKind.i64.wrap (valE s n (oG n g) (IntKind.i64.wrap (a + b)) - (tT s n g a b).fst) < 0) then some (rb false) else
  bif decide (1 < IntKind.i64.wrap (valE s n (oG n g) (IntKind.i64.wrap (a + b)) - (tT s n g a b).fst)) then some (rb false) else
  bif szG s n && decide (1 ≤ n) && sS s n g a b then
  bif decide (ffrom (dec1 g) n (1) < n) then some (rb true)
  else some (rb (decide ((tT s n g a b).fst ≤ valE s n (oG n g) (IntKind.i64.wrap (a + b)))))
  else none else
  bif szG s n && decide (1 ≤ n) && sS s n g a b then
  bif decide (ffrom (dec1 g) n (1) < n) then some (rb true)
  else some (rb (decide ((tT s n g a b).fst ≤ valE s n (oG n g) (IntKind.i64.wrap (a + b)))))
  else none else
  bif szG s n && decide (1 ≤ n) && sS s n g a b then
  bif decide (ffrom (dec1 g) n (1) < n) then some (rb true)
  else some (rb (decide ((tT s n g a b).fst ≤ valE s n (oG n g) (IntKind.i64.wrap (a + b)))))
  else none
  else none
  else none
  else none
  else none
  else none
  else none
  else none
  else none := by kernel_rfl

theorem sS_ok (s : ByteArray) (n : Nat) (g : Nat → Nat → Int) (a b : Int) : sS s n g a b = true := sameM_of rfl
theorem oG_eq {n : Nat} {g : Nat → Nat → Int} : oG n g = cz n 2 g := own_cz
theorem cz_row2 {a b : Int} : cz 2 1 (toI (rowTwo a b)) 0 0 = a ∧ cz 2 1 (toI (rowTwo a b)) 1 0 = b := ⟨rfl, rfl⟩

theorem tot_two {s : ByteArray} {n : Nat} {g : Nat → Nat → Int} {a b : Int} (hv : validB s n g = true) (ha : outW a = false) (hb : outW b = false) :
    totB s n g 2 (cz 2 1 (toI (rowTwo a b))) = (valueB n g a + valueB n g b, 0) := by
  have V := valid_iff.1 hv
  rw [outW_iff] at ha hb
  obtain ⟨i, hi, _⟩ := inC_of V ha.1
  obtain ⟨j, hj, _⟩ := inC_of V hb.1
  have va := vAt_bd ha.1 ha.2 (V.price0 i hi.1) (V.price1 i hi.1)
  have vb := vAt_bd hb.1 hb.2 (V.price0 j hj.1) (V.price1 j hj.1)
  rw [← value_of V hi ha.2] at va
  rw [← value_of V hj hb.2] at vb
  unfold totB
  have h0 : outFrom 2 (cz 2 1 (toI (rowTwo a b))) 0 = 2 := by
    rw [outFrom_all _ 0 rfl (by omega)]
    intro k _ hk
    match k, hk with
    | 0, _ => rw [cz_row2.1]; exact outW_iff.2 ha
    | 1, _ => rw [cz_row2.2]; exact outW_iff.2 hb
  rw [hv, cond_true, h0]
  simp only [show ¬ (1000 < 2) by decide, Nat.lt_irrefl, decide_false, cond_false]
  rw [totF_step (by omega), totF_step (by omega), totF_end (by omega), cz_row2.1, cz_row2.2]
  have e1 : IntKind.i64.wrap (0 + valueB n g a) = valueB n g a := by rw [Int.zero_add]; exact wrap_id (by omega) (by omega)
  rw [e1]
  have e2 : IntKind.i64.wrap (valueB n g a + valueB n g b) = valueB n g a + valueB n g b := wrap_id (by omega) (by omega)
  rw [e2]

theorem vAt_add {p a b : Int} : vAt p a + vAt p b ≤ vAt p (a + b) ∧ vAt p (a + b) ≤ vAt p a + vAt p b + 1 := by
  unfold vAt
  rw [Int.add_mul]
  omega
theorem vAt_price {p q a : Int} (ha : 0 ≤ a) (h : p ≤ q) : vAt p a ≤ vAt q a := by
  unfold vAt
  exact Int.ediv_le_ediv (by decide) (Int.mul_le_mul_of_nonneg_left h ha)

theorem price_mono {n : Nat} {g : Nat → Nat → Int} (h : ∀ j, 1 ≤ j → j < n → g (j - 1) 1 ≤ g j 1) : ∀ (d i : Nat), i + d < n → g i 1 ≤ g (i + d) 1
  | 0, _, _ => Int.le_refl _
  | d + 1, i, hi => Int.le_trans (price_mono h d i (by omega)) (by have := h (i + d + 1) (by omega) hi; rwa [Nat.add_sub_cancel] at this)

theorem split_plain {s : ByteArray} {n : Nat} {g : Nat → Nat → Int} {a b : Int} (hv : validB s n g = true) (ha : 0 ≤ a) (hb : 0 ≤ b) (hab : a + b ≤ 1000000) :
    (classE s n g a = classE s n g (a + b) → classE s n g b = classE s n g (a + b) → 0 ≤ valE s n g (a + b) - (valueB n g a + valueB n g b) ∧ valE s n g (a + b) - (valueB n g a + valueB n g b) ≤ 1) ∧
    ((∀ j, 1 ≤ j → j < n → g (j - 1) 1 ≤ g j 1) → valueB n g a + valueB n g b ≤ valE s n g (a + b)) := by
  have V := valid_iff.1 hv
  have oa : outW a = false := outW_iff.2 ⟨ha, by omega⟩
  have ob : outW b = false := outW_iff.2 ⟨hb, by omega⟩
  have oc : outW (a + b) = false := outW_iff.2 ⟨by omega, hab⟩
  obtain ⟨i, hi, _⟩ := inC_of V ha
  obtain ⟨j, hj, _⟩ := inC_of V hb
  obtain ⟨k, hk, _⟩ := inC_of V (w := a + b) (by omega)
  rw [val_ok hv oc, value_of V hi (by omega), value_of V hj (by omega), value_of V hk hab]
  have hadd := vAt_add (p := g k 1) (a := a) (b := b)
  constructor
  · intro h1 h2
    unfold classE at h1 h2
    rw [err_ok hv oc] at h1 h2
    rw [err_ok hv oa] at h1
    rw [err_ok hv ob] at h2
    simp only [decide_true, cond_true, class_of V hi, class_of V hj, class_of V hk] at h1 h2
    have e1 : i = k := by omega
    have e2 : j = k := by omega
    subst e1 e2
    omega
  · intro hp
    have ik := inC_mono V (a := a) (b := a + b) (by omega) hi hk
    have jk := inC_mono V (a := b) (b := a + b) (by omega) hj hk
    have p1 := price_mono hp (k - i) i (by have := hk.1; omega)
    have p2 := price_mono hp (k - j) j (by have := hk.1; omega)
    rw [show i + (k - i) = k by omega] at p1
    rw [show j + (k - j) = k by omega] at p2
    have := vAt_price ha p1
    have := vAt_price hb p2
    omega

theorem split_true (s : ByteArray) (n : Nat) (g : Nat → Nat → Int) (a b : Int) : fnW Tryd.prog G13 noPl 10 [none, some LSpl.g] Tryd.f7 [tar s n g, two a b] = some (rb true) := by
  rw [tSpl]
  simp only [oG_eq, tT]
  rw [tarG_rowI, Bool.true_and, cond_true]
  cases hf : fewB s n with
  | false => rfl
  | true =>
    have hz := few_sz hf
    simp only [Bool.not_true, cond_false]
    by_cases h1 : a < 0
    · simp only [h1, decide_true, cond_true]
    by_cases h2 : b < 0
    · simp only [h1, h2, decide_true, decide_false, cond_true, cond_false]
    by_cases h3 : 1000000 < a
    · simp only [h1, h2, h3, decide_true, decide_false, cond_true, cond_false]
    by_cases h4 : 1000000 < b
    · simp only [h1, h2, h3, h4, decide_true, decide_false, cond_true, cond_false]
    have hw : IntKind.i64.wrap (a + b) = a + b := wrap_id (by omega) (by omega)
    simp only [h1, h2, h3, h4, hw, decide_false, cond_false]
    by_cases h5 : 1000000 < a + b
    · simp only [h5, decide_true, cond_true]
    simp only [h5, hz, decide_false, cond_false, Bool.and_self, cond_true]
    cases hv : validB s n (cz n 2 g) with
    | false => rfl
    | true =>
      have V := valid_iff.1 hv
      have oa : outW a = false := outW_iff.2 ⟨by omega, by omega⟩
      have ob : outW b = false := outW_iff.2 ⟨by omega, by omega⟩
      have oc : outW (a + b) = false := outW_iff.2 ⟨by omega, by omega⟩
      obtain ⟨p1, p2⟩ := split_plain (a := a) (b := b) hv (by omega) (by omega) (by omega)
      have hone : 1 ≤ n := V.one
      simp only [tot_two hv oa ob, err_ok hv oc, sS_ok, tarG_cd, hone, decide_true, Bool.not_true, cond_false, Bool.and_self, cond_true]
      obtain ⟨i, hi, _⟩ := inC_of V (w := a) (by omega)
      obtain ⟨j, hj, _⟩ := inC_of V (w := b) (by omega)
      obtain ⟨k, hk, _⟩ := inC_of V (w := a + b) (by omega)
      have va := vAt_bd (w := a) (by omega) (by omega) (V.price0 i hi.1) (V.price1 i hi.1)
      have vb := vAt_bd (w := b) (by omega) (by omega) (V.price0 j hj.1) (V.price1 j hj.1)
      have vc := vAt_bd (w := a + b) (by omega) (by omega) (V.price0 k hk.1) (V.price1 k hk.1)
      rw [← value_of V hi (by omega)] at va
      rw [← value_of V hj (by omega)] at vb
      rw [← value_of V hk (by omega), ← val_ok hv oc] at vc
      have hww : IntKind.i64.wrap (valE s n (cz n 2 g) (a + b) - (valueB n (cz n 2 g) a + valueB n (cz n 2 g) b)) = valE s n (cz n 2 g) (a + b) - (valueB n (cz n 2 g) a + valueB n (cz n 2 g) b) := wrap_id (by omega) (by omega)
      rw [hww]
      have hlast : (bif decide (ffrom (dec1 g) n 1 < n) then some (rb true) else some (rb (decide (valueB n (cz n 2 g) a + valueB n (cz n 2 g) b ≤ valE s n (cz n 2 g) (a + b))))) = some (rb true) := by
        by_cases hF : ffrom (dec1 g) n 1 < n
        · simp only [hF, decide_true, cond_true]
        · have hsp := ffrom_spec (p := dec1 g) (n := n) _ 1 rfl V.one
          have := p2 (fun m hm1 hm2 => by
            have q := hsp.2.2.1 m hm1 (by omega)
            unfold dec1 at q
            simp only [decide_eq_false_iff_not] at q
            rw [cz_in (by omega) (by omega), cz_in hm2 (by omega)]
            omega)
          simp only [hF, this, decide_false, decide_true, cond_false]
      rw [hlast]
      by_cases c1 : classE s n (cz n 2 g) a = classE s n (cz n 2 g) (a + b)
      · by_cases c2 : classE s n (cz n 2 g) b = classE s n (cz n 2 g) (a + b)
        · obtain ⟨q1, q2⟩ := p1 c1 c2
          have r1 : ¬ (valE s n (cz n 2 g) (a + b) - (valueB n (cz n 2 g) a + valueB n (cz n 2 g) b) < 0) := by omega
          have r2 : ¬ (1 < valE s n (cz n 2 g) (a + b) - (valueB n (cz n 2 g) a + valueB n (cz n 2 g) b)) := by omega
          simp only [c1, c2, r1, r2, decide_true, decide_false, cond_true, cond_false]
        · simp only [c1, c2, decide_true, decide_false, cond_true, cond_false]
      · simp only [c1, decide_false, cond_false]

theorem split_ent2 (s : ByteArray) (n : Nat) (g : Nat → Nat → Int) (a b : Int) : EntOK Tryd.prog 7 [tar s n g, two a b] (rb true) :=
  ent_fnW (fn := Tryd.f7) G13_ok (pl := noPl) PlOK.none (n := 10) (ls := [none, some LSpl.g]) (by kernel_rfl) (by kernel_rfl) (fun i g' x h1 h2 => by
    match i, h1 with
    | 1, h1 =>
      simp only [List.getElem?_cons_succ, List.getElem?_cons_zero, Option.some.injEq] at h1
      subst h1
      have e : (loopsOf (bodyOf Tryd.f7))[1]? = some (loopAt Tryd.f7 1) := by kernel_rfl
      rw [e, Option.some.injEq] at h2
      subst h2
      exact loopSpl) (split_true s n g a b) rfl rfl rfl

end
end Sh
end Go.Proofs.YtamdjlpobonmiaaDoor
