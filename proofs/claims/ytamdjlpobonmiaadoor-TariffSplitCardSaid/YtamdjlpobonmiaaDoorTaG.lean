/- The table with Valid and Few. -/
import Derived.Test.YtamdjlpobonmiaaDoorTaF
namespace Go.Proofs.YtamdjlpobonmiaaDoor
namespace Sh
set_option maxRecDepth 100000

noncomputable section

theorem EntOK.weaken {P : Program} {f : FuncId} {us us' : List U} {v : V} (h : EntOK P f us v) (hu : ∀ (w : World) I ρ M vs, F2 (UR w I ρ M) us' vs → F2 (UR w I ρ M) us vs) : EntOK P f us' v := fun m hm =>
  ⟨(h m hm).1, fun k I ρ M w vs hS hmM hus => (h m hm).2 k I ρ M w vs hS hmM (hu w I ρ M vs hus)⟩

/-- A slice of length 0 is one of whatever cells. -/
theorem slc0 {w : World} {I : Addr → Prop} {e e' : Nat} {g g' : Nat → Nat → D} {v : Value} (h : DR w I (.slc 0 e g) v) : DR w I (.slc 0 e' g') v := by
  obtain ⟨A, cap, h1, h2, _⟩ := h
  exact ⟨A, cap, h1, h2, fun i hi => by omega⟩

theorem tar0 {w : World} {I : Addr → Prop} {ρ : List (Option Nat)} {M : List B} {s : ByteArray} {e : Nat} {g : Nat → Nat → D} {g' : Nat → Nat → Int} {v : Value} (h : UR w I ρ M (.agg [.d (.str s), .d (.slc 0 e g)]) v) : UR w I ρ M (tar s 0 g') v := by
  obtain ⟨arr, h1, h2⟩ := h
  obtain ⟨v0, l1, e1, c0, r1⟩ := F2.cons_left h2
  obtain ⟨v1, l2, e2, c1, r2⟩ := F2.cons_left r1
  obtain rfl := F2.nil_left r2
  refine ⟨arr, h1, ?_⟩
  rw [e1, e2]
  exact ⟨c0, slc0 c1, trivial⟩

/-- Cells that are ints as far as the row goes. -/
def isInt : D → Bool
  | .int .i64 _ => true
  | _ => false
theorem isInt_elim {x : D} (h : isInt x = true) : ∃ n : Int, x = D.int .i64 n := by
  unfold isInt at h
  split at h
  · exact ⟨_, rfl⟩
  · cases h
def isR (n e : Nat) (g : Nat → Nat → D) : Bool := (List.range n).all fun i => (List.range e).all fun j => isInt (g i j)
theorem isR_elim {n e : Nat} {g : Nat → Nat → D} (h : isR n e g = true) : ∀ i j, i < n → j < e → g i j = D.int .i64 (toI g i j) := by
  unfold isR at h
  intro i j hi hj
  have h1 := List.all_eq_true.1 (List.all_eq_true.1 h i (List.mem_range.2 hi)) j (List.mem_range.2 hj)
  obtain ⟨x, hx⟩ := isInt_elim h1
  unfold toI
  rw [hx]
theorem isR_intro {n e : Nat} {g : Nat → Nat → D} (h : ∀ i j, i < n → j < e → ∃ x : Int, g i j = D.int .i64 x) : isR n e g = true := by
  unfold isR
  refine List.all_eq_true.2 fun i hi => List.all_eq_true.2 fun j hj => ?_
  obtain ⟨x, hx⟩ := h i j (List.mem_range.1 hi) (List.mem_range.1 hj)
  rw [hx]; rfl

theorem slcR {w : World} {I : Addr → Prop} {n e : Nat} {g g' : Nat → Nat → D} {v : Value} (hg : ∀ i j, i < n → j < e → g i j = g' i j) (h : DR w I (.slc n e g) v) : DR w I (.slc n e g') v := by
  obtain ⟨A, cap, h1, h2, h3⟩ := h
  refine ⟨A, cap, h1, h2, fun i hi j hj => ?_⟩
  obtain ⟨a, u, h4, h5, h6, h7⟩ := h3 i hi j hj
  exact ⟨a, u, h4, h5, h6, hg i j hi hj ▸ h7⟩

theorem blt_f {a b : Nat} (h : ¬ a < b) : Nat.blt a b = false := by
  cases hb : Nat.blt a b with
  | false => rfl
  | true => rw [Nat.blt_eq] at hb; omega
/-- Numbers of a row; nothing beyond it. -/
def cz (n e : Nat) (g : Nat → Nat → Int) : Nat → Nat → Int := fun i j => bif Nat.blt i n && Nat.blt j e then g i j else 0
theorem cz_in {n e : Nat} {g : Nat → Nat → Int} {i j : Nat} (hi : i < n) (hj : j < e) : cz n e g i j = g i j := by
  unfold cz
  rw [show Nat.blt i n = true by simpa using hi, show Nat.blt j e = true by simpa using hj]; rfl
theorem cz_eq {n e : Nat} {g g' : Nat → Nat → Int} (h : ∀ i j, i < n → j < e → g i j = g' i j) : cz n e g = cz n e g' := by
  funext i j
  unfold cz
  by_cases hi : i < n
  · by_cases hj : j < e
    · rw [show Nat.blt i n = true by simpa using hi, show Nat.blt j e = true by simpa using hj]; exact h i j hi hj
    · have : Nat.blt j e = false := blt_f hj
      rw [this]; simp
  · have : Nat.blt i n = false := blt_f hi
    rw [this]; simp
theorem cz_cz {n e : Nat} {g : Nat → Nat → Int} : cz n e (cz n e g) = cz n e g := cz_eq fun _ _ => cz_in

/-- Data of a row of a given width; nothing beyond it. -/
def cd (n e : Nat) (g : Nat → Nat → D) : Nat → Nat → D := fun i j => bif Nat.blt i n && Nat.blt j e then g i j else .nil
theorem cd_in {n e : Nat} {g : Nat → Nat → D} {i j : Nat} (hi : i < n) (hj : j < e) : cd n e g i j = g i j := by
  unfold cd
  rw [show Nat.blt i n = true by simpa using hi, show Nat.blt j e = true by simpa using hj]; rfl

def rowI (g : Nat → Nat → Int) : Nat → Nat → D := fun i j => .int .i64 (g i j)
theorem isR_rowI {n e : Nat} {g : Nat → Nat → Int} : isR n e (rowI g) = true := isR_intro fun i j _ _ => ⟨g i j, rfl⟩
theorem isR_fun {n e : Nat} {g : Nat → Nat → Int} : isR n e (fun i j => D.int .i64 (g i j)) = true := isR_intro fun i j _ _ => ⟨g i j, rfl⟩
theorem isR_cd {n e : Nat} {g : Nat → Nat → Int} : isR n e (cd n e (rowI g)) = true := isR_intro fun i j hi hj => ⟨g i j, cd_in hi hj⟩
theorem toI_rowI {g : Nat → Nat → Int} : toI (rowI g) = g := rfl
theorem cz_cd {n e : Nat} {g : Nat → Nat → Int} : cz n e (toI (cd n e (rowI g))) = cz n e g := cz_eq fun i j hi hj => by
  unfold toI
  rw [cd_in hi hj]; rfl

/-- A tariff's shadow is one. -/
def tarG (n e : Nat) (g : Nat → Nat → D) : Bool := (decide (n = 0) || decide (e = 2)) && isR n 2 g
theorem tarG_fun {n : Nat} {g : Nat → Nat → Int} : tarG n 2 (fun i j => D.int .i64 (g i j)) = true := by unfold tarG; rw [isR_fun]; simp
theorem tarG_rowI {n : Nat} {g : Nat → Nat → Int} : tarG n 2 (rowI g) = true := by unfold tarG; rw [isR_rowI]; simp
theorem tarG_cd {n : Nat} {g : Nat → Nat → Int} : tarG n 2 (cd n 2 (rowI g)) = true := by unfold tarG; rw [isR_cd]; simp
def szG (s : ByteArray) (n : Nat) : Bool := decide (s.size ≤ 1000000) && decide (n ≤ 1000000)

theorem tarW {w : World} {I : Addr → Prop} {ρ : List (Option Nat)} {M : List B} {s : ByteArray} {n e : Nat} {g : Nat → Nat → D} {v : Value} (hG : tarG n e g = true) (h : UR w I ρ M (.agg [.d (.str s), .d (.slc n e g)]) v) :
    UR w I ρ M (tar s n (cz n 2 (toI g))) v := by
  unfold tarG at hG
  simp only [Bool.and_eq_true, Bool.or_eq_true, decide_eq_true_eq] at hG
  obtain ⟨h0, hR⟩ := hG
  rcases h0 with rfl | rfl
  · exact tar0 h
  · obtain ⟨arr, h1, h2⟩ := h
    obtain ⟨v0, l1, e1, c0, r1⟩ := F2.cons_left h2
    obtain ⟨v1, l2, e2, c1, r2⟩ := F2.cons_left r1
    obtain rfl := F2.nil_left r2
    refine ⟨arr, h1, ?_⟩
    rw [e1, e2]
    exact ⟨c0, slcR (fun i j hi hj => by rw [isR_elim hR i j hi hj, cz_in hi hj]) c1, trivial⟩

/-- What a tariff's shadow says: the material, the number of classes, the numbers; and what stands behind it. -/
def eT (k : ByteArray → Nat → (Nat → Nat → Int) → List U → Option (Bool × V)) (us : List U) : Option (Bool × V) := match us with
  | .agg [.d (.str s), .d (.slc n e g)] :: rest => match k s n (cz n 2 (toI g)) rest with
    | some (ok, v) => some (tarG n e g && ok, v)
    | none => none
  | _ => none

theorem eT_ok {P : Program} {f : FuncId} {k : ByteArray → Nat → (Nat → Nat → Int) → List U → Option (Bool × V)} (h : ∀ s n g rest v, k s n g rest = some (true, v) → EntOK P f (tar s n g :: rest) v) :
    ∀ us v, eT k us = some (true, v) → EntOK P f us v := by
  intro us v hh
  unfold eT at hh
  split at hh
  · rename_i s n e g rest
    split at hh
    · rename_i ok v' hk
      simp only [Option.some.injEq, Prod.mk.injEq, Bool.and_eq_true] at hh
      obtain ⟨⟨hG, rfl⟩, rfl⟩ := hh
      refine (h s n _ rest _ hk).weaken fun w I ρ M vs hu => ?_
      obtain ⟨v0, l1, rfl, c0, r1⟩ := F2.cons_left hu
      exact ⟨tarW hG c0, r1⟩
    · cases hh
  · cases hh

def eT0 (k : ByteArray → Nat → (Nat → Nat → Int) → Option (Bool × V)) : List U → Option (Bool × V) := eT fun s n g rest => match rest with
  | [] => k s n g
  | _ => none
theorem eT0_ok {P : Program} {f : FuncId} {k : ByteArray → Nat → (Nat → Nat → Int) → Option (Bool × V)} (h : ∀ s n g v, k s n g = some (true, v) → EntOK P f [tar s n g] v) :
    ∀ us v, eT0 k us = some (true, v) → EntOK P f us v := eT_ok fun s n g rest v hk => by
  split at hk
  · exact h s n g v hk
  · cases hk
def eT1 (k : ByteArray → Nat → (Nat → Nat → Int) → Int → Option (Bool × V)) : List U → Option (Bool × V) := eT fun s n g rest => match rest with
  | [.one (.d (.int .i64 w))] => k s n g w
  | _ => none
theorem eT1_ok {P : Program} {f : FuncId} {k : ByteArray → Nat → (Nat → Nat → Int) → Int → Option (Bool × V)} (h : ∀ s n g w v, k s n g w = some (true, v) → EntOK P f [tar s n g, ui w] v) :
    ∀ us v, eT1 k us = some (true, v) → EntOK P f us v := eT_ok fun s n g rest v hk => by
  split at hk
  · rename_i w
    exact h s n g w v hk
  · cases hk

def eValid : List U → Option (Bool × V) := eT0 fun s n g => some (szG s n, rb (validB s n g))

def fewB (s : ByteArray) (n : Nat) : Bool := decide ((n : Int) ≤ 22) && decide ((s.size : Int) ≤ 40)
theorem t10 (s : ByteArray) (n : Nat) (g : Nat → Nat → Int) : fnV Tryd.prog G4 3 Tryd.f10 [tar s n g] =
  bif decide ((↑n : Int) ≤ 22) then some (rb (decide ((↑s.size : Int) ≤ 40)))
  else some (rb false) := by kernel_rfl
def eFew : List U → Option (Bool × V) := eT0 fun s n _ => some (true, rb (fewB s n))

def G5 : Tab := addE (addE (addE G4 17 eValid) 23 eValid) 10 eFew
theorem G5_ok : GOK Tryd.prog G5 := by
  refine addE_ok (addE_ok (addE_ok G4_ok (eT0_ok ?_)) (eT0_ok ?_)) (eT0_ok ?_)
  · intro s n g v hk
    simp only [Option.some.injEq, Prod.mk.injEq, szG, Bool.and_eq_true, decide_eq_true_eq] at hk
    obtain ⟨⟨h1, h2⟩, rfl⟩ := hk
    exact validR_ent s n g h1 h2
  · intro s n g v hk
    simp only [Option.some.injEq, Prod.mk.injEq, szG, Bool.and_eq_true, decide_eq_true_eq] at hk
    obtain ⟨⟨h1, h2⟩, rfl⟩ := hk
    exact valid_ent s n g h1 h2
  · intro s n g v hk
    simp only [Option.some.injEq, Prod.mk.injEq, true_and] at hk
    subst hk
    refine ent_of_fnV (fn := Tryd.f10) G4_ok (n := 3) (v := rb (fewB s n)) (by kernel_rfl) (by kernel_rfl) ?_ rfl rfl
    rw [t10]; unfold fewB
    cases decide ((n : Int) ≤ 22) <;> rfl

end
end Sh
end Go.Proofs.YtamdjlpobonmiaaDoor
