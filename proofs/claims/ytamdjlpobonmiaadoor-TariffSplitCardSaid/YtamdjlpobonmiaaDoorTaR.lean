/- The library's functions on strings and numbers: plain laws on bytes. -/
import Derived.Test.YtamdjlpobonmiaaDoorShV
import Derived.Lib.SplitLaws
import Derived.Lib.CutLaws
import Derived.Lib.ItoaNum
import Derived.Lib.Strings
import Derived.Lib.AtoiAll
import Derived.Lib.Join
namespace Go.Proofs.YtamdjlpobonmiaaDoor
namespace Sh

def bs (l : List UInt8) : ByteArray := ⟨l.toArray⟩
theorem bs_data (l : List UInt8) : (bs l).data.toList = l := by simp [bs]
theorem data_bs (s : ByteArray) : bs s.data.toList = s := by cases s; simp [bs]
theorem size_bs (l : List UInt8) : (bs l).size = l.length := by
  show (bs l).data.size = _
  simp [bs]

/-- What strings.Cut gives at a separator of one byte. -/
def cut1 (c : UInt8) : List UInt8 → List UInt8 × List UInt8 × Bool
  | [] => ([], [], false)
  | b :: l => bif b == c then ([], l, true) else (b :: (cut1 c l).1, (cut1 c l).2.1, (cut1 c l).2.2)

theorem index_cons (b c : UInt8) (l : List UInt8) : Lib.index (b :: l) [c] = if b = c then 0 else if Lib.index l [c] = -1 then -1 else Lib.index l [c] + 1 := by
  simp only [Lib.index]
  by_cases h : b = c
  · subst h; simp
  · have h' : ¬ c = b := fun e => h e.symm
    simp [h, h']

theorem cut_one (c : UInt8) : ∀ l : List UInt8, Lib.cut l [c] = cut1 c l
  | [] => by simp [Lib.cut, Lib.index, cut1]
  | b :: l => by
    have ih := cut_one c l
    have hge := Lib.index_ge l [c]
    unfold Lib.cut at ih ⊢
    rw [index_cons]
    by_cases h : b = c
    · subst h
      simp [cut1]
    · have hb : (b == c) = false := by simpa using h
      simp only [h, if_false, cut1, hb, cond_false, ← ih]
      by_cases h1 : Lib.index l [c] = -1
      · simp [h1]
      · have h2 : 0 ≤ Lib.index l [c] := by omega
        have h3 : 0 ≤ Lib.index l [c] + 1 := by omega
        simp only [h1, h2, h3, if_true, if_false]
        have e1 : (Lib.index l [c] + 1).toNat = (Lib.index l [c]).toNat + 1 := by omega
        rw [e1]
        have e2 : (Lib.index l [c]).toNat + 1 + [c].length = (Lib.index l [c]).toNat + [c].length + 1 := by omega
        rw [e2, List.take_succ_cons, List.drop_succ_cons]

/-- What strings.Split gives at a separator of one byte. -/
def splitL (c : UInt8) : List UInt8 → List (List UInt8)
  | [] => [[]]
  | b :: l => bif b == c then [] :: splitL c l else (match splitL c l with
    | x :: xs => (b :: x) :: xs
    | [] => [[b]])
theorem splitL_ne (c : UInt8) : ∀ l, splitL c l ≠ []
  | [] => by simp [splitL]
  | b :: l => by
    unfold splitL
    cases b == c with
    | true => simp
    | false => cases h : splitL c l with
      | nil => simp
      | cons x xs => simp
theorem splitL_miss (c : UInt8) : ∀ l, l.count c = 0 → splitL c l = [l]
  | [], _ => rfl
  | b :: l, h => by
    have hb : b ≠ c := fun e => by subst e; simp at h
    have hb' : (b == c) = false := by simpa using hb
    rw [List.count_cons_of_ne hb] at h
    unfold splitL
    rw [hb', cond_false, splitL_miss c l h]
theorem splitL_cons_ne {b c : UInt8} (h : b ≠ c) (l : List UInt8) : ∃ x xs, splitL c l = x :: xs ∧ splitL c (b :: l) = (b :: x) :: xs := by
  have hb' : (b == c) = false := by simpa using h
  cases hs : splitL c l with
  | nil => exact absurd hs (splitL_ne c l)
  | cons x xs => refine ⟨x, xs, rfl, ?_⟩; rw [splitL, hb', cond_false, hs]
theorem splitL_eq (c : UInt8) (l : List UInt8) : splitL c (c :: l) = [] :: splitL c l := by
  rw [splitL]; simp
theorem splitL_hit (c : UInt8) : ∀ (p l : List UInt8), p.count c = 0 → splitL c (p ++ c :: l) = p :: splitL c l
  | [], l, _ => by simp [splitL]
  | b :: p, l, h => by
    have hb : b ≠ c := fun e => by subst e; simp at h
    rw [List.count_cons_of_ne hb] at h
    obtain ⟨x, xs, h1, h2⟩ := splitL_cons_ne hb (p ++ c :: l)
    rw [List.cons_append, h2]
    rw [splitL_hit c p l h] at h1
    simp only [List.cons.injEq] at h1
    obtain ⟨rfl, rfl⟩ := h1
    rfl

theorem index_split (c : UInt8) : ∀ l : List UInt8, (Lib.index l [c] = -1 ∧ l.count c = 0) ∨ ∃ p q, l = p ++ c :: q ∧ p.count c = 0 ∧ Lib.index l [c] = p.length
  | [] => .inl ⟨by simp [Lib.index], rfl⟩
  | b :: l => by
    rw [index_cons]
    by_cases h : b = c
    · subst h; exact .inr ⟨[], l, rfl, rfl, by simp⟩
    · rcases index_split c l with ⟨h1, h2⟩ | ⟨p, q, rfl, h2, h3⟩
      · exact .inl ⟨by simp [h, h1], by rw [List.count_cons_of_ne h, h2]⟩
      · refine .inr ⟨b :: p, q, rfl, by rw [List.count_cons_of_ne h, h2], ?_⟩
        have : Lib.index (p ++ c :: q) [c] ≠ -1 := by omega
        simp only [h, this, if_false, List.length_cons]
        omega

theorem splitK_one (c : UInt8) : ∀ (k : Nat) (l : List UInt8), l.count c = k → Lib.splitK [c] 0 k l = splitL c l
  | 0, l, h => by rw [splitL_miss c l h]; rfl
  | k + 1, l, h => by
    rcases index_split c l with ⟨_, h2⟩ | ⟨p, q, rfl, h2, h3⟩
    · omega
    · rw [splitL_hit c p q h2]
      have hq : q.count c = k := by
        rw [List.count_append, h2, List.count_cons_self] at h; omega
      unfold Lib.splitK
      have h5 : (Lib.index (p ++ c :: q) [c] == -1) = false := by simp; omega
      rw [h5, h3]
      simp only [Bool.false_eq_true, if_false, Int.toNat_natCast, Nat.add_zero, List.length_singleton]
      have e1 : List.take p.length (p ++ c :: q) = p := by simp
      have e2 : List.drop (p.length + 1) (p ++ c :: q) = q := by
        rw [List.drop_append]; simp
      rw [e1, e2, splitK_one c k q hq]
theorem split_one (c : UInt8) (s : ByteArray) : (Lib.splitB ⟨#[c]⟩ 0 (Lib.countB s ⟨#[c]⟩) s).map (·.data.toList) = splitL c s.data.toList := by
  rw [Lib.splitB_data]
  refine splitK_one c _ _ ?_
  show List.count c s.data.toList = Lib.count _ _
  rw [show (⟨#[c]⟩ : ByteArray).data.toList = [c] from rfl, Lib.count_one]
theorem split_len (c : UInt8) (s : ByteArray) : Lib.countB s ⟨#[c]⟩ + 1 = (splitL c s.data.toList).length := by
  rw [← split_one, List.length_map, Lib.splitB_all ⟨#[c]⟩ (Nat.le_refl 1) 0 _ s rfl]

/-- Decimal digits. -/
def digF : Nat → Nat → List UInt8
  | 0, _ => []
  | f + 1, u => bif Nat.blt u 10 then [UInt8.ofNat (48 + u)] else digF f (u / 10) ++ [UInt8.ofNat (48 + u % 10)]
theorem digF_dec : ∀ (f u : Nat), u < 10 ^ f → 1 ≤ f → digF f u = Lib.decDigits u
  | f + 1, u, h, _ => by
    rw [Lib.decDigits]
    unfold digF
    by_cases hu : u < 10
    · have : Nat.blt u 10 = true := by simpa using hu
      rw [this, cond_true, dif_pos hu]
    · have : Nat.blt u 10 = false := by
        cases hb : Nat.blt u 10 with
        | false => rfl
        | true => rw [Nat.blt_eq] at hb; omega
      rw [this, cond_false, dif_neg hu]
      have hf : 1 ≤ f := by
        rcases Nat.eq_zero_or_pos f with rfl | hf
        · simp at h; omega
        · exact hf
      rw [digF_dec f (u / 10) (by rw [Nat.pow_succ] at h; omega) hf]
def itoaL (n : Int) : List UInt8 := bif decide (n < 0) then 45 :: digF 20 n.natAbs else digF 20 n.toNat
theorem itoaL_eq {n : Int} (h0 : -9223372036854775808 ≤ n) (h1 : n ≤ 9223372036854775807) : Lib.itoa n = itoaL n := by
  unfold Lib.itoa itoaL
  have hp : (10 : Nat) ^ 20 = 100000000000000000000 := by decide
  by_cases h : n < 0
  · simp only [h, if_true, decide_true, cond_true]
    rw [digF_dec 20 _ (by rw [hp]; omega) (by omega)]
  · simp only [h, if_false, decide_false, cond_false]
    rw [digF_dec 20 _ (by rw [hp]; omega) (by omega)]

/-- The number that strconv.Atoi hands back. -/
def atoiV (l : List UInt8) : Int := match Lib.atoiAll l with
  | .ok v => v
  | .range => Lib.atoiSat l
  | _ => 0

end Sh
end Go.Proofs.YtamdjlpobonmiaaDoor
