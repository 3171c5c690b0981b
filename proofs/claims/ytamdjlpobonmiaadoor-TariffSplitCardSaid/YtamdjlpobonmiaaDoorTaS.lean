/- The library's functions on strings and numbers: as entries. -/
import Derived.Test.YtamdjlpobonmiaaDoorShelf
import Derived.Test.YtamdjlpobonmiaaDoorTaQ
import Derived.Test.YtamdjlpobonmiaaDoorTaR
namespace Go.Proofs.YtamdjlpobonmiaaDoor
namespace Sh
open Go.RowKit
set_option maxRecDepth 100000

noncomputable section

theorem enters_of {P : Program} {f : FuncId} {fn : Func} (hf : P.funcs[f]? = some fn) (hb : fn.body.isSome = true) (hn : (fn.name == "runtime.NumGoroutine") = false) : Enters P f := by
  cases h : fn.body with
  | none => rw [h] at hb; cases hb
  | some c => exact ⟨fn, c, hf, h, hn⟩

def ust (l : List UInt8) : U := .one (.d (.str (bs l)))
theorem ur_str {w : World} {I : Addr → Prop} {ρ : List (Option Nat)} {M : List B} {s : ByteArray} {v : Value} (h : UR w I ρ M (.one (.d (.str s))) v) : v = .string s := h
theorem add_own (b o n : Nat) : (⟨b, o, none⟩ : Addr).add n = ⟨b, o + n, none⟩ := by
  unfold Addr.add
  split
  · rename_i h; subst h; rfl
  · rfl
theorem mk_bs (l : List UInt8) : (⟨l.toArray⟩ : ByteArray) = bs l := rfl

theorem cut_ent (s : ByteArray) (c : UInt8) (hs : s.size < 4294967281) : EntOK Tryd.prog 28 [us s, us ⟨#[c]⟩] (.tup [ust (cut1 c s.data.toList).1, ust (cut1 c s.data.toList).2.1, .one (.d (.bool (cut1 c s.data.toList).2.2))]) := by
  refine ent_of_quiet (enters_of (fn := Tryd.f28) (by kernel_rfl) (by kernel_rfl) (by kernel_rfl)) rfl rfl fun I w vs hI hg hu => ?_
  obtain ⟨v0, l1, rfl, c0, r1⟩ := F2.cons_left hu
  obtain ⟨v1, l2, rfl, c1, r2⟩ := F2.cons_left r1
  obtain rfl := F2.nil_left r2
  obtain rfl := ur_str c0
  obtain rfl := ur_str c1
  obtain ⟨m, tS, pS, tR, pR, g0, _⟩ := hg
  obtain ⟨arr, T, f, h1, h2, h3⟩ := g0
  have hm : w.cell? ⟨0, 0, none⟩ = some (.int .i64 m) := by
    simp only [World.cell?, h1, Option.isSome_none, Bool.false_eq_true, if_false]
    rw [← Array.getElem?_toList, h2]; rfl
  refine (Tryd.strings_Cut s ⟨#[c]⟩ m w hs hm).mono ?_
  rintro e w' ⟨rfl, n, rfl⟩
  rw [show (⟨#[c]⟩ : ByteArray).data.toList = [c] from rfl, cut_one]
  exact ⟨_, rfl, below_drewN n, _, rfl, rfl, rfl, rfl, trivial⟩

theorem split_ent (s : ByteArray) (c : UInt8) (hs : s.size < 4294967281) : EntOK Tryd.prog 29 [us s, us ⟨#[c]⟩] (.w (.one (.d (.slc (splitL c s.data.toList).length 1 fun i _ => .str (bs ((splitL c s.data.toList).getD i [])))))) := by
  refine ent_of_calls (enters_of (fn := Tryd.f29) (by kernel_rfl) (by kernel_rfl) (by kernel_rfl)) rfl rfl fun I w vs hI hg hu => ?_
  obtain ⟨v0, l1, rfl, c0, r1⟩ := F2.cons_left hu
  obtain ⟨v1, l2, rfl, c1, r2⟩ := F2.cons_left r1
  obtain rfl := F2.nil_left r2
  obtain rfl := ur_str c0
  obtain rfl := ur_str c1
  obtain ⟨m, tS, pS, tR, pR, g0, _⟩ := hg
  obtain ⟨arr, T, f, h1, h2, h3⟩ := g0
  have hm : w.cell? ⟨0, 0, none⟩ = some (.int .i64 m) := by
    simp only [World.cell?, h1, Option.isSome_none, Bool.false_eq_true, if_false]
    rw [← Array.getElem?_toList, h2]; rfl
  refine (Tryd.strings_Split s ⟨#[c]⟩ m w hs hm (Nat.le_refl 1)).mono ?_
  rintro e w' ⟨rfl, rfl⟩
  have hsp := split_one c s
  have hlen : (Lib.splitB ⟨#[c]⟩ 0 (Lib.countB s ⟨#[c]⟩) s).length = (splitL c s.data.toList).length := by rw [← hsp, List.length_map]
  have hcell : ∀ i, i < (splitL c s.data.toList).length → (w.alloc (Obj.cells (List.map Value.string (Lib.splitB ⟨#[c]⟩ 0 (Lib.countB s ⟨#[c]⟩) s)).toArray 9)).cell? ⟨w.heap.size, i, none⟩ = some (.string (bs ((splitL c s.data.toList).getD i []))) := by
    intro i hi
    have h5 : i < (Lib.splitB ⟨#[c]⟩ 0 (Lib.countB s ⟨#[c]⟩) s).length := by omega
    have h6 : (w.alloc (Obj.cells (List.map Value.string (Lib.splitB ⟨#[c]⟩ 0 (Lib.countB s ⟨#[c]⟩) s)).toArray 9)).heap[w.heap.size]? = some (Obj.cells (List.map Value.string (Lib.splitB ⟨#[c]⟩ 0 (Lib.countB s ⟨#[c]⟩) s)).toArray 9) := by
      show (w.heap.push _)[w.heap.size]? = _
      exact Array.getElem?_push_size
    simp only [World.cell?, h6, Option.isSome_none, Bool.false_eq_true, if_false]
    rw [← Array.getElem?_toList]
    simp only [List.getElem?_map, List.getElem?_eq_getElem h5, Option.map_some, Option.some.injEq, Value.string.injEq]
    rw [← hsp]
    simp only [List.getD, List.getElem?_map, List.getElem?_eq_getElem h5, Option.map_some, Option.getD_some]
    exact (data_bs _).symm
  refine ⟨_, rfl, (Below.refl _ _).alloc (Nat.le_refl _) _, fun a => I a ∨ (a.block = w.heap.size ∧ a.spot = none ∧ a.off < (splitL c s.data.toList).length), fun a h => .inl h, fun a h => ?_, ?_⟩
  · rcases h with h | ⟨h4, h5, h6⟩
    · exact .inl h
    · obtain ⟨b, o, sp⟩ := a
      simp only at h4 h5 h6
      subst h4 h5
      exact .inr ⟨Nat.le_refl _, _, hcell _ h6⟩
  · refine ⟨some ⟨w.heap.size, 0, none⟩, Lib.countB s ⟨#[c]⟩ + 1, ?_, ?_, fun i hi j hj => ?_⟩
    · rw [split_len]
    · rw [split_len]; exact Nat.le_refl _
    · obtain rfl : j = 0 := by omega
      refine ⟨_, _, rfl, ?_, ?_, rfl⟩
      · rw [add_own]
        exact .inr ⟨rfl, rfl, by show 0 + (i * 1 + 0) < _; omega⟩
      · rw [add_own, show 0 + (i * 1 + 0) = i by omega]
        exact hcell i hi

theorem trimP_ent (s p : ByteArray) : EntOK Tryd.prog 30 [us s, us p] (.w (ust (Lib.trimPrefix s.data.toList p.data.toList))) := by
  refine ent_of_quiet (enters_of (fn := Tryd.f30) (by kernel_rfl) (by kernel_rfl) (by kernel_rfl)) rfl rfl fun I w vs hI hg hu => ?_
  obtain ⟨v0, l1, rfl, c0, r1⟩ := F2.cons_left hu
  obtain ⟨v1, l2, rfl, c1, r2⟩ := F2.cons_left r1
  obtain rfl := F2.nil_left r2
  obtain rfl := ur_str c0
  obtain rfl := ur_str c1
  refine (Tryd.strings_TrimPrefix s p w).mono ?_
  rintro e w' ⟨rfl, rfl⟩
  exact ⟨_, rfl, Below.refl _ _, rfl⟩

theorem atoi_ent (s : ByteArray) (hs : s.size ≤ 1000000) : EntOK Tryd.prog 31 [us s] (.tup [ui (atoiV s.data.toList), .one .unk]) := by
  refine ent_of_quiet (enters_of (fn := Tryd.f31) (by kernel_rfl) (by kernel_rfl) (by kernel_rfl)) rfl rfl fun I w vs hI hg hu => ?_
  obtain ⟨v0, l1, rfl, c0, r1⟩ := F2.cons_left hu
  obtain rfl := F2.nil_left r1
  obtain rfl := ur_str c0
  obtain ⟨m, tS, pS, tR, pR, _, _, gS, gR⟩ := hg
  have cellOf : ∀ (g : Nat) (x : Value), Laid I w g [x] → w.cell? ⟨g, 0, none⟩ = some x := by
    rintro g x ⟨arr, T, f, h1, h2, h3⟩
    simp only [World.cell?, h1, Option.isSome_none, Bool.false_eq_true, if_false]
    rw [← Array.getElem?_toList, h2]; rfl
  unfold atoiV
  cases ha : Lib.atoiAll s.data.toList with
  | ok v =>
    refine (Tryd.strconv_Atoi_ok s (by omega) v ha w).mono ?_
    rintro e w' ⟨rfl, hw⟩
    refine ⟨_, rfl, ?_, _, rfl, rfl, rfl, trivial⟩
    rcases hw with rfl | ⟨t, rfl⟩
    · exact Below.refl _ _
    · unfold Lib.bytesWorld
      refine Below.trans (b := w.drew.alloc (.cells (Lib.bytesCells w 5 t) 5)) ((Below.refl _ _).drew.alloc (Nat.le_refl _) _) ?_
      have hb : ∀ (x : World) (a : Addr) (n : Nat), w.heap.size ≤ a.block → Below w.heap.size x (x.freeze a n) := by
        intro x a n h
        refine ⟨by unfold World.freeze; split <;> rfl, by unfold World.freeze; split <;> rfl, by unfold World.freeze; split <;> rfl, ?_, fun k hk => ?_⟩
        · unfold World.freeze; split <;> simp
        · have hne : a.block ≠ k := by omega
          unfold World.freeze
          split
          · rfl
          · simp only [Array.getElem?_modify, hne, if_false]
      exact hb _ _ _ (Nat.le_refl _)
  | range =>
    refine (Tryd.strconv_Atoi_range s (by omega) ha _ w (cellOf _ _ gR) (.inr ⟨_, _, rfl⟩)).mono ?_
    rintro e w' ⟨N, rfl, _, _, hB⟩
    exact ⟨_, rfl, hB, _, rfl, rfl, rfl, trivial⟩
  | _ =>
    refine (Any.strconv_Atoi_syntax Tryd.laysC172 s (by omega) ha _ w (cellOf _ _ gS) (.inr ⟨_, _, rfl⟩)).mono ?_
    rintro e w' ⟨N, rfl, _, _, hB⟩
    exact ⟨_, rfl, hB, _, rfl, rfl, rfl, trivial⟩

theorem itoa_ent (n : Int) (h0 : -9223372036854775808 ≤ n) (h1 : n ≤ 9223372036854775807) : EntOK Tryd.prog 34 [ui n] (.w (ust (itoaL n))) := by
  refine ent_of_quiet (enters_of (fn := Tryd.f34) (by kernel_rfl) (by kernel_rfl) (by kernel_rfl)) rfl rfl fun I w vs hI hg hu => ?_
  obtain ⟨v0, l1, rfl, c0, r1⟩ := F2.cons_left hu
  obtain rfl := F2.nil_left r1
  have c0 : v0 = .int .i64 n := c0
  subst c0
  obtain ⟨m, tS, pS, tR, pR, _, gT, _⟩ := hg
  have hT : Lib.TabIs Tryd.prog w "internal/strconv.uint64pow10" .u64 Lib.pow10Tab := by
    obtain ⟨arr, T, f, h1, h2, h3⟩ := gT
    unfold Lib.TabIs World.var?
    rw [show Tryd.prog.globalNamed "internal/strconv.uint64pow10" = some 3 by kernel_rfl]
    simp only [Option.bind_some, h1]
    rw [← h2]
  refine (Tryd.strconv_Itoa n h0 h1 w hT).mono ?_
  rintro e w' ⟨rfl, k, os, rfl⟩
  rw [itoaL_eq h0 h1]
  refine ⟨_, rfl, (below_drewN k).trans ⟨rfl, rfl, rfl, ?_, fun i hi => ?_⟩, rfl⟩
  · simp [Sort.grow]
  · unfold Sort.grow
    exact Array.getElem?_append_left hi

/- Strings one behind the other. -/
def toS (g : Nat → Nat → D) (i : Nat) : ByteArray := match g i 0 with
  | .str s => s
  | _ => ⟨#[]⟩
def isStr : D → Bool
  | .str _ => true
  | _ => false
theorem isStr_elim {x : D} (h : isStr x = true) : ∃ s : ByteArray, x = D.str s := by
  unfold isStr at h
  split at h
  · exact ⟨_, rfl⟩
  · cases h
def isS (n : Nat) (g : Nat → Nat → D) : Bool := (List.range n).all fun i => isStr (g i 0)
theorem isS_elim {n : Nat} {g : Nat → Nat → D} (h : isS n g = true) : ∀ i, i < n → g i 0 = D.str (toS g i) := by
  unfold isS at h
  intro i hi
  obtain ⟨x, hx⟩ := isStr_elim (List.all_eq_true.1 h i (List.mem_range.2 hi))
  unfold toS
  rw [hx]
theorem isS_intro {n : Nat} {g : Nat → Nat → D} (h : ∀ i, i < n → ∃ x : ByteArray, g i 0 = D.str x) : isS n g = true := by
  unfold isS
  refine List.all_eq_true.2 fun i hi => ?_
  obtain ⟨x, hx⟩ := h i (List.mem_range.1 hi)
  rw [hx]; rfl
def rowS (n : Nat) (g : Nat → Nat → D) : List (List UInt8) := (List.range n).map fun i => (toS g i).data.toList

theorem join_ent (n e : Nat) (g : Nat → Nat → D) (sep : ByteArray) (hn : n ≤ 1000000) (he : n = 0 ∨ e = 1) (hS : isS n g = true) (hl : (Lib.join (rowS n g) sep.data.toList).length ≤ 140737488355328) :
    EntOK Tryd.prog 35 [.one (.d (.slc n e g)), us sep] (.w (ust (Lib.join (rowS n g) sep.data.toList))) := by
  refine ent_of_quiet (enters_of (fn := Tryd.f35) (by kernel_rfl) (by kernel_rfl) (by kernel_rfl)) rfl rfl fun I w vs hI hg hu => ?_
  obtain ⟨v0, l1, rfl, c0, r1⟩ := F2.cons_left hu
  obtain ⟨v1, l2, rfl, c1, r2⟩ := F2.cons_left r1
  obtain rfl := F2.nil_left r2
  obtain rfl := ur_str c1
  obtain ⟨A, cap, rfl, hcap, hel⟩ := c0
  rcases Nat.eq_zero_or_pos n with rfl | hpos
  · refine (Tryd.strings_Join_none A cap sep w).mono ?_
    rintro e' w' ⟨rfl, rfl⟩
    exact ⟨_, rfl, Below.refl _ _, rfl⟩
  · obtain rfl : e = 1 := by omega
    obtain ⟨a, u, rfl, _, hc, _⟩ := hel 0 hpos 0 (by omega)
    have hlt := cell_lt hc
    have hsp : a.spot = none := by
      unfold World.cell? at hc
      split at hc
      · cases hh : a.spot with
        | none => rfl
        | some x => simp [Addr.add, hh] at hc
      · cases hc
    obtain ⟨b, o, sp⟩ := a
    simp only at hsp
    subst hsp
    have hxs : ((List.range n).map fun i => toS g i).length = n := by simp
    have := Tryd.strings_Join b o cap ((List.range n).map fun i => toS g i) sep w (fun j x hx => by
      have hj : j < n := by have := lt_of_getElem? hx; rwa [hxs] at this
      simp only [List.getElem?_map, List.getElem?_range hj, Option.map_some, Option.some.injEq] at hx
      obtain ⟨a', u', ha', _, hc', hd'⟩ := hel j hj 0 (by omega)
      cases ha'
      rw [isS_elim hS j hj] at hd'
      have hd' : u' = .string (toS g j) := hd'
      rw [← hx, ← hd', ← hc', add_own, show o + (j * 1 + 0) = o + j by omega]) (by simpa [Addr.add] using hlt) (by rw [hxs]; omega) (by rw [hxs]; exact hcap) (by simpa [rowS, List.map_map, Function.comp_def] using hl)
    rw [hxs] at this
    refine this.mono ?_
    rintro e' w' ⟨rfl, hB⟩
    refine ⟨_, rfl, hB, ?_⟩
    show Value.string _ = Value.string _
    simp [rowS, List.map_map, Function.comp_def, bs]

def eCut (u : List U) : Option (Bool × V) := match u with
  | [.one (.d (.str s)), .one (.d (.str ⟨⟨[c]⟩⟩))] => some (decide (s.size ≤ 1000000), .tup [ust (cut1 c s.data.toList).1, ust (cut1 c s.data.toList).2.1, .one (.d (.bool (cut1 c s.data.toList).2.2))])
  | _ => none
def eSplit (u : List U) : Option (Bool × V) := match u with
  | [.one (.d (.str s)), .one (.d (.str ⟨⟨[c]⟩⟩))] => some (decide (s.size ≤ 1000000), .w (.one (.d (.slc (splitL c s.data.toList).length 1 fun i _ => .str (bs ((splitL c s.data.toList).getD i []))))))
  | _ => none
def eTrimP (u : List U) : Option (Bool × V) := match u with
  | [.one (.d (.str s)), .one (.d (.str p))] => some (true, .w (ust (Lib.trimPrefix s.data.toList p.data.toList)))
  | _ => none
def eAtoi (u : List U) : Option (Bool × V) := match u with
  | [.one (.d (.str s))] => some (decide (s.size ≤ 1000000), .tup [ui (atoiV s.data.toList), .one .unk])
  | _ => none
def eItoa (u : List U) : Option (Bool × V) := match u with
  | [.one (.d (.int .i64 n))] => some (decide (-9223372036854775808 ≤ n) && decide (n ≤ 9223372036854775807), .w (ust (itoaL n)))
  | _ => none
def eJoin (u : List U) : Option (Bool × V) := match u with
  | [.one (.d (.slc n e g)), .one (.d (.str sep))] => some (decide (n ≤ 1000000) && ((decide (n = 0) || decide (e = 1)) && (isS n g && decide ((Lib.join (rowS n g) sep.data.toList).length ≤ 140737488355328))), .w (ust (Lib.join (rowS n g) sep.data.toList)))
  | _ => none

def G11 : Tab := addE (addE (addE (addE (addE (addE G10 28 eCut) 29 eSplit) 30 eTrimP) 31 eAtoi) 34 eItoa) 35 eJoin
theorem G11_ok : GOK Tryd.prog G11 := by
  refine addE_ok (addE_ok (addE_ok (addE_ok (addE_ok (addE_ok G10_ok ?_) ?_) ?_) ?_) ?_) ?_
  all_goals
    intro us v h
    simp only [eCut, eSplit, eTrimP, eAtoi, eItoa, eJoin] at h
    split at h <;> try (cases h; done)
    simp only [Option.some.injEq, Prod.mk.injEq, Bool.and_eq_true, Bool.or_eq_true, decide_eq_true_eq, true_and] at h
  · obtain ⟨h1, rfl⟩ := h
    exact cut_ent _ _ (by omega)
  · obtain ⟨h1, rfl⟩ := h
    exact split_ent _ _ (by omega)
  · subst h
    exact trimP_ent _ _
  · obtain ⟨h1, rfl⟩ := h
    exact atoi_ent _ h1
  · obtain ⟨⟨h1, h2⟩, rfl⟩ := h
    exact itoa_ent _ h1 h2
  · obtain ⟨⟨h1, h2, h3, h4⟩, rfl⟩ := h
    exact join_ent _ _ _ _ h1 h2 h3 h4

end
end Sh
end Go.Proofs.YtamdjlpobonmiaaDoor
