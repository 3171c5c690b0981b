/- The seat's rows: the listed variables, the witness, the arguments. -/
import Derived.Test.YtamdjlpobonmiaaDoorMg
import Derived.Test.YtamdjlpobonmiaaDoorRows
import Derived.Test.YtamdjlpobonmiaaDoorTie
import Derived.Test.YtamdjlpobonmiaaDoorCards
import Derived.Lay
import Derived.Lib.LaidU8
import Derived.SevenTiedAt
import Derived.Deep.Slices
import Derived.Deep.Fields
import Derived.ChangeSame
import Derived.ChangeMaps5
import Derived.Lib.SmallJoins
namespace Go.Proofs.YtamdjlpobonmiaaDoor
namespace Sh
open Go.RowKit Go.ChangeShapes Go.WideShapes Go.Deep
set_option maxRecDepth 100000

noncomputable section

def laidT : List (String × DataW Unit) := [("math/bits.deBruijn32tab", Rows.laid_math_bits_deBruijn32tab), ("math/bits.deBruijn64tab", Rows.laid_math_bits_deBruijn64tab), ("internal/strconv.uint64pow10", Rows.laid_internal_strconv_uint64pow10), ("unicode/utf8.acceptRanges", Rows.laid_unicode_utf8_acceptRanges), ("strconv.ErrRange", Rows.laid_strconv_ErrRange), ("strconv.ErrSyntax", Rows.laid_strconv_ErrSyntax), ("unicode/utf8.first", Rows.laid_unicode_utf8_first)]

theorem laid_of {W : World} {g : Nat} {arr : Array Value} {T : TypeId} {f : Nat × Nat} {vs : List Value} (h : W.heap[g]? = some (.cells arr T f)) (hv : arr.toList = vs) :
    Laid (fun a => a.block = g ∧ a.spot = none ∧ a.off < vs.length) W g vs := ⟨arr, T, f, h, hv, fun i hi => ⟨rfl, rfl, hi⟩⟩
theorem laid_imm {W : World} {g : Nat} {arr : Array Value} {T : TypeId} {f : Nat × Nat} {vs : List Value} (h : W.heap[g]? = some (.cells arr T f)) (hv : arr.toList = vs) :
    ∀ a : Addr, (a.block = g ∧ a.spot = none ∧ a.off < vs.length) → ∃ u, W.cell? a = some u := by
  rintro ⟨b, o, sp⟩ ⟨h1, h2, h3⟩
  simp only at h1 h2 h3
  subst h1 h2
  refine ⟨vs[o], ?_⟩
  simp only [World.cell?, h, Option.isSome_none, Bool.false_eq_true, if_false]
  rw [← Array.getElem?_toList, hv]
  exact List.getElem?_eq_getElem h3

theorem var_cells {P : Program} {W : World} {n : String} {g : Nat} {cs : Array Value} (hg : P.globalNamed n = some g) (hv : W.var? P n = some cs) : ∃ T f, W.heap[g]? = some (.cells cs T f) := by
  unfold World.var? at hv
  rw [hg] at hv
  simp only [Option.bind_some] at hv
  split at hv
  · rename_i T f h
    simp only [Option.some.injEq] at hv
    subst hv
    exact ⟨T, f, h⟩
  · cases hv

theorem shaped_row {P : Program} {W : World} (hsh : W.ShapedOpen P) {g : Nat} {t : TypeId} {zero : Array Value} (hg : g < P.globals.size)
    (h0 : ((begin P (fun _ _ => 0) default).world.heap[g]?).bind Obj.row? = some (zero, t)) : ∃ cs f, W.heap[g]? = some (.cells cs t f) ∧ cs.size = zero.size := by
  obtain ⟨cs, hh, hs, _⟩ := hsh.1 g zero t hg h0
  exact ⟨cs, _, hh, hs⟩

theorem glob_of (W : World) (hsh : W.ShapedOpen Tryd.prog) (hL0 : laidMetH Tryd.prog laidT W) : ∃ J, (∀ a, J a → ∃ u, W.cell? a = some u) ∧ Glob J W := by
  have hL : laidMet Tryd.prog laidT W := by rw [← MakeChecks.laidMetH_plain _ _ _ (by kernel_rfl)]; exact hL0
  obtain ⟨m, hm⟩ := cell_of_shapedOpen_int (P := Tryd.prog) (g := 0) (t := 3) (zero := #[.int .i64 0]) hsh (of_decide_eq_true (by kernel_rfl)) (by kernel_rfl) rfl (by kernel_rfl) (by kernel_rfl) Tryd.underlying3
  obtain ⟨c0, f0, hc0, hs0⟩ := shaped_row (P := Tryd.prog) (g := 0) (t := 3) (zero := #[.int .i64 0]) hsh (of_decide_eq_true (by kernel_rfl)) (by kernel_rfl)
  have e0 : c0.toList = [.int .i64 m] := by
    have h1 : c0[0]? = some (.int .i64 m) := by simpa [World.cell?, hc0] using hm
    obtain ⟨l⟩ := c0
    match l, hs0 with
    | [x], _ => simpa using h1
  obtain ⟨gS, tS, cS, fS, pS, aS, bS, vS, dS⟩ := Lib.laidMet.reads hL (n := "strconv.ErrSyntax") (d := Rows.laid_strconv_ErrSyntax) (by simp [laidT])
  obtain rfl : gS = 1 := Option.some.inj (aS.symm.trans (show Tryd.prog.globalNamed "strconv.ErrSyntax" = some 1 by kernel_rfl))
  obtain ⟨gR, tR, cR, fR, pR, aR, bR, vR, dR⟩ := Lib.laidMet.reads hL (n := "strconv.ErrRange") (d := Rows.laid_strconv_ErrRange) (by simp [laidT])
  obtain rfl : gR = 2 := Option.some.inj (aR.symm.trans (show Tryd.prog.globalNamed "strconv.ErrRange" = some 2 by kernel_rfl))
  obtain ⟨gT, tT, cT, fT, pT, aT, bT, vT, dT⟩ := Lib.laidMet.reads hL (n := "internal/strconv.uint64pow10") (d := Rows.laid_internal_strconv_uint64pow10) (by simp [laidT])
  obtain rfl : gT = 3 := Option.some.inj (aT.symm.trans (show Tryd.prog.globalNamed "internal/strconv.uint64pow10" = some 3 by kernel_rfl))
  have uE : (Tryd.prog.globals[1]?).map (·.type) = some 60 := by kernel_rfl
  obtain rfl : tS = 60 := Option.some.inj (bS.symm.trans uE)
  have uR : (Tryd.prog.globals[2]?).map (·.type) = some 60 := by kernel_rfl
  obtain rfl : tR = 60 := Option.some.inj (bR.symm.trans uR)
  have uT : (Tryd.prog.globals[3]?).map (·.type) = some 129 := by kernel_rfl
  obtain rfl : tT = 129 := Option.some.inj (bT.symm.trans uT)
  obtain ⟨_, xS, yS, eS, _⟩ := iface_of_trod Tryd.underlying60 dS
  obtain ⟨_, xR, yR, eR, _⟩ := iface_of_trod Tryd.underlying60 dR
  have eT : cT.toList = Lib.pow10Tab.map fun z => Value.int .u64 z := by
    have dT' : DataW.trod (fun _ => ()) Tryd.prog W 0 (fun _ => true) false fT 129 cT.toList = some (Lib.tabData .u64 Lib.pow10Tab, pT) := dT
    exact Lib.cells_of_tab Tryd.underlying129 (by kernel_rfl) (by kernel_rfl) (by kernel_rfl) dT'
  obtain ⟨TS, fS', hS⟩ := var_cells aS vS
  obtain ⟨TR, fR', hR⟩ := var_cells aR vR
  obtain ⟨TT, fT', hT⟩ := var_cells aT vT
  refine ⟨fun a => (a.block = 0 ∧ a.spot = none ∧ a.off < [Value.int .i64 m].length) ∨ (a.block = 3 ∧ a.spot = none ∧ a.off < (Lib.pow10Tab.map fun z => Value.int .u64 z).length) ∨
    (a.block = 1 ∧ a.spot = none ∧ a.off < [Value.iface xS yS].length) ∨ (a.block = 2 ∧ a.spot = none ∧ a.off < [Value.iface xR yR].length), ?_, m, xS, yS, xR, yR, ?_, ?_, ?_, ?_⟩
  · rintro a (h | h | h | h)
    · exact laid_imm hc0 e0 a h
    · exact laid_imm hT eT a h
    · exact laid_imm hS eS a h
    · exact laid_imm hR eR a h
  · exact (laid_of hc0 e0).step (fun a h => .inl h) (fun _ _ => rfl) fun b arr T f h1 => ⟨arr, h1, rfl⟩
  · exact (laid_of hT eT).step (fun a h => .inr (.inl h)) (fun _ _ => rfl) fun b arr T f h1 => ⟨arr, h1, rfl⟩
  · exact (laid_of hS eS).step (fun a h => .inr (.inr (.inl h))) (fun _ _ => rfl) fun b arr T f h1 => ⟨arr, h1, rfl⟩
  · exact (laid_of hR eR).step (fun a h => .inr (.inr (.inr h))) (fun _ _ => rfl) fun b arr T f h1 => ⟨arr, h1, rfl⟩

/- The arguments. -/
section
variable {H : Type} {enc : TypeId × Value → H} {P : Program} {w : World} {base : Nat} {spare : Nat → Bool} {held : Bool}
theorem open_slice_fields {t e : TypeId} {fs : Array Field} {fuel : Nat} {cs : List Value} {x : DataW H × List MemPlace} (ht : P.underlying t = some (.slice e)) (he : P.underlying e = some (.struct fs))
    (hone : oneCellFields P fs = true) (hC : P.cellsOf e = fs.size) (h : DataW.trod enc P w base spare held fuel t cs = some x) :
    (cs = [.slice none 0 0] ∧ x = (.nil, [])) ∨
    ∃ (a : Addr) (len cap m : Nat), cs = [.slice (some a) len cap] ∧ len ≤ cap ∧ cap ≤ maxLen ∧ m = (if spare a.block then cap else len) ∧
      ∀ i, i < m → ∀ (j : Nat) (f : Field), fs[j]? = some f → ∃ (v : Value) (n : Nat) (y : DataW H × List MemPlace), w.cell? (a.add (i * fs.size + j)) = some v ∧ DataW.trod enc P w base spare held n f.type [v] = some y := by
  rcases open_slice ht h with h0 | ⟨a, len, cap, m, n, D, Pl, hcs, hb, hl, hm, hmm, hx, hi⟩
  · exact .inl h0
  · refine .inr ⟨a, len, cap, m, hcs, hl, hm, hmm, fun i him j f hj => ?_⟩
    obtain ⟨cs', hc, ht'⟩ := hi i him
    rw [hC] at hc
    obtain ⟨ys, n', hn', hy, hlen, hyl, hf⟩ := DataW.trod_struct he ht'
    obtain ⟨_, hcl, hat⟩ := World.cells?_some hc
    obtain ⟨ho, hk⟩ := hone_of hone j f hj
    have hjl : j < fs.size := (Array.getElem?_eq_some_iff.1 hj).1
    have hcell := hat j hjl
    have hv : cs'[j]? = some (cs'[j]'(by omega)) := List.getElem?_eq_getElem (by omega)
    have h1 := hf j f hj
    rw [ho, hk] at h1
    have hone' : (cs'.drop j).take 1 = [cs'[j]'(by omega)] := by
      rw [List.drop_eq_getElem_cons (by omega)]
      rfl
    rw [hone'] at h1
    have hys : ys[j]? = some (ys[j]'(by omega)) := List.getElem?_eq_getElem (by omega)
    refine ⟨_, n', _, ?_, h1.trans hys⟩
    rw [← Go.Deep.add_add, hcell, hv]
theorem okWide_array {r : Reach} {b0 n : Nat} {t e : TypeId} {v : Value} (ht : P.underlying t = some (.array n e)) (h : Value.okWide P w r b0 t v) : ∃ cs, v = .agg cs ∧ cs.size = P.cellsOf t := by
  simp only [Value.okWide, ht] at h
  obtain ⟨cs, h1, h2, _⟩ := h
  exact ⟨cs, h1, h2⟩
end

def imm (W : World) (a : Addr) : Prop := ∃ u, W.cell? a = some u

def cellI (W : World) (a : Addr) : Int := match W.cell? a with
  | some (.int _ z) => z
  | _ => 0
theorem cellI_of {W : World} {a : Addr} {k : IntKind} {z : Int} (h : W.cell? a = some (.int k z)) : cellI W a = z := by unfold cellI; rw [h]

/-- A tariff that came in. -/
theorem open_tar {H : Type} {enc : TypeId × Value → H} {P : Program} {W : World} {base b0 : Nat} {spare : Nat → Bool} {held : Bool} {t : TypeId} {f0 f1 : Field} {te : TypeId} {g0 g1 : Field} {v : Value} {d : DataW H} {p : List MemPlace}
    (hs : P.underlying t = some (.struct #[f0, f1])) (hone : oneCellFields P #[f0, f1] = true) (hC : P.cellsOf t = 2) (h0 : P.underlying f0.type = some .string) (h1 : P.underlying f1.type = some (.slice te))
    (he : P.underlying te = some (.struct #[g0, g1])) (hone' : oneCellFields P #[g0, g1] = true) (hC' : P.cellsOf te = 2) (k0 : P.underlying g0.type = some (.int .i64)) (k1 : P.underlying g1.type = some (.int .i64))
    (hv : Value.okWide P W .any b0 t v) (h : DataW.Trod enc P W base spare held t v d p) : ∃ s n g, UR W (imm W) [] [] (tar s n g) v := by
  obtain ⟨v0, v1, y0, y1, m, rfl, _, _, t0, t1⟩ := Joins.open_agg2 hs hone hC hv h
  obtain ⟨s, e0, _, _⟩ := DataW.trod_string h0 t0
  simp only [List.cons.injEq, and_true] at e0
  subst e0
  rcases open_slice_fields h1 he hone' hC' t1 with ⟨e1, _⟩ | ⟨a, len, cap, m', e1, hl, _, hm, hcell⟩
  · simp only [List.cons.injEq, and_true] at e1
    subst e1
    refine ⟨s, 0, fun _ _ => 0, _, rfl, rfl, ⟨none, 0, rfl, Nat.le_refl _, fun i hi => by omega⟩, trivial⟩
  · simp only [List.cons.injEq, and_true] at e1
    subst e1
    have hlm : len ≤ m' := by rw [hm]; split <;> omega
    refine ⟨s, len, fun i j => cellI W (a.add (i * 2 + j)), _, rfl, rfl, ⟨some a, cap, rfl, hl, fun i hi j hj => ?_⟩, trivial⟩
    have hj' : j = 0 ∨ j = 1 := by omega
    rcases hj' with rfl | rfl
    · obtain ⟨v, n, y, hc0, ht⟩ := hcell i (by omega) 0 g0 rfl
      have hc : W.cell? (a.add (i * 2 + 0)) = some v := hc0
      obtain ⟨z, e2, _, _⟩ := DataW.trod_int k0 ht
      simp only [List.cons.injEq, and_true] at e2
      subst e2
      exact ⟨a, _, rfl, ⟨_, hc⟩, hc, congrArg (Value.int .i64) (cellI_of hc).symm⟩
    · obtain ⟨v, n, y, hc0, ht⟩ := hcell i (by omega) 1 g1 rfl
      have hc : W.cell? (a.add (i * 2 + 1)) = some v := hc0
      obtain ⟨z, e2, _, _⟩ := DataW.trod_int k1 ht
      simp only [List.cons.injEq, and_true] at e2
      subst e2
      exact ⟨a, _, rfl, ⟨_, hc⟩, hc, congrArg (Value.int .i64) (cellI_of hc).symm⟩

/-- Two numbers that came in. -/
theorem open_two {H : Type} {enc : TypeId × Value → H} {P : Program} {W : World} {base b0 : Nat} {spare : Nat → Bool} {held : Bool} {t e : TypeId} {v : Value} {d : DataW H} {p : List MemPlace}
    (hs : P.underlying t = some (.array 2 e)) (he : P.underlying e = some (.int .i64)) (hC : P.cellsOf t = 2) (hc : P.cellsOf e = 1)
    (hv : Value.okWide P W .any b0 t v) (h : DataW.Trod enc P W base spare held t v d p) : ∃ a b : Int, v = .agg #[.int .i64 a, .int .i64 b] := by
  obtain ⟨cs, rfl, hsz⟩ := okWide_array hs hv
  obtain ⟨c0, c1, rfl⟩ := Joins.array2 (hsz.trans hC)
  obtain ⟨fuel, hf⟩ := h
  obtain ⟨xs, m, _, _, _, hl, hel⟩ := DataW.trod_array hs hf
  have k0 := hel 0 (by omega)
  have k1 := hel 1 (by omega)
  rw [hc] at k0 k1
  rw [List.getElem?_eq_getElem (by omega)] at k0 k1
  obtain ⟨z0, e0, _, _⟩ := DataW.trod_int he k0
  obtain ⟨z1, e1, _, _⟩ := DataW.trod_int he k1
  have e0 : c0 = .int .i64 z0 := by simpa [Value.cells] using e0
  have e1 : c1 = .int .i64 z1 := by simpa [Value.cells] using e1
  exact ⟨z0, z1, by rw [e0, e1]⟩
theorem open_i64 {H : Type} {enc : TypeId × Value → H} {P : Program} {W : World} {base b0 : Nat} {spare : Nat → Bool} {held : Bool} {t : TypeId} {v : Value} {d : DataW H} {p : List MemPlace}
    (hs : P.underlying t = some (.int .i64)) (hv : Value.okWide P W .any b0 t v) (h : DataW.Trod enc P W base spare held t v d p) : ∃ a : Int, v = .int .i64 a := by
  obtain ⟨a, rfl, _⟩ := open_int hs hv h
  exact ⟨a, rfl⟩

theorem open_str {H : Type} {enc : TypeId × Value → H} {P : Program} {W : World} {base b0 : Nat} {spare : Nat → Bool} {held : Bool} {t : TypeId} {v : Value} {d : DataW H} {p : List MemPlace}
    (hs : P.underlying t = some .string) (hv : Value.okWide P W .any b0 t v) (h : DataW.Trod enc P W base spare held t v d p) : ∃ a : ByteArray, v = .string a := by
  obtain ⟨a, rfl, _⟩ := Go.ChangeMaps.open_string hs hv h
  exact ⟨a, rfl⟩

end
end Sh
end Go.Proofs.YtamdjlpobonmiaaDoor
