/- From an entry to a row: a law that answers true, whatever its arguments. -/
import Derived.Test.YtamdjlpobonmiaaDoorShV
import Derived.ProofKit
import Derived.OpenShut
import Derived.HandedShaped
import Derived.Handed
import Derived.Shelf.Vars
import Derived.Stop.Joined
namespace Go.Proofs.YtamdjlpobonmiaaDoor
namespace Sh
open Go.RowKit Go.ChangeShapes Go.WideShapes
variable {H : Type} {enc : TypeId × Value → H}

theorem trodAll_below {P : Program} (hl : laidOutB P = true) {W W' : World} (hb : Below W.heap.size W W') : ∀ {ts : List TypeId} {vs : List Value} {ds : List (DataW H)} {ps : List MemPlace},
    (ts.all fun t => P.readableRec t && decide (t < P.types.size)) = true → DataW.TrodAll enc P W 0 (fun _ => true) true ts vs ds ps → (∀ x ∈ ps, x.block < W.heap.size) → DataW.TrodAll enc P W' 0 (fun b => decide (b < W.heap.size)) true ts vs ds ps
  | [], [], [], _, _, h, _ => h
  | t :: ts, v :: vs, d :: ds, ps, ht, ⟨p, q, h1, h2, e⟩, hlt => by
    simp only [List.all_cons, Bool.and_eq_true, decide_eq_true_eq] at ht
    subst e
    exact ⟨p, q, Below.trod hl ht.1.1 ht.1.2 h1 hb (fun x hx => hlt x (List.mem_append_left _ hx)), trodAll_below hl hb ht.2 h2 (fun x hx => hlt x (List.mem_append_right _ hx)), rfl⟩
  | [], [], _ :: _, _, _, h, _ | [], _ :: _, _, _, _, h, _ | _ :: _, [], _, _, _, h, _ | _ :: _, _ :: _, [], _, _, h, _ => h.elim

theorem trodAll_len {P : Program} {W : World} {b : Nat} {sp : Nat → Bool} {hd : Bool} : ∀ {ts : List TypeId} {vs : List Value} {ds : List (DataW H)} {ps : List MemPlace}, DataW.TrodAll enc P W b sp hd ts vs ds ps → ds.length = ts.length ∧ vs.length = ts.length
  | [], [], [], _, _ => ⟨rfl, rfl⟩
  | _ :: _, _ :: _, _ :: _, _, ⟨_, _, _, h2, _⟩ => by have := trodAll_len h2; simp [this]
  | [], [], _ :: _, _, h | [], _ :: _, _, _, h | _ :: _, [], _, _, h | _ :: _, _ :: _, [], _, h => h.elim

theorem trod1 {P : Program} {W : World} {b : Nat} {sp : Nat → Bool} {hd : Bool} {t0 : TypeId} : ∀ {vs : List Value} {ds : List (DataW H)} {ps : List MemPlace}, DataW.TrodAll enc P W b sp hd [t0] vs ds ps → ∃ v0 d0 p0, vs = [v0] ∧ DataW.Trod enc P W b sp hd t0 v0 d0 p0
  | [v0], [d0], _, ⟨p, _, h1, _, _⟩ => ⟨v0, d0, p, rfl, h1⟩
  | [], _, _, h | _ :: _ :: _, [_], _, ⟨_, _, _, h, _⟩ | _ :: _, [], _, h | [_], _ :: _ :: _, _, ⟨_, _, _, h, _⟩ | _ :: _ :: _, _ :: _ :: _, _, ⟨_, _, _, h, _⟩ => h.elim
theorem trodS {P : Program} {W : World} {b : Nat} {sp : Nat → Bool} {hd : Bool} {t0 : TypeId} {ts : List TypeId} : ∀ {vs : List Value} {ds : List (DataW H)} {ps : List MemPlace}, DataW.TrodAll enc P W b sp hd (t0 :: ts) vs ds ps → ∃ v0 vs' d0 ds' p0 ps', vs = v0 :: vs' ∧ DataW.Trod enc P W b sp hd t0 v0 d0 p0 ∧ DataW.TrodAll enc P W b sp hd ts vs' ds' ps'
  | v0 :: vs, d0 :: ds, _, ⟨p, q, h1, h2, _⟩ => ⟨v0, vs, d0, ds, p, q, rfl, h1, h2⟩
  | [], _, _, h | _ :: _, [], _, h => h.elim
theorem trod2 {P : Program} {W : World} {b : Nat} {sp : Nat → Bool} {hd : Bool} {t0 t1 : TypeId} {vs : List Value} {ds : List (DataW H)} {ps : List MemPlace} (h : DataW.TrodAll enc P W b sp hd [t0, t1] vs ds ps) :
    ∃ v0 v1 d0 d1 p0 p1, vs = [v0, v1] ∧ DataW.Trod enc P W b sp hd t0 v0 d0 p0 ∧ DataW.Trod enc P W b sp hd t1 v1 d1 p1 := by
  obtain ⟨v0, vs', d0, ds', p0, ps', rfl, h0, h'⟩ := trodS h
  obtain ⟨v1, d1, p1, rfl, h1⟩ := trod1 h'
  exact ⟨v0, v1, d0, d1, p0, p1, rfl, h0, h1⟩
theorem trod3 {P : Program} {W : World} {b : Nat} {sp : Nat → Bool} {hd : Bool} {t0 t1 t2 : TypeId} {vs : List Value} {ds : List (DataW H)} {ps : List MemPlace} (h : DataW.TrodAll enc P W b sp hd [t0, t1, t2] vs ds ps) :
    ∃ v0 v1 v2 d0 d1 d2 p0 p1 p2, vs = [v0, v1, v2] ∧ DataW.Trod enc P W b sp hd t0 v0 d0 p0 ∧ DataW.Trod enc P W b sp hd t1 v1 d1 p1 ∧ DataW.Trod enc P W b sp hd t2 v2 d2 p2 := by
  obtain ⟨v0, vs', d0, ds', p0, ps', rfl, h0, h'⟩ := trodS h
  obtain ⟨v1, v2, d1, d2, p1, p2, rfl, h1, h2⟩ := trod2 h'
  exact ⟨v0, v1, v2, d0, d1, d2, p0, p1, p2, rfl, h0, h1, h2⟩

theorem DR.sub {w : World} {I I' : Addr → Prop} (hi : ∀ a, I a → I' a) (x : D) {v : Value} (h : DR w I x v) : DR w I' x v := DR.mono hi (fun _ _ => rfl) x h
theorem CR.sub {w : World} {I I' : Addr → Prop} {ρ : List (Option Nat)} {M : List B} (hi : ∀ a, I a → I' a) {c : C} {v : Value} (h : CR w I ρ M c v) : CR w I' ρ M c v := by
  cases c with
  | d x => exact DR.sub hi x h
  | own r n e g => exact ⟨DR.sub hi _ h.1, h.2⟩
  | ref sz g =>
    obtain ⟨a, ha, h⟩ := h
    refine ⟨a, ha, fun j hj => ?_⟩
    obtain ⟨u, h1, h2, h3⟩ := h j hj
    exact ⟨u, hi _ h1, h2, DR.sub hi _ h3⟩
  | _ => exact h
theorem UR.sub {w : World} {I I' : Addr → Prop} {ρ : List (Option Nat)} {M : List B} (hi : ∀ a, I a → I' a) : ∀ {u : U} {v : Value}, UR w I ρ M u v → UR w I' ρ M u v
  | .one _, _, h => CR.sub hi h
  | .agg _, _, ⟨arr, h1, h2⟩ => ⟨arr, h1, F2.mono (fun _ _ h => CR.sub hi h) h2⟩
theorem Glob.sub {w : World} {I I' : Addr → Prop} (hi : ∀ a, I a → I' a) (h : Glob I w) : Glob I' w := h.step hi (fun _ _ => rfl) fun b arr T f h1 => ⟨arr, h1, rfl⟩

/-- What a law's arguments are, as shadows. -/
def Args (P : Program) (f : FuncId) (W : World) (vs : List Value) : Prop :=
  ∃ (us : List U) (I : Addr → Prop), (∀ a, I a → ∃ u, W.cell? a = some u) ∧ F2 (UR W I [] []) us vs ∧ EntOK P f us (rb true)

theorem law_calls {P : Program} {f : FuncId} {fn : Func} {s : ChangeSpec} {laid : List (String × DataW Unit)}
    (hl : laidOutB P = true) (hts : (fn.params.toList.all fun t => P.readableRec t && decide (t < P.types.size)) = true) (hvars : s.vars = []) {tb : TypeId} (hres : fn.resultTypes = #[tb]) (htb : P.underlying tb = some .bool)
    (hs : ∀ ds : List (DataW H), ds.length = fn.params.size → s.fn H ds = { results := [.lit (.bool true)], args := ds })
    (hglob : ∀ W : World, W.ShapedOpen P → laidMetH P laid W → ∃ J, (∀ a, J a → ∃ u, W.cell? a = some u) ∧ Glob J W)
    (hopen : ∀ (W : World) (base : Nat) (vs : List Value) (ds : List (DataW H)) (p : List MemPlace), (∀ (j : Nat) t v, fn.params[j]? = some t → vs[j]? = some v → Value.okWide P W .any base t v) → DataW.TrodAll enc P W 0 (fun _ => true) true fn.params.toList vs ds p → Args P f W vs)
    {W : World} {base : Nat} {args : Array Value} {ds gs : List (DataW H)} {before : List MemPlace} (hval : ∀ (j : Nat) t v, fn.params[j]? = some t → args[j]? = some v → Value.okWide P W .any base t v)
    (hW : DataW.Whole enc P fn.params.toList s.vars false W args.toList ds gs before) (hsh : W.ShapedOpen P) (hL : laidMetH P laid W) :
    Calls P f args W fun e W' => ∃ v, e = .returned v ∧ s.post enc P fn false true false false W args v W' := by
  have hlt := hW.lt
  have hW' := hW
  obtain ⟨p, q, hA, hV, rfl, _, _⟩ := hW
  rw [hvars] at hV
  obtain ⟨rfl, rfl⟩ := trodVars_none hV
  simp only [List.append_nil] at hlt
  obtain ⟨us, I, hI, hu, hent⟩ := hopen W _ args.toList ds p (fun j t v h1 h2 => hval j t v h1 (by simpa using h2)) hA
  obtain ⟨J, hJ, hG⟩ := hglob W hsh hL
  have hlen : ds.length = fn.params.size := by rw [(trodAll_len hA).1]; simp
  have := hent.calls (I := fun a => I a ∨ J a) (w := W) (vs := args.toList) (fun a h => h.elim (hI a) (hJ a)) (hG.sub fun _ h => .inr h) (F2.mono (fun _ _ h => UR.sub (fun _ h => .inl h) h) hu)
  rw [Array.toArray_toList] at this
  refine this.mono fun e W' h => ?_
  obtain ⟨u, I', rfl, hv, _, h1, h2, h3, h4, h5⟩ := h
  have hB : Below W.heap.size W W' := ⟨h1, h2, h3, h4, h5⟩
  have hv : u = .bool true := hv
  subst hv
  refine ⟨_, rfl, ds, [], p ++ [], [], p, [], hW', ?_, ?_, ?_, hB.frame _, fun h => by cases h⟩
  · rw [List.append_nil, hs ds hlen, hres]
    exact trodAll_mk1 (shut_bool htb true)
  · rw [List.append_nil, hs ds hlen]
    exact trodAll_below hl hB hts hA hlt
  · rw [List.append_nil, hs ds hlen, hvars]
    rfl

theorem law_handed {C : Checked} {P : Program} (hP : C.prog = P) {os : Os} {f : FuncId} {fn : Func} {s : ChangeSpec} {laid : List (String × DataW Unit)}
    (own : ownKnob P.godebug = none) (started : os.Started) (noInit : P.inits.idxOf? f = none) (hfn : P.funcs[f]? = some fn)
    (hl : laidOutB P = true) (hts : (fn.params.toList.all fun t => P.readableRec t && decide (t < P.types.size)) = true) (hvars : s.vars = []) {tb : TypeId} (hres : fn.resultTypes = #[tb]) (htb : P.underlying tb = some .bool)
    (hs : ∀ ds : List (DataW H), ds.length = fn.params.size → s.fn H ds = { results := [.lit (.bool true)], args := ds })
    (witness : ∃ (w : World) (tape : Tape) (i : Input), w.os = os ∧ (w.forCall tape i).Shaped C.prog ∧ i.vars = [] ∧ Input.okWide C.prog (w.forCall tape i) .any w.heap.size f i ∧
      ((s.pre enc C.prog fn [] false (w.forCall tape i).memory i.args ∧ laidMetH P laid (w.forCall tape i).memory) ∧ sizedMet enc C.prog fn (OpenSpec.ofChange s) false (w.forCall tape i).memory i.args) ∧ ({} : Assume).holds C.prog (lone (Frame.enter C.prog f i.args .normal) [] (w.forCall tape i)))
    (hglob : ∀ W : World, W.ShapedOpen P → laidMetH P laid W → ∃ J, (∀ a, J a → ∃ u, W.cell? a = some u) ∧ Glob J W)
    (hopen : ∀ (W : World) (base : Nat) (vs : List Value) (ds : List (DataW H)) (p : List MemPlace), (∀ (j : Nat) t v, fn.params[j]? = some t → vs[j]? = some v → Value.okWide P W .any base t v) → DataW.TrodAll enc P W 0 (fun _ => true) true fn.params.toList vs ds p → Args P f W vs) :
    ReturnsInHanded {} C os f .any (fun w args => (s.pre enc P fn [] false w args ∧ laidMetH P laid w) ∧ sizedMet enc P fn (OpenSpec.ofChange s) false w args) (s.post enc P fn false true false false) := by
  subst hP
  refine returnsInHanded_of_calls own started noInit witness ?_
  intro w tape i _ hsh _ hok hpre hholds
  obtain ⟨_, _, _, fn', hfn', _, _, _, _, hval⟩ := hok
  obtain rfl : fn' = fn := Option.some.inj (hfn'.symm.trans hfn)
  obtain ⟨⟨⟨ds, gs, before, hw, hc⟩, hx⟩, hz⟩ := hpre
  have hW : DataW.Whole enc C.prog fn'.params.toList s.vars false (w.forCall tape i) i.args.toList ds gs before := DataW.Whole.of_heap (w' := w.forCall tape i) (by rfl) hw
  have hL : laidMetH C.prog laid (w.forCall tape i) := laidMetH.of_heap (by rfl) hx
  refine (law_calls hl hts hvars hres htb hs hglob hopen hval hW hsh hL).mono fun e W' ⟨v, he, hp⟩ => ?_
  subst he
  exact ChangeSpec.post_blind hp

end Sh
end Go.Proofs.YtamdjlpobonmiaaDoor
