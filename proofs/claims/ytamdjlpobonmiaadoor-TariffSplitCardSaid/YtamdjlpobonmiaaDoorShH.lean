/- The operations that only compute. -/
import Derived.Test.YtamdjlpobonmiaaDoorShG
namespace Go.Proofs.YtamdjlpobonmiaaDoor
namespace Sh
open Go.RowKit

section
variable {P : Program} {k : Nat} {I I' I'' : Addr → Prop} {ρ ρ' ρ'' : List (Option Nat)} {M M' M'' : List B} {w w' w'' : World}

theorem decide_bne (a b : Int) : (a != b) = !decide (a = b) := by
  by_cases h : a = b <;> simp [h]
theorem decide_beq (a b : Int) : (a == b) = decide (a = b) := by
  by_cases h : a = b <;> simp [h]

theorem intOp_ok {op : BinOp} {kk k' : IntKind} {a b : Int} {v : V} {t : TypeId} (h : intOp op kk a b = some (true, v)) (hk : (op = .shl ∨ op = .shr) ∨ kk = k') :
    ∃ u, (binOp op t (.int kk a) (.int k' b)).run P w = .ok u w ∧ VR w I ρ M v u := by
  cases op <;> simp only [intOp, Option.some.injEq, Prod.mk.injEq] at h <;> obtain ⟨h1, rfl⟩ := h
  case shl =>
    have hb : ¬ b < 0 := by simpa using h1
    exact ⟨.int kk (kk.wrap (a * 2 ^ (min b.toNat kk.bits))), by simp [binOp, Op.shift, hb], rfl⟩
  case shr =>
    have hb : ¬ b < 0 := by simpa using h1
    exact ⟨.int kk (a.fdiv (2 ^ (min b.toNat kk.bits))), by simp [binOp, Op.shift, hb], rfl⟩
  all_goals (have hkk : kk = k' := by rcases hk with (hk | hk) | hk <;> first | exact hk | cases hk)
  all_goals subst hkk
  case quo =>
    have hb : ¬ b = 0 := by simpa using h1
    exact ⟨_, by simp [binOp, Op.intDiv, hb], rfl⟩
  case rem =>
    have hb : ¬ b = 0 := by simpa using h1
    exact ⟨_, by simp [binOp, Op.intDiv, hb], rfl⟩
  case add => exact ⟨_, by simp [binOp, Op.intArith], rfl⟩
  case sub => exact ⟨_, by simp [binOp, Op.intArith], rfl⟩
  case mul => exact ⟨_, by simp [binOp, Op.intArith], rfl⟩
  case eql => exact ⟨.bool (decide (a = b)), by simp [binOp, Op.intCmp, decide_beq], rfl⟩
  case neq => exact ⟨.bool (!decide (a = b)), by simp [binOp, Op.intCmp, decide_bne], rfl⟩
  case lss => exact ⟨.bool (decide (a < b)), by simp [binOp, Op.intCmp], rfl⟩
  case leq => exact ⟨.bool (decide (a ≤ b)), by simp [binOp, Op.intCmp], rfl⟩
  case gtr => exact ⟨.bool (decide (b < a)), by simp [binOp, Op.intCmp], rfl⟩
  case geq => exact ⟨.bool (decide (b ≤ a)), by simp [binOp, Op.intCmp], rfl⟩
  case and => exact ⟨_, by simp [binOp]; rfl, rfl⟩
  case or => exact ⟨_, by simp [binOp]; rfl, rfl⟩
  case xor => exact ⟨_, by simp [binOp]; rfl, rfl⟩
  case andNot => exact ⟨_, by simp [binOp]; rfl, rfl⟩

theorem strOp_ok {op : BinOp} {x y : ByteArray} {v : V} {t : TypeId} (h : strOp op x y = some (true, v)) :
    ∃ u, (binOp op t (.string x) (.string y)).run P w = .ok u w ∧ VR w I ρ M v u := by
  have hb : ∀ op, binOp op t (.string x) (.string y) = Op.stringOp op x y := by intro op; cases op <;> rfl
  rw [hb]
  cases op <;> simp only [strOp, Option.some.injEq, Prod.mk.injEq] at h <;> first | cases h; done | (obtain ⟨h1, rfl⟩ := h)
  case add =>
    have h2 : x.size + y.size ≤ 9223372036854775807 := by simpa using h1
    have h3 : ¬ (9223372036854775807 < ((x.size : Int) + (y.size : Int))) := by omega
    exact ⟨.string (x ++ y), by simp [Op.stringOp, h3], rfl⟩
  all_goals exact ⟨_, by simp [Op.stringOp], rfl⟩

/-- The equality of cells. -/
def eqVs : List Value → List Value → Option Bool
  | [], [] => some true
  | .int k a :: xs, .int k' b :: ys => match decide (k = k'), eqVs xs ys with
    | true, some r => some (decide (a = b) && r)
    | _, _ => none
  | .bool a :: xs, .bool b :: ys => match eqVs xs ys with
    | some r => some ((a == b) && r)
    | none => none
  | .string a :: xs, .string b :: ys => match eqVs xs ys with
    | some r => some ((a.toList == b.toList) && r)
    | none => none
  | _, _ => none

theorem eqCs_ok : ∀ {xs ys : List C} {us vs : List Value} {r : Bool}, eqCs xs ys = some r → F2 (CR w I ρ M) xs us → F2 (CR w I ρ M) ys vs → eqVs us vs = some r := by
  intro xs
  induction xs with
  | nil =>
    intro ys us vs r h h1 h2
    cases ys with
    | nil => obtain rfl := F2.nil_left h1; obtain rfl := F2.nil_left h2; simpa [eqCs, eqVs] using h
    | cons _ _ => simp [eqCs] at h
  | cons c xs ih =>
    intro ys us vs r h h1 h2
    cases ys with
    | nil => cases c with
      | d x => cases x <;> simp [eqCs] at h
      | _ => simp [eqCs] at h
    | cons c' ys =>
      obtain ⟨u, us, rfl, hu, g1⟩ := F2.cons_left h1
      obtain ⟨v, vs, rfl, hv, g2⟩ := F2.cons_left h2
      clear h1 h2
      cases c with
      | d x =>
        cases c' with
        | d y =>
          cases x <;> cases y <;> simp only [eqCs] at h <;> first | cases h; done | skip
          case int.int k a k' b =>
            obtain rfl : u = _ := hu
            obtain rfl : v = _ := hv
            cases he : eqCs xs ys with
            | none => rw [he] at h; cases hk : decide (k = k') <;> simp [hk] at h
            | some r' =>
              rw [he] at h
              cases hk : decide (k = k') with
              | false => simp [hk] at h
              | true => simp only [hk] at h; simp only [eqVs, hk, ih he g1 g2]; exact h
          case bool.bool a b =>
            obtain rfl : u = _ := hu
            obtain rfl : v = _ := hv
            cases he : eqCs xs ys with
            | none => rw [he] at h; cases h
            | some r' => rw [he] at h; simp only [eqVs, ih he g1 g2]; exact h
          case str.str a b =>
            obtain rfl : u = _ := hu
            obtain rfl : v = _ := hv
            cases he : eqCs xs ys with
            | none => rw [he] at h; cases h
            | some r' => rw [he] at h; simp only [eqVs, ih he g1 g2]; exact h
        | _ => cases x <;> simp [eqCs] at h
      | _ => simp [eqCs] at h

theorem eqVs_append : ∀ {xs ys us vs : List Value} {r : Bool}, xs.length = ys.length → eqVs (xs ++ us) (ys ++ vs) = some r → ∃ r1 r2, eqVs xs ys = some r1 ∧ eqVs us vs = some r2 ∧ r = (r1 && r2) := by
  intro xs
  induction xs with
  | nil =>
    intro ys us vs r hl h
    obtain rfl : ys = [] := List.eq_nil_of_length_eq_zero (by simpa using hl.symm)
    exact ⟨true, r, rfl, h, by simp⟩
  | cons x xs ih =>
    intro ys us vs r hl h
    cases ys with
    | nil => simp at hl
    | cons y ys =>
      simp only [List.length_cons, Nat.add_right_cancel_iff] at hl
      simp only [List.cons_append] at h
      cases x <;> cases y <;> simp only [eqVs] at h <;> first | cases h; done | skip
      case int.int k a k' b =>
        cases he : eqVs (xs ++ us) (ys ++ vs) with
        | none => rw [he] at h; cases hk : decide (k = k') <;> simp [hk] at h
        | some r' =>
          rw [he] at h
          cases hk : decide (k = k') with
          | false => simp [hk] at h
          | true =>
            simp only [hk, Option.some.injEq] at h
            obtain ⟨r1, r2, h1, h2, h3⟩ := ih hl he
            exact ⟨decide (a = b) && r1, r2, by simp only [eqVs, hk, h1], h2, by rw [← h, h3, Bool.and_assoc]⟩
      case bool.bool a b =>
        cases he : eqVs (xs ++ us) (ys ++ vs) with
        | none => rw [he] at h; cases h
        | some r' =>
          rw [he] at h
          simp only [Option.some.injEq] at h
          obtain ⟨r1, r2, h1, h2, h3⟩ := ih hl he
          exact ⟨(a == b) && r1, r2, by simp only [eqVs, h1], h2, by rw [← h, h3, Bool.and_assoc]⟩
      case string.string a b =>
        cases he : eqVs (xs ++ us) (ys ++ vs) with
        | none => rw [he] at h; cases h
        | some r' =>
          rw [he] at h
          simp only [Option.some.injEq] at h
          obtain ⟨r1, r2, h1, h2, h3⟩ := ih hl he
          exact ⟨(a.toList == b.toList) && r1, r2, by simp only [eqVs, h1], h2, by rw [← h, h3, Bool.and_assoc]⟩

theorem stuct_fields {t : TypeId} {fs : Array Field} (h : P.underlying t = some (.struct fs)) : P.fieldsOf t = fs := by simp [Program.fieldsOf, h]

theorem part_run {t : TypeId} {xs : Array Value} {off s : Nat} (hs : P.cellsOf t = s) (hk : kindOf P t = some true) : (part t xs off).run P w = .ok (.agg (xs.extract off (off + s))) w := by
  obtain ⟨i, hi⟩ := kind_info hk
  rw [cellsOf_eq hi] at hs
  simp only [part, Sem.run_bind, run_isAgg hk, Result.andThen_ok, if_true, run_sizeOf' hi, hs, Sem.run_pure]
theorem part_run1 {t : TypeId} {xs : Array Value} {off : Nat} {v : Value} (hk : kindOf P t = some false) (hv : xs[off]? = some v) : (part t xs off).run P w = .ok v w := by
  simp only [part, Sem.run_bind, run_isAgg hk, Result.andThen_ok, Bool.false_eq_true, if_false, hv, Sem.run_pure]

def kindV : Value → Nat
  | .int _ _ => 0
  | .bool _ => 1
  | .string _ => 2
  | _ => 3

theorem kindC_ok : ∀ {c : C} {v : Value}, CR w I ρ M c v → kindC c ≠ 3 → kindV v = kindC c
  | .d (.int _ _), _, h, _ => by rw [show _ = _ from h]; rfl
  | .d (.bool _), _, h, _ => by rw [show _ = _ from h]; rfl
  | .d (.str _), _, h, _ => by rw [show _ = _ from h]; rfl
  | .d .nil, _, _, hn | .d (.slc _ _ _), _, _, hn | .own _ _ _ _, _, _, hn | .ptr _ _, _, _, hn | .ref _ _, _, _, hn | .fn _ _ _, _, _, hn | .unk, _, _, hn => absurd rfl hn

theorem kinds_ok : ∀ {cs : List C} {vs : List Value} {s : List Nat}, F2 (CR w I ρ M) cs vs → cs.map kindC = s → (∀ k ∈ s, k ≠ 3) → vs.map kindV = s
  | [], vs, s, h, hs, _ => by obtain rfl := F2.nil_left h; exact hs
  | c :: cs, vs, s, h, hs, hn => by
    obtain ⟨v, vs, rfl, h1, h2⟩ := F2.cons_left h
    subst hs
    simp only [List.map_cons, List.cons.injEq]
    exact ⟨kindC_ok h1 (hn _ (by simp)), kinds_ok h2 rfl (fun k hk => hn k (by simp only [List.map_cons, List.mem_cons]; exact .inr hk))⟩

theorem eqSize_kind {n : Nat} {t : TypeId} {s : List Nat} (h : eqSize P n t = some s) : ∃ b, kindOf P t = some b ∧ (b = false → s.length = 1) := by
  cases n with
  | zero => simp [eqSize] at h
  | succ n =>
    simp only [eqSize] at h
    unfold kindOf
    split at h
    · rename_i k hu; rw [hu]; exact ⟨false, rfl, fun _ => by simp at h; simp [← h]⟩
    · rename_i hu; rw [hu]; exact ⟨false, rfl, fun _ => by simp at h; simp [← h]⟩
    · rename_i hu; rw [hu]; exact ⟨false, rfl, fun _ => by simp at h; simp [← h]⟩
    · rename_i fs hu; rw [hu]; exact ⟨true, rfl, fun h => by cases h⟩
    · cases h

/-- The cells of a part. -/
def cellsAs (P : Program) (t : TypeId) (xs : List Value) (v : Value) : Prop := (kindOf P t = some true ∧ v = .agg xs.toArray) ∨ (kindOf P t = some false ∧ xs = [v])

theorem kind0 {v : Value} (h : kindV v = 0) : ∃ k n, v = .int k n := by cases v <;> first | exact ⟨_, _, rfl⟩ | cases h
theorem kind1 {v : Value} (h : kindV v = 1) : ∃ b, v = .bool b := by cases v <;> first | exact ⟨_, rfl⟩ | cases h
theorem kind2 {v : Value} (h : kindV v = 2) : ∃ s, v = .string s := by cases v <;> first | exact ⟨_, rfl⟩ | cases h

theorem plain_as {t : TypeId} {xs : List Value} {v : Value} (hk : kindOf P t = some false) (h : cellsAs P t xs v) : xs = [v] := by
  rcases h with ⟨h1, _⟩ | ⟨_, h⟩
  · rw [hk] at h1; cases h1
  · exact h

theorem equalIn_ok : ∀ (n : Nat), (∀ (t : TypeId) (s : List Nat) (d : Nat) (xs ys : List Value) (u v : Value) (r : Bool), eqSize P n t = some s → n ≤ d → xs.map kindV = s → ys.map kindV = s → cellsAs P t xs u → cellsAs P t ys v → eqVs xs ys = some r → (Op.equalIn d t u v).run P w = .ok r w) ∧
    (∀ (fs : List Field) (acc : Nat) (s : List Nat) (d : Nat) (xs ys : Array Value) (r : Bool), eqSizes P n fs acc = some s → n ≤ d → (xs.toList.drop acc).map kindV = s → (ys.toList.drop acc).map kindV = s → eqVs (xs.toList.drop acc) (ys.toList.drop acc) = some r → (Op.eqFields d xs ys fs).run P w = .ok r w) := by
  intro n
  induction n with
  | zero =>
    refine ⟨fun t s d xs ys u v r h => by simp [eqSize] at h, fun fs acc s d xs ys r h hd hx hy he => ?_⟩
    cases fs with
    | nil =>
      simp only [eqSizes, Option.some.injEq] at h; subst h
      rw [List.map_eq_nil_iff.1 hx, List.map_eq_nil_iff.1 hy] at he
      simp only [eqVs, Option.some.injEq] at he; subst he
      rfl
    | cons f fs => simp [eqSizes] at h
  | succ n ih =>
    refine ⟨fun t s d xs ys u v r h hd hx hy hu hv he => ?_, fun fs acc s d xs ys r h hd hx hy he => ?_⟩
    · obtain ⟨d, rfl⟩ : ∃ d', d = d' + 1 := ⟨d - 1, by omega⟩
      simp only [eqSize] at h
      split at h
      · rename_i k hk
        have hkf : kindOf P t = some false := by simp [kindOf, hk]
        obtain rfl := plain_as hkf hu
        obtain rfl := plain_as hkf hv
        simp only [Option.some.injEq] at h; subst h
        simp only [List.map_cons, List.map_nil, List.cons.injEq, and_true] at hx hy
        obtain ⟨ku, a, rfl⟩ := kind0 hx
        obtain ⟨kv, b, rfl⟩ := kind0 hy
        simp only [eqVs] at he
        cases hkk : decide (ku = kv) with
        | false => simp [hkk] at he
        | true =>
          have := of_decide_eq_true hkk; subst this
          simp at he; subst he
          rw [run_equalIn_int w d t ku k a b hk, decide_beq]
      · rename_i hk
        have hkf : kindOf P t = some false := by simp [kindOf, hk]
        obtain rfl := plain_as hkf hu
        obtain rfl := plain_as hkf hv
        simp only [Option.some.injEq] at h; subst h
        simp only [List.map_cons, List.map_nil, List.cons.injEq, and_true] at hx hy
        obtain ⟨a, rfl⟩ := kind1 hx
        obtain ⟨b, rfl⟩ := kind1 hy
        simp [eqVs] at he; subst he; exact run_equalIn_bool w d t a b hk
      · rename_i hk
        have hkf : kindOf P t = some false := by simp [kindOf, hk]
        obtain rfl := plain_as hkf hu
        obtain rfl := plain_as hkf hv
        simp only [Option.some.injEq] at h; subst h
        simp only [List.map_cons, List.map_nil, List.cons.injEq, and_true] at hx hy
        obtain ⟨a, rfl⟩ := kind2 hx
        obtain ⟨b, rfl⟩ := kind2 hy
        simp [eqVs] at he; subst he; exact run_equalIn_string w d t a b hk
      · rename_i fs hk
        have hkt : kindOf P t = some true := by simp [kindOf, hk]
        rcases hu with ⟨_, rfl⟩ | ⟨h1, _⟩
        case inr => rw [hkt] at h1; cases h1
        rcases hv with ⟨_, rfl⟩ | ⟨h1, _⟩
        case inr => rw [hkt] at h1; cases h1
        cases hst : P.stoodInHeld t with
        | true => simp [hst] at h
        | false =>
          simp only [hst, cond_false] at h
          rw [run_equalIn_struct w d t _ _ (by rw [stuct_fields hk]; exact hk) hst, stuct_fields hk]
          exact ih.2 fs.toList 0 s d xs.toArray ys.toArray r h (by omega) (by simpa using hx) (by simpa using hy) (by simpa using he)
      · cases h
    · cases fs with
      | nil =>
        simp only [eqSizes, Option.some.injEq] at h; subst h
        rw [List.map_eq_nil_iff.1 hx, List.map_eq_nil_iff.1 hy] at he
        simp only [eqVs, Option.some.injEq] at he; subst he
        rfl
      | cons f fs =>
        simp only [eqSizes] at h
        split at h
        case h_2 => cases h
        rename_i q q' hf hr
        cases hb : f.name != "_" && Nat.beq f.offset acc && Nat.beq (P.cellsOf f.type) q.length with
        | false => simp [hb] at h
        | true =>
          simp only [hb, cond_true, Option.some.injEq] at h
          subst h
          simp only [Bool.and_eq_true, Nat.beq_eq] at hb
          obtain ⟨⟨hname, hoff⟩, hcells⟩ := hb
          rw [hcells] at hr
          obtain ⟨b, hkind, hone⟩ := eqSize_kind hf
          have hsplit : ∀ zs : Array Value, zs.toList.drop acc = (zs.toList.drop acc).take q.length ++ zs.toList.drop (acc + q.length) := by
            intro zs
            rw [← List.drop_drop, List.take_append_drop]
          have hkinds : ∀ zs : Array Value, (zs.toList.drop acc).map kindV = q ++ q' → ((zs.toList.drop acc).take q.length).map kindV = q ∧ (zs.toList.drop (acc + q.length)).map kindV = q' := by
            intro zs hz
            rw [hsplit zs, List.map_append] at hz
            have hl : (zs.toList.drop acc).length = q.length + q'.length := by
              have := congrArg List.length hz
              rw [← List.map_append, ← hsplit zs] at this
              simpa using this
            exact List.append_inj hz (by simp only [List.length_map, List.length_take]; omega)
          obtain ⟨kx1, kx2⟩ := hkinds xs hx
          obtain ⟨ky1, ky2⟩ := hkinds ys hy
          rw [hsplit xs, hsplit ys] at he
          have hlq : ((xs.toList.drop acc).take q.length).length = q.length := by have := congrArg List.length kx1; simpa using this
          have hlq' : ((ys.toList.drop acc).take q.length).length = q.length := by have := congrArg List.length ky1; simpa using this
          obtain ⟨r1, r2, e1, e2, e3⟩ := eqVs_append (hlq.trans hlq'.symm) he
          have hpart : ∀ zs : Array Value, ((zs.toList.drop acc).take q.length).length = q.length → ∃ v, (part f.type zs f.offset).run P w = .ok v w ∧ cellsAs P f.type ((zs.toList.drop acc).take q.length) v := by
            intro zs hz
            cases b with
            | true =>
              refine ⟨_, part_run hcells hkind, .inl ⟨hkind, ?_⟩⟩
              congr 1
              apply Array.ext'
              simp [hoff, List.extract_eq_take_drop, Array.toList_extract]
            | false =>
              have hq := hone rfl
              rw [hq] at hz ⊢
              have hlt : acc < zs.toList.length := by
                simp only [List.length_take, List.length_drop] at hz; omega
              have hlt' : acc < zs.size := by simpa using hlt
              refine ⟨zs[acc], part_run1 hkind (by rw [hoff]; exact Array.getElem?_eq_getElem hlt'), .inr ⟨hkind, ?_⟩⟩
              rw [List.drop_eq_getElem_cons hlt]
              simp
          obtain ⟨u, pu, cu⟩ := hpart xs hlq
          obtain ⟨v, pv, cv⟩ := hpart ys hlq'
          have heq := ih.1 f.type q d _ _ u v r1 hf (by omega) kx1 ky1 cu cv e1
          have hrest := ih.2 fs (acc + q.length) q' d xs ys r2 hr (by omega) kx2 ky2 e2
          have hname' : f.name ≠ "_" := by simpa using hname
          simp only [Op.eqFields, Sem.run_ite, ne_eq, hname', not_false_eq_true, if_true, Sem.run_bind, pu, Result.andThen_ok, pv, heq]
          subst e3
          cases r1 with
          | true => simp [hrest]
          | false => simp

theorem eqSize_no3 : ∀ (n : Nat), (∀ (t : TypeId) (s : List Nat), eqSize P n t = some s → ∀ k ∈ s, k ≠ 3) ∧ (∀ (fs : List Field) (acc : Nat) (s : List Nat), eqSizes P n fs acc = some s → ∀ k ∈ s, k ≠ 3) := by
  intro n
  induction n with
  | zero =>
    refine ⟨fun t s h => by simp [eqSize] at h, fun fs acc s h => ?_⟩
    cases fs with
    | nil => simp only [eqSizes, Option.some.injEq] at h; subst h; intro k hk; cases hk
    | cons f fs => simp [eqSizes] at h
  | succ n ih =>
    refine ⟨fun t s h => ?_, fun fs acc s h => ?_⟩
    · simp only [eqSize] at h
      split at h
      · simp only [Option.some.injEq] at h; subst h; intro k hk; simp at hk; omega
      · simp only [Option.some.injEq] at h; subst h; intro k hk; simp at hk; omega
      · simp only [Option.some.injEq] at h; subst h; intro k hk; simp at hk; omega
      · cases hst : P.stoodInHeld t with
        | true => simp [hst] at h
        | false => simp only [hst, cond_false] at h; exact ih.2 _ _ _ h
      · cases h
    · cases fs with
      | nil => simp only [eqSizes, Option.some.injEq] at h; subst h; intro k hk; cases hk
      | cons f fs =>
        simp only [eqSizes] at h
        split at h
        case h_2 => cases h
        rename_i q q' hf hr
        cases hb : f.name != "_" && Nat.beq f.offset acc && Nat.beq (P.cellsOf f.type) q.length with
        | false => simp [hb] at h
        | true =>
          simp only [hb, cond_true, Option.some.injEq] at h
          subst h
          intro k hk
          rcases List.mem_append.1 hk with h1 | h1
          · exact ih.1 _ _ hf k h1
          · exact ih.2 _ _ _ hr k h1

theorem binU_ok {op : BinOp} {t : TypeId} {x y : V} {v : V} {a b : Value} (h : binU P op t x y = some (true, v)) (hx : VR w I ρ M x a) (hy : VR w I ρ M y b) (X Y : Operand) :
    ∃ u, (do eqGuard op t X Y a b; binOp op t a b : Sem Value).run P w = .ok u w ∧ VR w I ρ M v u := by
  unfold binU at h
  split at h
  · rename_i k p k' q
    obtain rfl : a = _ := hx
    obtain rfl : b = _ := hy
    simp only [eqGuard_at_int, pure_bind]
    split at h
    · exact intOp_ok h (.inl (.inl rfl))
    · exact intOp_ok h (.inl (.inr rfl))
    · split at h
      · rename_i hk; exact intOp_ok h (.inr (of_decide_eq_true hk))
      · cases h
  · obtain rfl : a = _ := hx
    obtain rfl : b = _ := hy
    simp only [eqGuard_at_string, pure_bind]
    exact strOp_ok h
  · rename_i p q
    obtain rfl : a = _ := hx
    obtain rfl : b = _ := hy
    simp only [eqGuard_at_bool, pure_bind]
    split at h
    · rename_i ht
      simp at h; subst h
      exact ⟨.bool (p == q), run_eql_bool w t p q ht, rfl⟩
    · rename_i ht
      simp at h; subst h
      exact ⟨.bool (!(p == q)), run_neq_bool w t p q ht, rfl⟩
    · cases h
  · rename_i xs ys
    obtain ⟨us, rfl, hu⟩ := hx
    obtain ⟨vs, rfl, hv⟩ := hy
    have key : ∀ s r, kindOf P t = some true → eqSize P 40 t = some s → eqCs xs ys = some r → (xs.map kindC == s && ys.map kindC == s) = true → (Op.equalIn 10000 t (.agg us) (.agg vs)).run P w = .ok r w := by
      intro s r hkt h1 h2 h3
      simp only [Bool.and_eq_true, beq_iff_eq] at h3
      have hn3 := (eqSize_no3 (P := P) 40).1 t s h1
      exact (equalIn_ok (P := P) (w := w) 40).1 t s 10000 us.toList vs.toList _ _ r h1 (by omega) (kinds_ok hu h3.1 hn3) (kinds_ok hv h3.2 hn3) (.inl ⟨hkt, by simp⟩) (.inl ⟨hkt, by simp⟩) (eqCs_ok h2 hu hv)
    split at h
    · rename_i s r hkt h1 h2 h3
      cases hb : xs.map kindC == s && ys.map kindC == s with
      | false => simp [hb] at h
      | true =>
        simp only [hb, cond_true, Option.some.injEq, Prod.mk.injEq, true_and] at h; subst h
        refine ⟨.bool r, ?_, rfl⟩
        have hg : P.eqGuardType P.depth t = false := by simpa using h2
        simp only [Sem.run_bind, run_eqGuard_agg w .eql t X Y us vs hg, Result.andThen_ok, run_eql_struct, key s r hkt h1 h3 hb]
    · rename_i s r hkt h1 h2 h3
      cases hb : xs.map kindC == s && ys.map kindC == s with
      | false => simp [hb] at h
      | true =>
        simp only [hb, cond_true, Option.some.injEq, Prod.mk.injEq, true_and] at h; subst h
        refine ⟨.bool (!r), ?_, rfl⟩
        have hg : P.eqGuardType P.depth t = false := by simpa using h2
        simp only [Sem.run_bind, run_eqGuard_agg w .neq t X Y us vs hg, Result.andThen_ok, run_neq_struct, key s r hkt h1 h3 hb]
    · cases h
  · cases h

end
end Sh
end Go.Proofs.YtamdjlpobonmiaaDoor
