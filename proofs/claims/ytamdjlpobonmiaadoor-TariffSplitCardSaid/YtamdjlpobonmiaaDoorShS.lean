/- The evaluator with contracts for loops. -/
import Derived.Test.YtamdjlpobonmiaaDoorShR
namespace Go.Proofs.YtamdjlpobonmiaaDoor
namespace Sh
open Go.RowKit

/-- What a loop comes to: a tree. -/
inductive Tr
  | out (e : Ex) (st : St)
  | br (b : Bool) (x y : Tr)
  | fail

def Tr.k {R : Type} (k : Ex → St → Option R) : Tr → Option R
  | .out e st => k e st
  | .br b x y => bif b then x.k k else y.k k
  | .fail => none
def Tr.s : Tr → Option (Ex × St)
  | .out e st => some (e, st)
  | .br b x y => bif b then x.s else y.s
  | .fail => none

theorem Tr.k_eq {R : Type} (k : Ex → St → Option R) : ∀ t : Tr, t.k k = t.s.bind fun p => k p.1 p.2
  | .out _ _ => rfl
  | .br b x y => by
    simp only [Tr.k, Tr.s, Tr.k_eq k x, Tr.k_eq k y]
    cases b <;> rfl
  | .fail => rfl

/-- Contracts for the loops of a code, in the order of the text. -/
abbrev Ls := List (Option (St → Tr))
def noC : Ls → Bool
  | some _ :: _ => false
  | _ => true

def nl : Code → Nat
  | .seq x y => nl x + nl y
  | .cond _ x y => nl x + nl y
  | .block _ x => nl x
  | .loop x => nl x + 1
  | _ => 0
def loopsOf : Code → List Code
  | .seq x y => loopsOf x ++ loopsOf y
  | .cond _ x y => loopsOf x ++ loopsOf y
  | .block _ x => loopsOf x
  | .loop x => x :: loopsOf x
  | _ => []

def evW (P : Program) (G : Tab) (loop : Ls → LoopF) (call : CallF) : Ls → Code → St → Option (Ex × St)
  | _, .skip, st => some (.norm, st)
  | _, .label _, st => some (.norm, st)
  | _, .region _ ops draw, st =>
    match (bif draw then regD P G ops st else regR P G call ops ops.toList st) with
    | some st' => some (.norm, st')
    | none => none
  | ls, .seq x y, st => match evW P G loop call ls x st with
    | some (.norm, st') => evW P G loop call (ls.drop (nl x)) y st'
    | r => r
  | ls, .cond c x y, st => match opnd st.tmps c with
    | .w (.one (.d (.bool b))) => bif b then evW P G loop call ls x ⟨know st.tmps c true, st.mem⟩ else evW P G loop call (ls.drop (nl x)) y ⟨know st.tmps c false, st.mem⟩
    | _ => none
  | ls, .block id x, st => match evW P G loop call ls x st with
    | some (.exit i, st') => bif Nat.beq i id then some (.norm, st') else some (.exit i, st')
    | r => r
  | ls, .loop x, st => match ls with
    | some g :: _ => (g st).s
    | _ => match evW P G loop call ls.tail x st with
      | some (.norm, st') => loop ls (.loop x) (trunc st.mem.length st')
      | r => r
  | _, .exit id, st => some (.exit id, st)
  | _, .ret, st => some (.ret, st)
  | _, _, _ => none

def evWK (P : Program) (G : Tab) {R : Type} (loop : Ls → LoopK R) (call : CallK R) : Ls → Code → St → (Ex → St → Option R) → Option R
  | _, .skip, st, k => k .norm st
  | _, .label _, st, k => k .norm st
  | _, .region _ ops draw, st, k => bif draw then regDK P G ops st (k .norm) else regRK P G call ops ops.toList st (k .norm)
  | ls, .seq x y, st, k => evWK P G loop call ls x st fun e st' => match e with
    | .norm => evWK P G loop call (ls.drop (nl x)) y st' k
    | e => k e st'
  | ls, .cond c x y, st, k => match opnd st.tmps c with
    | .w (.one (.d (.bool b))) => bif b then evWK P G loop call ls x ⟨know st.tmps c true, st.mem⟩ k else evWK P G loop call (ls.drop (nl x)) y ⟨know st.tmps c false, st.mem⟩ k
    | _ => none
  | ls, .block id x, st, k => evWK P G loop call ls x st fun e st' => match e with
    | .exit i => bif Nat.beq i id then k .norm st' else k (.exit i) st'
    | e => k e st'
  | ls, .loop x, st, k => match ls with
    | some g :: _ => (g st).k k
    | _ => evWK P G loop call ls.tail x st fun e st' => match e with
      | .norm => loop ls (.loop x) (trunc st.mem.length st') k
      | e => k e st'
  | _, .exit id, st, k => k (.exit id) st
  | _, .ret, st, k => k .ret st
  | _, _, _, _ => none

/-- Which contracts a function's loops have; a loop without one is gone through round by round. -/
abbrev Plans := FuncId → Ls

def runW (P : Program) (G : Tab) (pl : Plans) : Nat → Ls → LoopF
  | 0 => fun _ _ _ => none
  | n + 1 => evW P G (runW P G pl n) (fun f us mem => callF P (runW P G pl n (pl f)) f us mem)

def runWK (P : Program) (G : Tab) (pl : Plans) {R : Type} : Nat → Ls → LoopK R
  | 0 => fun _ _ _ _ => none
  | n + 1 => evWK P G (runWK P G pl n) (fun f us mem k => callK P (runWK P G pl n (pl f)) f us mem k)

section
variable {P : Program} {G : Tab} {R : Type}

theorem evWK_eq {loop : Ls → LoopF} {lK : Ls → LoopK R} (hl : ∀ ls, LoopEq (loop ls) (lK ls)) {call : CallF} {cK : CallK R} (hc : CallEq call cK) : ∀ (c : Code) (ls : Ls) (st : St) (k : Ex → St → Option R), evWK P G lK cK ls c st k = (evW P G loop call ls c st).bind fun p => k p.1 p.2 := by
  intro c
  induction c with
  | skip => intro ls st k; rfl
  | label l => intro ls st k; rfl
  | region id ops draw =>
    intro ls st k
    simp only [evWK, evW]
    cases draw with
    | true =>
      simp only [cond_true]
      rw [regDK_eq]
      cases regD P G ops st <;> rfl
    | false =>
      simp only [cond_false]
      rw [regRK_eq hc]
      cases regR P G call ops ops.toList st <;> rfl
  | seq x y ihx ihy =>
    intro ls st k
    simp only [evWK, evW]
    rw [ihx]
    cases hx : evW P G loop call ls x st with
    | none => rfl
    | some p =>
      obtain ⟨e, st'⟩ := p
      cases e with
      | norm => exact ihy _ st' k
      | exit i => rfl
      | ret => rfl
  | cond c x y ihx ihy =>
    intro ls st k
    simp only [evWK, evW]
    split
    · rename_i b _
      cases b with
      | true => exact ihx _ _ k
      | false => exact ihy _ _ k
    · rfl
  | block id x ihx =>
    intro ls st k
    simp only [evWK, evW]
    rw [ihx]
    cases hx : evW P G loop call ls x st with
    | none => rfl
    | some p =>
      obtain ⟨e, st'⟩ := p
      cases e with
      | norm => rfl
      | exit i =>
        show (bif Nat.beq i id then k .norm st' else k (.exit i) st') = (bif Nat.beq i id then some (.norm, st') else some (.exit i, st')).bind fun p => k p.1 p.2
        rw [bind_cond]; rfl
      | ret => rfl
  | loop x ihx =>
    intro ls st k
    have main : ∀ ls' : Ls, (evWK P G lK cK ls' x st fun e st' => match e with
        | .norm => lK ls (.loop x) (trunc st.mem.length st') k
        | e => k e st') = (match evW P G loop call ls' x st with
        | some (.norm, st') => loop ls (.loop x) (trunc st.mem.length st')
        | r => r).bind fun p => k p.1 p.2 := by
      intro ls'
      rw [ihx]
      cases hx : evW P G loop call ls' x st with
      | none => rfl
      | some p =>
        obtain ⟨e, st'⟩ := p
        cases e with
        | norm => exact hl ls (.loop x) _ k
        | exit i => rfl
        | ret => rfl
    cases ls with
    | nil => simp only [evWK, evW]; exact main _
    | cons g ls =>
      cases g with
      | some g => simp only [evWK, evW]; exact Tr.k_eq k (g st)
      | none => simp only [evWK, evW]; exact main _
  | exit id => intro ls st k; rfl
  | ret => intro ls st k; rfl
  | _ => intro ls st k; rfl

theorem runWK_eq {pl : Plans} : ∀ n ls, LoopEq (runW P G pl n ls) (runWK (R := R) P G pl n ls)
  | 0, _ => fun _ _ _ => rfl
  | n + 1, ls => fun c st k => evWK_eq (runWK_eq n) (fun f us m k => callK_eq (runWK_eq n (pl f)) f us m k) c ls st k

def LoopC (P : Program) (x : Code) (g : St → Tr) : Prop := ∀ st e st', (g st).s = some (e, st') → ∀ (k : Nat) (I0 : Addr → Prop) (ρ0 : List (Option Nat)) (M0 : List B) (w0 : World) (n : Nat) (a : Act) (w : World), Sim k I0 ρ0 M0 w0 st a w → k ≤ st.mem.length → n ≤ st.mem.length →
  (Code.loop x).wp P (Ends k I0 ρ0 M0 w0 e st' n) a w

def LsOK (P : Program) (ls : Ls) (c : Code) : Prop := ∀ (i : Nat) g x, ls[i]? = some (some g) → (loopsOf c)[i]? = some x → LoopC P x g

theorem nl_eq : ∀ c : Code, (loopsOf c).length = nl c := by
  intro c
  induction c with
  | seq x y ihx ihy => simp only [loopsOf, nl, List.length_append, ihx, ihy]
  | cond c x y ihx ihy => simp only [loopsOf, nl, List.length_append, ihx, ihy]
  | block id x ih => simp only [loopsOf, nl, ih]
  | loop x ih => simp only [loopsOf, nl, List.length_cons, ih]
  | _ => rfl

theorem LsOK.left {ls : Ls} {x y z : Code} (hz : loopsOf z = loopsOf x ++ loopsOf y) (h : LsOK P ls z) : LsOK P ls x := fun i g c h1 h2 =>
  h i g c h1 (by rw [hz, List.getElem?_append_left (lt_of_getElem? h2)]; exact h2)
theorem LsOK.right {ls : Ls} {x y z : Code} (hz : loopsOf z = loopsOf x ++ loopsOf y) (h : LsOK P ls z) : LsOK P (ls.drop (nl x)) y := fun i g c h1 h2 =>
  h (nl x + i) g c (by rw [List.getElem?_drop] at h1; exact h1) (by rw [hz, List.getElem?_append_right (by rw [nl_eq]; omega), nl_eq, Nat.add_sub_cancel_left]; exact h2)

theorem LsOK.tail {ls : Ls} {y : Code} (h : LsOK P ls (.loop y)) : LsOK P ls.tail y := fun i g c h1 h2 =>
  h (i + 1) g c (by rw [List.getElem?_tail] at h1; exact h1) (by simp only [loopsOf, List.getElem?_cons_succ]; exact h2)

def LoopOKW (P : Program) (m : Nat) (loop : Ls → LoopF) : Prop := ∀ ls c, LsOK P ls (.loop c) → noC ls = true → ∀ st x st', loop ls (.loop c) st = some (x, st') →
  ∀ (k : Nat) (I0 : Addr → Prop) (ρ0 : List (Option Nat)) (M0 : List B) (w0 : World) (n : Nat) (a : Act) (w : World), Sim k I0 ρ0 M0 w0 st a w → k ≤ st.mem.length → n ≤ st.mem.length → Code.rounds P c (Ends k I0 ρ0 M0 w0 x st' n) m a w

theorem evW_ok (hG : GOK P G) {loop : Ls → LoopF} {m : Nat} (hL : LoopOKW P m loop) {call : CallF} (hC : CallOK P call) : ∀ (c : Code) (ls : Ls), LsOK P ls c → ∀ st x st', evW P G loop call ls c st = some (x, st') →
    ∀ (k : Nat) (I0 : Addr → Prop) (ρ0 : List (Option Nat)) (M0 : List B) (w0 : World) (n : Nat) (a : Act) (w : World), Sim k I0 ρ0 M0 w0 st a w → k ≤ st.mem.length → n ≤ st.mem.length →
      c.wp P (Ends k I0 ρ0 M0 w0 x st' n) a w ∧ (∀ y, c = .loop y → noC ls = true → Code.rounds P y (Ends k I0 ρ0 M0 w0 x st' n) (m + 1) a w) := by
  intro c
  induction c with
  | skip =>
    intro ls hls st x st' h k I0 ρ0 M0 w0 n a w hs hk hn
    simp only [evW, Option.some.injEq, Prod.mk.injEq] at h
    obtain ⟨rfl, rfl⟩ := h
    exact ⟨wp_skip ⟨rfl, hs, hn⟩, fun y h => by cases h⟩
  | label l =>
    intro ls hls st x st' h k I0 ρ0 M0 w0 n a w hs hk hn
    simp only [evW, Option.some.injEq, Prod.mk.injEq] at h
    obtain ⟨rfl, rfl⟩ := h
    exact ⟨wp_label ⟨rfl, hs, hn⟩, fun y h => by cases h⟩
  | region id ops draw =>
    intro ls hls st x st' h k I0 ρ0 M0 w0 n a w hs hk hn
    cases draw with
    | true =>
      simp only [evW, cond_true] at h
      split at h
      · rename_i st1 h1
        simp only [Option.some.injEq, Prod.mk.injEq] at h
        obtain ⟨rfl, rfl⟩ := h
        exact ⟨regD_ok hG id ops st st1 h1 k I0 ρ0 M0 w0 n a w hs hk hn, fun y h => by cases h⟩
      · cases h
    | false =>
      simp only [evW, cond_false] at h
      split at h
      · rename_i st1 h1
        simp only [Option.some.injEq, Prod.mk.injEq] at h
        obtain ⟨rfl, rfl⟩ := h
        refine ⟨wp_region ?_, fun y h => by cases h⟩
        have := regR_ok hG hC (Ends k I0 ρ0 M0 w0 .norm st1 n) ops.toList 0 st st1 a w rfl h1 hs hk (fun a' w' h2 h3 => ⟨rfl, h2, by omega⟩)
        rwa [← List.range_eq_range', Array.length_toList] at this
      · cases h
  | seq y z ihy ihz =>
    intro ls hls st x st' h k I0 ρ0 M0 w0 n a w hs hk hn
    refine ⟨wp_seq ?_, fun y h => by cases h⟩
    simp only [evW] at h
    split at h
    · rename_i st1 h1
      refine wp_mono (ihy ls (hls.left rfl) st .norm st1 h1 k I0 ρ0 M0 w0 st.mem.length a w hs hk (Nat.le_refl _)).1 ?_
      rintro e a' w' ⟨rfl, h2, h3⟩
      exact (ihz _ (hls.right rfl) st1 x st' h k I0 ρ0 M0 w0 n a' w' h2 (by omega) (by omega)).1
    · rename_i hr
      refine wp_mono (ihy ls (hls.left rfl) st x st' h k I0 ρ0 M0 w0 n a w hs hk hn).1 ?_
      rintro e a' w' ⟨rfl, h2, h3⟩
      cases x with
      | norm => exact absurd h (hr st')
      | exit i => exact ⟨rfl, h2, h3⟩
      | ret => exact ⟨rfl, h2, h3⟩
  | cond c y z ihy ihz =>
    intro ls hls st x st' h k I0 ρ0 M0 w0 n a w hs hk hn
    simp only [evW] at h
    split at h
    · rename_i b hc
      have hev : a.eval c = .bool b := by
        obtain ⟨I, ρ, hS, hT, hE⟩ := hs.ex
        have := opnd_ok hT c
        rw [hc] at this
        exact this
      cases b with
      | true => exact ⟨wp_cond hev (ihy ls (hls.left rfl) _ x st' h k I0 ρ0 M0 w0 n a w (know_ok hs hc) hk hn).1, fun y h => by cases h⟩
      | false => exact ⟨wp_cond hev (ihz _ (hls.right rfl) _ x st' h k I0 ρ0 M0 w0 n a w (know_ok hs hc) hk hn).1, fun y h => by cases h⟩
    · cases h
  | block id y ihy =>
    intro ls hls st x st' h k I0 ρ0 M0 w0 n a w hs hk hn
    refine ⟨wp_block ?_, fun y h => by cases h⟩
    simp only [evW] at h
    split at h
    · rename_i i st1 h1
      refine wp_mono (ihy ls hls st _ st1 h1 k I0 ρ0 M0 w0 n a w hs hk hn).1 ?_
      rintro e a' w' ⟨rfl, h2, h3⟩
      cases hb : Nat.beq i id with
      | true =>
        simp only [hb, cond_true, Option.some.injEq, Prod.mk.injEq] at h
        obtain ⟨rfl, rfl⟩ := h
        rw [Nat.beq_eq] at hb; subst hb
        simp only [exitOf, Exit.inBlock, if_true]
        exact ⟨rfl, h2, h3⟩
      | false =>
        simp only [hb, cond_false, Option.some.injEq, Prod.mk.injEq] at h
        obtain ⟨rfl, rfl⟩ := h
        have hne : ¬ i = id := fun e => by rw [e, Nat.beq_refl] at hb; cases hb
        simp only [exitOf, Exit.inBlock, if_neg hne]
        exact ⟨rfl, h2, h3⟩
    · rename_i hr
      refine wp_mono (ihy ls hls st x st' h k I0 ρ0 M0 w0 n a w hs hk hn).1 ?_
      rintro e a' w' ⟨rfl, h2, h3⟩
      cases x with
      | norm => exact ⟨rfl, h2, h3⟩
      | exit i => exact absurd h (hr i st')
      | ret => exact ⟨rfl, h2, h3⟩
  | loop y ihy =>
    intro ls hls st x st' h k I0 ρ0 M0 w0 n a w hs hk hn
    have key : noC ls = true → (match evW P G loop call ls.tail y st with
        | some (.norm, st') => loop ls (.loop y) (trunc st.mem.length st')
        | r => r) = some (x, st') → Code.rounds P y (Ends k I0 ρ0 M0 w0 x st' n) (m + 1) a w := by
      intro hno h
      rw [rounds_succ]
      split at h
      · rename_i st1 h1
        refine wp_mono (ihy ls.tail hls.tail st .norm st1 h1 k I0 ρ0 M0 w0 st.mem.length a w hs hk (Nat.le_refl _)).1 ?_
        rintro e a' w' ⟨rfl, h2, h3⟩
        have hl := trunc_length (st := st1) h3
        exact hL ls y hls hno _ x st' h k I0 ρ0 M0 w0 n a' w' (trunc_ok h2 hk) (by omega) (by omega)
      · rename_i hr
        refine wp_mono (ihy ls.tail hls.tail st x st' h k I0 ρ0 M0 w0 n a w hs hk hn).1 ?_
        rintro e a' w' ⟨rfl, h2, h3⟩
        cases x with
        | norm => exact absurd h (hr st')
        | exit i => exact ⟨rfl, h2, h3⟩
        | ret => exact ⟨rfl, h2, h3⟩
    cases ls with
    | nil =>
      simp only [evW] at h
      exact ⟨wp_loop_rounds (m + 1) (key rfl h), fun z hz _ => by injection hz with hz; subst hz; exact key rfl h⟩
    | cons g ls =>
      cases g with
      | none =>
        simp only [evW] at h
        exact ⟨wp_loop_rounds (m + 1) (key rfl h), fun z hz _ => by injection hz with hz; subst hz; exact key rfl h⟩
      | some g =>
        simp only [evW] at h
        exact ⟨hls 0 g y rfl rfl st x st' h k I0 ρ0 M0 w0 n a w hs hk hn, fun z _ hno => by cases hno⟩
  | exit id =>
    intro ls hls st x st' h k I0 ρ0 M0 w0 n a w hs hk hn
    simp only [evW, Option.some.injEq, Prod.mk.injEq] at h
    obtain ⟨rfl, rfl⟩ := h
    exact ⟨wp_exit ⟨rfl, hs, hn⟩, fun y h => by cases h⟩
  | ret =>
    intro ls hls st x st' h k I0 ρ0 M0 w0 n a w hs hk hn
    simp only [evW, Option.some.injEq, Prod.mk.injEq] at h
    obtain ⟨rfl, rfl⟩ := h
    exact ⟨wp_ret ⟨rfl, hs, hn⟩, fun y h => by cases h⟩
  | _ =>
    intro ls hls st x st' h
    simp [evW] at h

/-- All plans are right. -/
def PlOK (P : Program) (pl : Plans) : Prop := ∀ f fn c, P.funcs[f]? = some fn → fn.body = some c → LsOK P (pl f) c

theorem runW_both (hG : GOK P G) {pl : Plans} (hp : PlOK P pl) : ∀ n, (∀ c ls, LsOK P ls c → RunC P (runW P G pl n ls) c) ∧ LoopOKW P n (runW P G pl n)
  | 0 => ⟨fun c ls _ st x st' h => (by cases h), fun ls c _ _ st x st' h => (by cases h)⟩
  | n + 1 => by
    obtain ⟨h1, h2⟩ := runW_both hG hp n
    have hC : CallOK P (fun f us mem => callF P (runW P G pl n (pl f)) f us mem) := fun f us mem v mem' h => callF_ok1 (f := f) (fun fn c h3 h4 => h1 c (pl f) (hp f fn c h3 h4)) us mem v mem' h
    exact ⟨fun c ls hls st x st' h k I0 ρ0 M0 w0 m a w hs hk hm => (evW_ok hG h2 hC c ls hls st x st' h k I0 ρ0 M0 w0 m a w hs hk hm).1,
      fun ls c hls hno st x st' h k I0 ρ0 M0 w0 m a w hs hk hm => (evW_ok hG h2 hC (.loop c) ls hls st x st' h k I0 ρ0 M0 w0 m a w hs hk hm).2 c rfl hno⟩
theorem runW_ok (hG : GOK P G) {pl : Plans} (hp : PlOK P pl) : ∀ n c ls, LsOK P ls c → RunC P (runW P G pl n ls) c := fun n => (runW_both hG hp n).1

theorem callW_ok (hG : GOK P G) {pl : Plans} (hp : PlOK P pl) (n : Nat) : CallOK P (fun f us mem => callF P (runW P G pl n (pl f)) f us mem) :=
  fun f us mem v mem' h => callF_ok1 (f := f) (fun fn c h1 h2 => runW_ok hG hp n c (pl f) (hp f fn c h1 h2)) us mem v mem' h

/-- No plans. -/
theorem PlOK.none : PlOK P (fun _ => []) := fun _ _ _ _ _ i g x h => by simp at h

/-- A piece of code, calls gone into n deep. -/
def evN (P : Program) (G : Tab) (pl : Plans) (n : Nat) {R : Type} (ls : Ls) (c : Code) (st : St) (k : Ex → St → Option R) : Option R :=
  evWK P G (runWK P G pl n) (fun f us mem k => callK P (runWK P G pl n (pl f)) f us mem k) ls c st k
theorem evN_ok (hG : GOK P G) {pl : Plans} (hp : PlOK P pl) {n : Nat} {R : Type} {ls : Ls} {c : Code} {st : St} {k : Ex → St → Option R} {r : R} (hls : LsOK P ls c) (h : evN P G pl n ls c st k = some r) :
    ∃ x st', k x st' = some r ∧ ∀ (k0 : Nat) (I0 : Addr → Prop) (ρ0 : List (Option Nat)) (M0 : List B) (w0 : World) (m : Nat) (a : Act) (w : World), Sim k0 I0 ρ0 M0 w0 st a w → k0 ≤ st.mem.length → m ≤ st.mem.length → c.wp P (Ends k0 I0 ρ0 M0 w0 x st' m) a w := by
  unfold evN at h
  rw [evWK_eq (runWK_eq n) (fun f us m k => callK_eq (runWK_eq n (pl f)) f us m k)] at h
  cases hx : evW P G (runW P G pl n) (fun f us mem => callF P (runW P G pl n (pl f)) f us mem) ls c st with
  | none => rw [hx] at h; cases h
  | some p =>
    obtain ⟨x, st'⟩ := p
    rw [hx] at h
    obtain ⟨h1, h2⟩ := runW_both hG hp n
    refine ⟨x, st', h, fun k0 I0 ρ0 M0 w0 m a w hs hk hm => ?_⟩
    exact (evW_ok hG h2 (fun f us mem v mem' h => callF_ok1 (f := f) (fun fn c h3 h4 => h1 c (pl f) (hp f fn c h3 h4)) us mem v mem' h) c ls hls st x st' hx k0 I0 ρ0 M0 w0 m a w hs hk hm).1

/- A loop's contract by its round. -/

structure LoopD where
  N : Nat
  live : List Nat
  liveX : List Nat
  h : List V → List B → Tr

def pickV (live : List Nat) (ts : List V) : List V := live.map fun i => ts.getD i .any
def lookV (i : Nat) : List Nat → List V → V
  | l :: ls, v :: vs => bif Nat.beq l i then v else lookV i ls vs
  | _, _ => .any
def spread (live : List Nat) (vals : List V) : Nat → Nat → List V
  | _, 0 => []
  | i, n + 1 => lookV i live vals :: spread live vals (i + 1) n

def LoopD.g (d : LoopD) (st : St) : Tr := bif Nat.beq st.tmps.length d.N then d.h (pickV d.live st.tmps) st.mem else .fail

def LoopD.obs (d : LoopD) (len : Nat) : Ex → St → Option (Ex × List V × List B)
  | .norm, s => bif Nat.beq (trunc len s).tmps.length d.N then some (.norm, pickV d.live (trunc len s).tmps, (trunc len s).mem) else none
  | e, s => bif Nat.beq (trunc len s).tmps.length d.N then some (e, pickV d.liveX (trunc len s).tmps, (trunc len s).mem) else none

theorem lookV_pick {ts : List V} {i : Nat} : ∀ live : List Nat, lookV i live (pickV live ts) = .any ∨ lookV i live (pickV live ts) = ts.getD i .any
  | [] => .inl rfl
  | l :: ls => by
    simp only [pickV, List.map_cons, lookV]
    cases hb : Nat.beq l i with
    | true => rw [Nat.beq_eq] at hb; subst hb; exact .inr rfl
    | false => exact lookV_pick ls

theorem spread_get {live : List Nat} {vals : List V} : ∀ (n i j : Nat), j < n → (spread live vals i n)[j]? = some (lookV (i + j) live vals)
  | n + 1, i, 0, _ => rfl
  | n + 1, i, j + 1, h => by
    simp only [spread, List.getElem?_cons_succ]
    rw [spread_get n (i + 1) j (by omega), show i + 1 + j = i + (j + 1) by omega]
theorem spread_length {live : List Nat} {vals : List V} : ∀ (n i : Nat), (spread live vals i n).length = n
  | 0, _ => rfl
  | n + 1, i => by simp only [spread, List.length_cons, spread_length n]

variable {k : Nat} {I0 : Addr → Prop} {ρ0 : List (Option Nat)} {M0 : List B} {w0 w : World}

theorem Sim.spread {st : St} {a : Act} {live : List Nat} {N : Nat} (hs : Sim k I0 ρ0 M0 w0 st a w) (hN : st.tmps.length = N) : Sim k I0 ρ0 M0 w0 ⟨Sh.spread live (pickV live st.tmps) 0 N, st.mem⟩ a w := by
  obtain ⟨⟨I, ρ, hS, hT, hE⟩, hd⟩ := hs
  refine ⟨⟨I, ρ, hS, F2.of_get (by rw [spread_length, ← hN]; exact F2.length hT) (fun i x y hx hy => ?_), hE⟩, hd⟩
  have hi : i < N := by have := lt_of_getElem? hx; rwa [spread_length] at this
  rw [spread_get N 0 i hi, Option.some.injEq, Nat.zero_add] at hx
  rcases lookV_pick (ts := st.tmps) (i := i) live with h | h
  · rw [← hx, h]; trivial
  · rw [← hx, h]
    have hil : i < st.tmps.length := by omega
    obtain ⟨y', h1, h2⟩ := F2.get hT (List.getElem?_eq_getElem hil)
    rw [hy] at h1
    cases h1
    simpa [List.getD, hil] using h2

theorem loopC_rel (hG : GOK P G) {pl : Plans} (hp : PlOK P pl) (n : Nat) {x : Code} {ls : Ls} (hls : LsOK P ls x) (d : LoopD)
    (R : Nat → List V → List B → Ex → St → Prop)
    (hd : ∀ vals mem e st', (d.h vals mem).s = some (e, st') → ∃ m, R m vals mem e st')
    (hstep : ∀ m vals mem e st', R m vals mem e st' → ∃ e1 vals1 mem1, evN P G pl n ls x ⟨spread d.live vals 0 d.N, mem⟩ (d.obs mem.length) = some (e1, vals1, mem1) ∧
      ((e1 = .norm ∧ ∃ m', m' < m ∧ R m' vals1 mem1 e st') ∨ (e1 ≠ .norm ∧ e = e1 ∧ st' = ⟨spread d.liveX vals1 0 d.N, mem1⟩))) : LoopC P x d.g := by
  have main : ∀ (m : Nat) (vals : List V) (mem : List B) e st' (m0 : Nat), m0 < m → R m0 vals mem e st' → ∀ (k : Nat) (I0 : Addr → Prop) (ρ0 : List (Option Nat)) (M0 : List B) (w0 : World) (n : Nat) (a : Act) (w : World),
      Sim k I0 ρ0 M0 w0 ⟨spread d.live vals 0 d.N, mem⟩ a w → k ≤ mem.length → n ≤ mem.length → Code.rounds P x (Ends k I0 ρ0 M0 w0 e st' n) m a w := by
    intro m
    induction m with
    | zero => intro vals mem e st' m0 h; omega
    | succ m ih =>
      intro vals mem e st' m0 hμ hh k I0 ρ0 M0 w0 n a w hs hk hn
      obtain ⟨e1, vals1, mem1, h1, h2⟩ := hstep m0 vals mem e st' hh
      obtain ⟨e2, st1, h1, hwp⟩ := evN_ok hG hp hls h1
      rw [rounds_succ]
      cases e2 with
      | norm =>
        simp only [LoopD.obs] at h1
        cases hb : Nat.beq (trunc mem.length st1).tmps.length d.N with
        | false => rw [hb] at h1; cases h1
        | true =>
          rw [hb] at h1
          simp only [cond_true, Option.some.injEq, Prod.mk.injEq] at h1
          obtain ⟨rfl, rfl, rfl⟩ := h1
          rcases h2 with ⟨_, m', h3, h4⟩ | ⟨h3, _⟩
          · refine wp_mono (hwp k I0 ρ0 M0 w0 mem.length a w hs hk (Nat.le_refl _)) ?_
            rintro e a' w' ⟨rfl, h5, h6⟩
            have hl := trunc_length (st := st1) h6
            rw [Nat.beq_eq] at hb
            exact ih _ _ e _ m' (by omega) h4 k I0 ρ0 M0 w0 n a' w' ((trunc_ok h5 hk).spread hb) (by omega) (by omega)
          · exact absurd rfl h3
      | exit i =>
        simp only [LoopD.obs] at h1
        cases hb : Nat.beq (trunc mem.length st1).tmps.length d.N with
        | false => rw [hb] at h1; cases h1
        | true =>
          rw [hb] at h1
          simp only [cond_true, Option.some.injEq, Prod.mk.injEq] at h1
          obtain ⟨rfl, rfl, rfl⟩ := h1
          rcases h2 with ⟨h3, _⟩ | ⟨_, rfl, rfl⟩
          · cases h3
          · refine wp_mono (hwp k I0 ρ0 M0 w0 mem.length a w hs hk (Nat.le_refl _)) ?_
            rintro e a' w' ⟨rfl, h5, h6⟩
            have hl := trunc_length (st := st1) h6
            rw [Nat.beq_eq] at hb
            exact ⟨rfl, (trunc_ok h5 hk).spread hb, Nat.le_trans hn hl⟩
      | ret =>
        simp only [LoopD.obs] at h1
        cases hb : Nat.beq (trunc mem.length st1).tmps.length d.N with
        | false => rw [hb] at h1; cases h1
        | true =>
          rw [hb] at h1
          simp only [cond_true, Option.some.injEq, Prod.mk.injEq] at h1
          obtain ⟨rfl, rfl, rfl⟩ := h1
          rcases h2 with ⟨h3, _⟩ | ⟨_, rfl, rfl⟩
          · cases h3
          · refine wp_mono (hwp k I0 ρ0 M0 w0 mem.length a w hs hk (Nat.le_refl _)) ?_
            rintro e a' w' ⟨rfl, h5, h6⟩
            have hl := trunc_length (st := st1) h6
            rw [Nat.beq_eq] at hb
            exact ⟨rfl, (trunc_ok h5 hk).spread hb, Nat.le_trans hn hl⟩
  intro st e st' h k I0 ρ0 M0 w0 n a w hs hk hn
  simp only [LoopD.g] at h
  cases hb : Nat.beq st.tmps.length d.N with
  | false => rw [hb] at h; cases h
  | true =>
    rw [hb] at h
    rw [Nat.beq_eq] at hb
    obtain ⟨m, hm⟩ := hd _ _ _ _ h
    exact wp_loop_rounds _ (main _ _ _ e st' m (Nat.lt_succ_self _) hm k I0 ρ0 M0 w0 n a w (hs.spread hb) hk hn)

/-- A function on shadow arguments, its loops by contract: its result alone. -/
def fnW (P : Program) (G : Tab) (pl : Plans) (n : Nat) (ls : Ls) (fn : Func) (us : List U) : Option V :=
  match fn.body with
  | some c => runWK P G pl n ls c (startF fn us []) fun e st => match e with
    | .exit _ => none
    | _ => resV P fn st
  | none => none

theorem ent_of_fnW (hG : GOK P G) {pl : Plans} (hp : PlOK P pl) {n : Nat} {ls : Ls} {f : FuncId} {fn : Func} {us : List U} {v : V} (hf : P.funcs[f]? = some fn) (hname : (fn.name == "runtime.NumGoroutine") = false)
    (hls : ∀ c, fn.body = some c → LsOK P ls c) (h : fnW P G pl n ls fn us = some v) (hus : us.all pureU = true) (hv : pureV (dataV v) = true) : EntOK P f us (dataV v) := by
  have hcall : ∃ mem', callF P (runW P G pl n ls) f us [] = some (v, mem') := by
    unfold fnW at h
    unfold callF
    rw [hf]
    simp only
    cases hb : fn.body with
    | none => rw [hb] at h; cases h
    | some c =>
      rw [hb] at h
      simp only [hname, cond_false]
      simp only at h
      rw [runWK_eq] at h
      cases hr : runW P G pl n ls c (startF fn us []) with
      | none => rw [hr] at h; cases h
      | some p =>
        obtain ⟨e, st⟩ := p
        rw [hr] at h
        simp only [Option.bind_some] at h
        cases e with
        | exit i => cases h
        | norm => simp only at h ⊢; rw [h]; exact ⟨_, rfl⟩
        | ret => simp only at h ⊢; rw [h]; exact ⟨_, rfl⟩
  obtain ⟨mem', hcall⟩ := hcall
  obtain ⟨he, hc⟩ := callF_ok1 (f := f) (fun fn' c h1 h2 => by rw [hf] at h1; cases h1; exact runW_ok hG hp n c ls (hls c h2)) us [] v mem' hcall
  intro m hm
  refine ⟨he, fun k I ρ M w vs hS hmM hu => ?_⟩
  have hsame : upd M m = M := upd_same fun p hp => hmM p hp (noGone_ok hm p hp)
  rw [hsame]
  refine (hc I [] w vs hS.bare (F2.mono_mem (fun u hmem y hy => pureU_any (List.all_eq_true.1 hus u hmem) hy) hu)).mono ?_
  rintro e w' ⟨u, I', ρ', rfl, s1, s2, s3, _⟩
  obtain ⟨t1, t2⟩ := frame_ok (k := k) hS s3 s1
  exact ⟨u, I', ρ, rfl, t1, pureV_any hv (dataV_ok s2), t2⟩

end
end Sh
end Go.Proofs.YtamdjlpobonmiaaDoor
