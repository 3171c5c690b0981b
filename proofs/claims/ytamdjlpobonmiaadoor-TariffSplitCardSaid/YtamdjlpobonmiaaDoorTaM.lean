/- The error of a tariff and weights: the entry. -/
import Derived.Test.YtamdjlpobonmiaaDoorTaL
namespace Go.Proofs.YtamdjlpobonmiaaDoor
namespace Sh
set_option maxRecDepth 100000

noncomputable section

def eRight : List U → Option (Bool × V) := eT fun s n g rest => match rest with
  | [.one (.d (.slc k 1 gw))] => some (szG s n && (decide (k ≤ 1000000) && isR k 1 gw), ri (rightB s n g k (cz k 1 (toI gw))))
  | [.one (.d (.slc 0 0 _))] => some (szG s n, ri (rightB s n g 0 fun _ _ => 0))
  | _ => none

theorem right_any (s : ByteArray) (n : Nat) (g : Nat → Nat → Int) (k : Nat) (gw : Nat → Nat → D) (hs : s.size ≤ 1000000) (hn : n ≤ 1000000) (hk : k ≤ 1000000) (hw : isR k 1 gw = true) :
    EntOK Tryd.prog 37 [tar s n g, .one (.d (.slc k 1 gw))] (ri (rightB s n g k (cz k 1 (toI gw)))) :=
  (right_ent s n g k (cz k 1 (toI gw)) hs hn hk).weaken fun w I ρ M vs hu => by
    obtain ⟨v0, l1, rfl, c0, r1⟩ := F2.cons_left hu
    obtain ⟨v1, l2, rfl, c1, r2⟩ := F2.cons_left r1
    exact ⟨c0, slcR (fun i j hi hj => by rw [isR_elim hw i j hi hj, cz_in hi hj]) c1, r2⟩
theorem right_nil (s : ByteArray) (n : Nat) (g : Nat → Nat → Int) (gw : Nat → Nat → D) (hs : s.size ≤ 1000000) (hn : n ≤ 1000000) :
    EntOK Tryd.prog 37 [tar s n g, .one (.d (.slc 0 0 gw))] (ri (rightB s n g 0 fun _ _ => 0)) :=
  (right_ent s n g 0 (fun _ _ => 0) hs hn (Nat.zero_le _)).weaken fun w I ρ M vs hu => by
    obtain ⟨v0, l1, rfl, c0, r1⟩ := F2.cons_left hu
    obtain ⟨v1, l2, rfl, c1, r2⟩ := F2.cons_left r1
    exact ⟨c0, slc0 c1, r2⟩

def G8 : Tab := addE G7 37 eRight
theorem G8_ok : GOK Tryd.prog G8 := addE_ok G7_ok (eT_ok fun s n g rest v hk => by
  split at hk
  · rename_i k gw
    simp only [Option.some.injEq, Prod.mk.injEq, szG, Bool.and_eq_true, decide_eq_true_eq] at hk
    obtain ⟨⟨⟨h1, h2⟩, h3, h4⟩, rfl⟩ := hk
    exact right_any s n g k gw h1 h2 h3 h4
  · rename_i gw
    simp only [Option.some.injEq, Prod.mk.injEq, szG, Bool.and_eq_true, decide_eq_true_eq] at hk
    obtain ⟨⟨h1, h2⟩, rfl⟩ := hk
    exact right_nil s n g gw h1 h2
  · cases hk)

end
end Sh
end Go.Proofs.YtamdjlpobonmiaaDoor
