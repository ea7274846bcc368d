/- Package graph: back. -/
import Derived.Test.YthaampinmelgaaaGreatDoorOut
import Derived.Deep.Onto
namespace Go.Proofs.YthaampinmelgaaaGreatDoor
open Go.RowKit Go.Shelf

theorem Ints.at {B : Nat} {w : World} {A : Option Addr} {n c : Nat} {l : List Int} (h : Ints B w (.slice A n c) l) {j : Nat} (hj : j < l.length) : ∃ ad, A = some ad ∧ ad.block < B ∧ w.cell? (ad.add j) = some (.int .i64 (getI l j)) := by
  obtain ⟨A', c', he, -, -, -, hat⟩ := Sl.shape h
  cases he
  obtain ⟨ad, u, rfl, hb, hc, hr⟩ := hat j _ (List.getElem?_eq_getElem hj)
  refine ⟨ad, rfl, hb, ?_⟩
  rw [hc]
  have : u = .int .i64 l[j] := hr
  rw [this]
  unfold getI
  rw [List.getD_eq_getElem?_getD, List.getElem?_eq_getElem hj]; rfl
theorem Nats.at {B : Nat} {w : World} {A : Option Addr} {n c : Nat} {l : List Nat} (h : Nats B w (.slice A n c) l) {j : Nat} (hj : j < l.length) : ∃ ad, A = some ad ∧ ad.block < B ∧ w.cell? (ad.add j) = some (.int .i64 (l.getD j 0 : Nat)) := by
  obtain ⟨A', c', he, -, -, -, hat⟩ := Sl.shape h
  cases he
  obtain ⟨ad, u, rfl, hb, hc, hr⟩ := hat j _ (List.getElem?_eq_getElem hj)
  refine ⟨ad, rfl, hb, ?_⟩
  rw [hc]
  have : u = .int .i64 (l[j] : Nat) := hr
  rw [this, List.getD_eq_getElem?_getD, List.getElem?_eq_getElem hj]; rfl
theorem Bools.at {B : Nat} {w : World} {A : Option Addr} {n c : Nat} {l : List Bool} (h : Bools B w (.slice A n c) l) {j : Nat} (hj : j < l.length) : ∃ ad, A = some ad ∧ ad.block < B ∧ w.cell? (ad.add j) = some (.bool (l.getD j false)) := by
  obtain ⟨A', c', he, -, -, -, hat⟩ := Sl.shape h
  cases he
  obtain ⟨ad, u, rfl, hb, hc, hr⟩ := hat j _ (List.getElem?_eq_getElem hj)
  refine ⟨ad, rfl, hb, ?_⟩
  rw [hc]
  have : u = .bool l[j] := hr
  rw [this, List.getD_eq_getElem?_getD, List.getElem?_eq_getElem hj]; rfl

theorem addrZero (a : Addr) : a.add 0 = a := by unfold Addr.add; simp
theorem addrOne (a : Addr) : a.add 1 = ⟨a.block, a.off + 1, none⟩ := by unfold Addr.add; simp
theorem addrTwo (a : Addr) : a.add 2 = ⟨a.block, a.off + 2, none⟩ := by unfold Addr.add; simp
def intV (x : Int) : Value := .int .i64 x
theorem fam_one {e : TypeId} {w : World} {base : Nat} : Fam e w base [.slice none 0 0] [[]] := by
  refine ⟨rfl, fun i v l hv hl => ?_, fun i j u v hu hv hne => ?_⟩
  · cases i with
    | zero => cases hv; cases hl; exact World.ownsRow_nil _ _ _ _
    | succ i => cases hv
  · cases i with
    | zero =>
      cases j with
      | zero => exact absurd rfl hne
      | succ j => cases hv
    | succ i => cases hu

end Go.Proofs.YthaampinmelgaaaGreatDoor
