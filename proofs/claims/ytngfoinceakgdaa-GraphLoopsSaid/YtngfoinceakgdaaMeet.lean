/- Package graph: the closure 'meet' of dominators. -/
import Derived.Test.YtngfoinceakgdaaPlain1
import Derived.Test.YtngfoinceakgdaaShape
import Derived.Deep.QuietTactic
import Derived.BigQuiet
import Derived.Deep.LoopGhost
namespace Go.Proofs.Ytngfoinceakgdaa
open Go.RowKit

def intV (x : Int) : Value := .int .i64 x
/-- The captured variables of the closure. -/
structure MeetEnv (w : World) (pv pb av ab n : Nat) (pl al : List Int) : Prop where
  pv : Blk w pv 27 [.slice (some ⟨pb, 0, none⟩) n n]
  av : Blk w av 27 [.slice (some ⟨ab, 0, none⟩) n n]
  pb : Blk w pb 3 (pl.map intV)
  ab : Blk w ab 3 (al.map intV)
  hp : pl.length = n
  ha : al.length = n
  alt : ∀ p, getI al p < n

theorem MeetEnv.only {w w' : World} {pv pb av ab n : Nat} {pl al : List Int} (h : MeetEnv w pv pb av ab n pl al) (ho : Only (fun _ => False) w w') : MeetEnv w' pv pb av ab n pl al :=
  ⟨h.pv.only ho id, h.av.only ho id, h.pb.only ho id, h.ab.only ho id, h.hp, h.ha, h.alt⟩

theorem getI_cell {w : World} {b : Nat} {l : List Int} (h : Blk w b 3 (l.map intV)) {p : Nat} (hp : p < l.length) : w.cell? ⟨b, p, none⟩ = some (.int .i64 (getI l p)) := by
  refine h.cellAt ?_
  rw [List.getElem?_map, List.getElem?_eq_getElem hp]
  simp [intV, getI, List.getD_eq_getElem?_getD, List.getElem?_eq_getElem hp]

set_option maxRecDepth 100000 in
set_option maxHeartbeats 1000000 in
theorem meet_any (w : World) (pv pb av ab n : Nat) (pl al : List Int) (h : MeetEnv w pv pb av ab n pl al) (k p q r : Nat) (hp : p < n) (hq : q < n) (hr : meetF pl al k p q = some r) :
    Calls Try.prog 75 #[.int .i64 (p : Int), .int .i64 (q : Int), .pointer (some ⟨pv, 0, none⟩), .pointer (some ⟨av, 0, none⟩)] w fun en w' => en = .returned (.int .i64 (r : Int)) ∧ Only (fun _ => False) w w' ∧ r < n := by
  go_enter Try.func75, Try.ntmps75
  go_wp2
  go_loopg [0, 1] k (fun k' x y wr => ∃ (p' q' : Nat), p' < n ∧ q' < n ∧ x = .int .i64 p' ∧ y = .int .i64 q' ∧ meetF pl al k' p' q' = some r ∧ Only (fun _ => False) w wr)
  case atStart => exact ⟨p, q, hp, hq, rfl, rfl, hr, Only.refl _ _⟩
  case round =>
    obtain ⟨p', q', hp', hq', rfl, rfl, hm, ho⟩ := hrel
    have he := h.only ho
    have c1 := he.pv.cellAt (i := 0) rfl
    have c2 := he.av.cellAt (i := 0) rfl
    have c3 := getI_cell he.pb (he.hp ▸ hp')
    have c4 := getI_cell he.pb (he.hp ▸ hq')
    have c5 := getI_cell he.ab (he.ha ▸ hp')
    have c6 := getI_cell he.ab (he.ha ▸ hq')
    have hp1 : (p' : Int) < (n : Int) := by omega
    have hq1 : (q' : Int) < (n : Int) := by omega
    cases gk with
    | zero => simp [meetF] at hm
    | succ k' =>
      simp only [meetF] at hm
      by_cases h1 : p' = q'
      · subst h1
        rw [if_pos rfl] at hm
        obtain rfl : p' = r := Option.some.inj hm
        clear h he
        go_wp2
        go_ret
        exact ⟨rfl, ho⟩
      · rw [if_neg h1] at hm
        have h1' : (p' : Int) ≠ (q' : Int) := by omega
        by_cases h2 : getI pl p' < getI pl q'
        · rw [if_pos h2] at hm
          split at hm
          · rename_i h3
            have h4 := h.alt p'
            clear h he
            go_wp2
            go_quiet (fail)
            go_wp2
            go_roundg k'
            case measure => omega
            case rel => exact ⟨(getI al p').toNat, q', by omega, hq', by rw [Int.toNat_of_nonneg h3], rfl, hm, ho.drewN _⟩
          · cases hm
        · rw [if_neg h2] at hm
          have h2' : decide (getI pl p' < getI pl q') = false := by simpa using h2
          split at hm
          · rename_i h3
            have h4 := h.alt q'
            clear h he
            go_wp2
            go_quiet (fail)
            go_wp2
            go_roundg k'
            case measure => omega
            case rel => exact ⟨p', (getI al q').toNat, hp', by omega, rfl, by rw [Int.toNat_of_nonneg h3], hm, ho.drewN _⟩
          · cases hm

#print axioms meet_any

end Go.Proofs.Ytngfoinceakgdaa
