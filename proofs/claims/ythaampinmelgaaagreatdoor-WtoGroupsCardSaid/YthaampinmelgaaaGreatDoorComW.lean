/- Package graph: Components, with what it leans on. -/
import Derived.Test.YthaampinmelgaaaGreatDoorEls
import Derived.Test.YthaampinmelgaaaGreatDoorBack
import Derived.Test.YthaampinmelgaaaGreatDoorFront
import Derived.Laws.OwnMore
import Derived.Test.YthaampinmelgaaaGreatDoorPlain1
import Derived.Test.YthaampinmelgaaaGreatDoorReach
import Derived.Shelf.Sort.Plain
import Derived.Shelf.Slices.In.SortNone
import Derived.Test.YthaampinmelgaaaGreatDoorLaid
import Derived.Sort.OwnSortedInts
import Derived.Shelf.SlSortCmp.NoneTotal
import Derived.Ground.SlsfProg
import Derived.Test.YthaampinmelgaaaGreatDoorBase
import Derived.RangeFuncLeaves
import Derived.RangeFuncRecord
import Derived.RangeFuncBox
import Derived.Deep.LoopGhost
import Derived.Sort.QuietIn
import Derived.Sort.QuietThIn
import Derived.WalkMore
import Derived.Shelf.RegionOpen
import Derived.RangeFuncCalls
import Derived.Test.YthaampinmelgaaaGreatDoorPlain2
import Derived.Deep.RegionHeld3
import Derived.StillTailTactics
import Derived.Shelf.Bits.Mul64
import Derived.Laws.CopyOwn
import Derived.Test.YthaampinmelgaaaGreatDoorShape

namespace Go.Proofs.YthaampinmelgaaaGreatDoor
open Go.RowKit
theorem getI_cell {w : World} {b : Nat} {l : List Int} (h : Blk w b 3 (l.map intV)) {p : Nat} (hp : p < l.length) : w.cell? ⟨b, p, none⟩ = some (.int .i64 (getI l p)) := by
  refine h.cellAt ?_
  rw [List.getElem?_map, List.getElem?_eq_getElem hp]
  simp [intV, getI, List.getD_eq_getElem?_getD, List.getElem?_eq_getElem hp]
theorem below_grown {B : Nat} {w w' : World} (h : Below B w w') (hB : w.heap.size = B) : w.grownBy w' none := ⟨h.os, h.tape, h.output, h.size, fun k hk _ => h.block k (by omega)⟩
theorem Fam.below {e : TypeId} {w w' : World} {base : Nat} {R : List Value} {L : List (List Nat)} (h : Fam e w base R L) (hb : Below w.heap.size w w') : Fam e w' base R L := h.grown (below_grown hb rfl) (fun b e => by cases e)
theorem GOk.shapeOkRev {n : Nat} {exit : Int} {E : List (Nat × Nat)} (h : GOk n exit E) (x : Nat) : ((shapeOf n E).rev x).Ok := by
  refine ⟨by simp [shapeOf, Shp.rev], ?_, ?_, by have := h.n512; simp [shapeOf, Shp.rev]; omega⟩
  · intro es hes x hx
    obtain ⟨p, _, rfl⟩ := List.mem_map.1 hes
    have := List.mem_range.1 (List.mem_filter.1 hx).1
    simpa [shapeOf, Shp.rev] using this
  · intro x hx
    obtain ⟨y, hy, rfl⟩ := List.mem_map.1 hx
    exact (h.lt y hy).1
end Go.Proofs.YthaampinmelgaaaGreatDoor

namespace Go.Proofs.YthaampinmelgaaaGreatDoor
open Go.RowKit

set_option maxRecDepth 100000 in
set_option maxHeartbeats 1000000 in
theorem reversed_any (B : Nat) (w : World) (sa : Nat) (s : Shp) (entry : Nat) (hs : IsShape B w sa s) (hB : B ≤ w.heap.size) :
    Calls Tryz.prog 42 #[.pointer (some ⟨sa, 0, none⟩), .int .i64 (entry : Int)] w fun en w' =>
      ∃ sb, en = .returned (.pointer (some ⟨sb, 0, none⟩)) ∧ IsShape w'.heap.size w' sb (s.rev entry) ∧ Below w.heap.size w w' := by
  obtain ⟨hsa, vf, vt, vo, vi, hblk, hf, ht, ho, hi⟩ := id hs
  obtain ⟨Af, cf, rfl, -, -, -, -⟩ := Sl.shape hf
  obtain ⟨At, ct, rfl, -, -, -, -⟩ := Sl.shape ht
  obtain ⟨Ao, co, rfl, -, -, -, -⟩ := Sl.shape ho
  obtain ⟨Ai, ci, rfl, -, -, -, -⟩ := Sl.shape hi
  have c0 := hblk.cellAt (i := 0) rfl
  have c2 := hblk.cellAt (i := 2) rfl
  have c3 := hblk.cellAt (i := 3) rfl
  have c4 := hblk.cellAt (i := 4) rfl
  have c5 := hblk.cellAt (i := 5) rfl
  go_enter Tryz.func42, Tryz.ntmps42
  go_wp2
  go_still_tail 22, (by kernel_rfl)
  change wpList _ _ _ _ _ w.drew
  go_wp2
  go_ret
  have hb : Below w.heap.size w (w.drew.alloc (.cells #[.int .i64 (s.n : Int), .int .i64 (entry : Int), .slice At s.tg.length ct, .slice Af s.sr.length cf, .slice Ai s.inn.length ci, .slice Ao s.out.length co] 71)) :=
    ((Below.refl _ w).drew).alloc (Nat.le_refl _) _
  refine ⟨w.heap.size, rfl, ⟨by simp, _, _, _, _, Blk.newAt _ _ _ rfl, ?_, ?_, ?_, ?_⟩, hb⟩
  · exact (Nats.below (Sl.more ht hB) hb).more (by simp)
  · exact (Nats.below (Sl.more hf hB) hb).more (by simp)
  · exact ((hi.more hB).below hb).more (by simp)
  · exact ((ho.more hB).below hb).more (by simp)

#print axioms reversed_any

end Go.Proofs.YthaampinmelgaaaGreatDoor

namespace Go.Proofs.YthaampinmelgaaaGreatDoor
open Go.RowKit Go.Shelf


theorem splice_rep {x z : Value} (m n : Nat) : splice (List.replicate m x ++ List.replicate (n - m) z) m (List.replicate (Nat.min m (n - m)) x) = List.replicate (m + Nat.min m (n - m)) x ++ List.replicate (n - (m + Nat.min m (n - m))) z := by
  have h1 : Nat.min m (n - m) ≤ n - m := Nat.min_le_right _ _
  unfold splice
  rw [List.take_left' (by simp), List.drop_append, List.length_replicate, List.drop_eq_nil_of_le (by simp), List.nil_append, List.length_replicate, ← List.append_assoc, List.replicate_append_replicate, List.drop_replicate]
  congr 2
  omega

theorem rep_src {x z : Value} (m k n j : Nat) (v : Value) (h : (List.replicate (Nat.min m k) x)[j]? = some v) : (List.replicate m x ++ List.replicate n z)[j]? = some v := by
  rw [List.getElem?_replicate] at h
  split at h
  · rename_i hj
    have : j < m := Nat.lt_of_lt_of_le hj (Nat.min_le_left _ _)
    rw [List.getElem?_append_left (by simpa using this), List.getElem?_replicate, if_pos this]; exact h
  · cases h
theorem rep_fit (m n : Nat) : m + Nat.min m (n - m) ≤ m + (n - m) := Nat.add_le_add_left (Nat.min_le_right _ _) _

set_option maxRecDepth 100000 in
set_option maxHeartbeats 1000000 in
theorem repeat_any (w : World) (sb : Nat) (x : Int) (n : Nat) (h1 : 1 ≤ n) (hn : n ≤ 1000) (hb : Blk w sb 3 [.int .i64 x]) :
    Calls Tryz.prog 26 #[.slice (some ⟨sb, 0, none⟩) 1 1, .int .i64 (n : Int)] w fun en w' => ∃ g, en = .returned (.slice (some ⟨g, 0, none⟩) n n) ∧ Blk w' g 3 (List.replicate n (.int .i64 x)) ∧ w.heap.size ≤ g ∧ Below w.heap.size w w' := by
  have hmul := Any.bits_Mul Tryz.l212 1 n (by omega) (by omega) w
  have hmk := make_one (P := Tryz.prog) 31 3 (.int .i64 0) 8 Tryz.underlying31 info_int rfl n (by omega) (by omega)
  have e1 : (1 * n / 18446744073709551616 : Nat) = 0 := by rw [Nat.one_mul]; exact Nat.div_eq_of_lt (by omega)
  have e2 : (1 * n % 18446744073709551616 : Nat) = n := by rw [Nat.one_mul]; exact Nat.mod_eq_of_lt (by omega)
  rw [e1, e2] at hmul
  change Calls Tryz.prog 47 _ _ _ at hmul
  go_enter Tryz.func26, Tryz.ntmps26
  have hg0 : Blk (w.alloc (.cells (Array.replicate n (.int .i64 0)) 3)) w.heap.size 3 (List.replicate n (.int .i64 0)) := by
    have h := Blk.newAt (N := w.heap.size) w 3 (Array.replicate n (.int .i64 0)) rfl
    rwa [Array.toList_replicate] at h
  have hs0 := hb.alloc (.cells (Array.replicate n (.int .i64 0)) 3)
  have hb0 := (Below.refl w.heap.size w).alloc (Nat.le_refl _) (.cells (Array.replicate n (.int .i64 0)) 3)
  go_wp2_with (first
    | (go_at_call 47; refine hmul.mono ?_; rintro en w1 ⟨rfl, hw1⟩; rw [hw1])
    | ((with_reducible show wpList _ _ _ (⟨some 33, _, _, _, _, _⟩ :: _) _ _); refine wpList_copy_splice rfl (.tmp 31) (.tmp 32) 31 31 rfl 3 Tryz.underlying31 (by kernel_rfl) _ _ n n 1 1 rfl rfl w.heap.size 0 (List.replicate n (.int .i64 0)) 3 hg0 [.int .i64 x] (Nat.min_eq_left h1).symm (fun _ => ⟨rfl, _, rfl, fun j v hj => by rw [add_none]; exact hs0.cellAt hj⟩) (by simp; omega) (fun v hv => by simp at hv; subst hv; rfl) w.heap.size w hb0 (Nat.le_refl _) ?_))
  intro w2 hg2 hb2
  have hg3 : Blk w2 w.heap.size 3 (List.replicate 1 (.int .i64 x) ++ List.replicate (n - 1) (.int .i64 0)) := by
    have h := hg2.out
    have e : splice (List.replicate n (Value.int .i64 0)) 0 [.int .i64 x] = List.replicate 1 (.int .i64 x) ++ List.replicate (n - 1) (.int .i64 0) := by
      simp [splice]
    rw [e] at h
    exact h
  clear hg2 hmk hmul
  go_wp2
  go_loopw [8] (fun i wr => ∃ m : Nat, 1 ≤ m ∧ m ≤ n ∧ i = .int .i64 m ∧ Blk wr w.heap.size 3 (List.replicate m (.int .i64 x) ++ List.replicate (n - m) (.int .i64 0)) ∧ Below w.heap.size w wr) (fun i _ => n - (intOf i).toNat)
  case atStart => exact ⟨1, Nat.le_refl _, h1, rfl, hg3, hb2⟩
  case round =>
    obtain ⟨m, hm1, hmn, rfl, hg4, hb4⟩ := hrel
    clear hg3 hb2 hb0 hs0 hg0
    by_cases hlt : m < n
    · have hb5 := hb4.drew
      have hg5 := hg4.drew
      go_wp2
      go_region_held3 (fun _ => True) (trivial) ((refine step_copy_splice rfl (.tmp 41) (.tmp 44) 31 31 rfl 3 Tryz.underlying31 (by kernel_rfl) _ _ (n - m) (n - m) m n rfl rfl w.heap.size m _ 3 hg5 (List.replicate (Nat.min m (n - m)) (.int .i64 x)) (by simp) (fun _ => ⟨if_neg (by omega), _, rfl, fun j v hj => by (rw [add_none]; exact hg5.cellAt (rep_src _ _ _ _ _ hj))⟩) (by have := Nat.min_le_right m (n - m); simp only [List.length_append, List.length_replicate]; exact rep_fit _ _) (fun v hv => by obtain ⟨_, rfl⟩ := List.mem_replicate.1 hv; rfl) w.heap.size w hb5 (Nat.le_refl _) ?_; intro w5 hg6 hb6))
      have hg7 : Blk w5 w.heap.size 3 (List.replicate (m + Nat.min m (n - m)) (.int .i64 x) ++ List.replicate (n - (m + Nat.min m (n - m))) (.int .i64 0)) := by
        have h := hg6.out
        rw [splice_rep] at h
        exact h
      have hmin : 1 ≤ Nat.min m (n - m) ∧ m + Nat.min m (n - m) ≤ n := by
        have h1 : Nat.min m (n - m) ≤ n - m := Nat.min_le_right _ _
        have h2 : 1 ≤ Nat.min m (n - m) := Nat.le_min.2 ⟨by omega, by omega⟩
        omega
      clear hg6 hg5
      revert hg7 hmin
      generalize Nat.min m (n - m) = q
      intro hg7 hmin
      have hwr : IntKind.i64.wrap ((m : Int) + (q : Int)) = ((m + q : Nat) : Int) := by rw [IntKind.wrap_i64]; omega
      rw [hwr]
      go_wp2
      go_roundw
      case rel => exact ⟨m + q, by omega, by omega, rfl, hg7, hb6⟩
      case measure => simp [intOf]; omega
    · obtain rfl : m = n := by omega
      go_wp2
      go_ret
      exact ⟨_, rfl, by simpa using hg4, Nat.le_refl _, hb4⟩

#print axioms repeat_any

end Go.Proofs.YthaampinmelgaaaGreatDoor

namespace Go.Proofs.YthaampinmelgaaaGreatDoor
open Go.RowKit Go.Shelf
theorem own_below {e : TypeId} {w w' : World} {base n m : Nat} {v : Value} {xs : List Value} (h : w.ownsRow base e m v n xs) (hb : Below w.heap.size w w') : w'.ownsRow base e m v n xs := h.kept (below_grown hb rfl) (by cases hv : v.ownBlock with
  | none => exact .inl rfl
  | some b => exact .inr (by simp))
/-- Rows of two types do not lie in one block. -/
theorem own_types {w : World} {e e' : TypeId} {base base' n n' m m' : Nat} {v v' : Value} {xs xs' : List Value} (h : w.ownsRow base e m v n xs) (h' : w.ownsRow base' e' m' v' n' xs') (hne : e ≠ e') : v.ownBlock = none ∨ v.ownBlock ≠ v'.ownBlock := by
  rcases h.2 with ⟨rfl, _⟩ | ⟨g, cap, cur, rfl, _, hh, _⟩
  · exact .inl rfl
  · right
    rcases h'.2 with ⟨rfl, _⟩ | ⟨g', cap', cur', rfl, _, hh', _⟩
    · simp [Value.ownBlock]
    · intro he
      obtain rfl : g = g' := by simpa [Value.ownBlock] using he
      rw [hh] at hh'
      cases hh'
      exact hne rfl
theorem Fam.snoc {e : TypeId} {w : World} {base base' : Nat} {R : List Value} {L : List (List Nat)} {v : Value} {l : List Nat} (h : Fam e w base R L) (h' : Fam e w base' [v] [l]) (hb : base ≤ base') (hlt : ∀ u ∈ R, ∀ b, u.ownBlock = some b → b < base') : Fam e w base (R ++ [v]) (L ++ [l]) := by
  refine ⟨by simp [h.len], fun i u m hu hm => ?_, fun i j u x hu hx hne => ?_⟩
  · rw [List.getElem?_append] at hu hm
    split at hu
    · rename_i hi
      rw [if_pos (by rw [← h.len]; exact hi)] at hm
      exact h.own i u m hu hm
    · rename_i hi
      rw [if_neg (by rw [← h.len]; exact hi)] at hm
      rw [← h.len] at hm
      exact (h'.own _ u m hu hm).mono hb
  · have key : ∀ a, a ∈ R → (a.ownBlock = none ∨ a.ownBlock ≠ v.ownBlock) ∧ (v.ownBlock = none ∨ v.ownBlock ≠ a.ownBlock) := fun a ha => by
      cases hab : a.ownBlock with
      | none => exact ⟨.inl rfl, by cases hv : v.ownBlock with
          | none => exact .inl rfl
          | some b => exact .inr (by simp)⟩
      | some b =>
        have h1 := hlt a ha b hab
        cases hv : v.ownBlock with
        | none => exact ⟨.inr (by simp), .inl rfl⟩
        | some c =>
          have h2 := (h'.lt (i := 0) rfl hv).1
          exact ⟨.inr (by simp; omega), .inr (by simp; omega)⟩
    rw [List.getElem?_append] at hu hx
    split at hu
    · rename_i hi
      split at hx
      · exact h.apart i j u x hu hx hne
      · rename_i hj
        have : x = v := by
          cases hq : j - R.length with
          | zero => rw [hq] at hx; cases hx; rfl
          | succ q => rw [hq] at hx; cases hx
        subst this
        exact (key u (List.mem_of_getElem? hu)).1
    · rename_i hi
      have : u = v := by
        cases hq : i - R.length with
        | zero => rw [hq] at hu; cases hu; rfl
        | succ q => rw [hq] at hu; cases hu
      subst this
      split at hx
      · exact (key x (List.mem_of_getElem? hx)).2
      · rename_i hj
        exfalso
        have h1 : i = R.length := by
          cases hq : i - R.length with
          | zero => omega
          | succ q => rw [hq] at hu; cases hu
        have h2 : j = R.length := by
          cases hq : j - R.length with
          | zero => omega
          | succ q => rw [hq] at hx; cases hx
        omega
end Go.Proofs.YthaampinmelgaaaGreatDoor

/-! Package graph: the closure of groups. -/
namespace Go.Proofs.YthaampinmelgaaaGreatDoor
open Go.RowKit Go.Shelf

attribute [local go_sem] Oper.semAt_some

/-- Where the closure's variables lie. -/
structure GEnv where
  n₀ : Nat
  sa : Nat
  s : Shp
  sv : Nat
  ss : Nat
  vv : Nat
  ov : Nat
  sr : Nat
  base : Nat

def GEnv.fn (e : GEnv) : Value := .func (.func 43) #[] #[.pointer (some ⟨e.sv, 0, none⟩), .pointer (some ⟨e.ov, 0, none⟩), .pointer (some ⟨e.ss, 0, none⟩), .pointer (some ⟨e.vv, 0, none⟩)]

structure GEnv.Ok (e : GEnv) : Prop where
  hsv : e.n₀ ≤ e.sv ∧ e.sv < e.base
  hss : e.n₀ ≤ e.ss ∧ e.ss < e.base
  hvv : e.n₀ ≤ e.vv ∧ e.vv < e.base
  hov : e.n₀ ≤ e.ov ∧ e.ov < e.base
  hsr : e.n₀ ≤ e.sr ∧ e.sr < e.base
  hn : e.s.out.length = e.s.n
  hto : ∀ es ∈ e.s.out, ∀ x ∈ es, x < e.s.tg.length
  htn : ∀ x ∈ e.s.tg, x < e.s.n
  hsz : e.s.n ≤ 100000

/-- The state of a search in memory: 'vo' is the value of the variable 'order'. -/
structure GS (e : GEnv) (w : World) (seen : List Bool) (order : List Nat) (vo : Value) : Prop where
  sh : IsShape e.n₀ w e.sa e.s
  sv : Blk w e.sv 93 [.slice (some ⟨e.sr, 0, none⟩) e.s.n e.s.n]
  sr : Blk w e.sr 4 (seen.map Value.bool)
  len : seen.length = e.s.n
  ss : Blk w e.ss 67 [.pointer (some ⟨e.sa, 0, none⟩)]
  vv : Blk w e.vv 105 [e.fn]
  ov : Blk w e.ov 31 [vo]
  row : w.ownsRow e.base 3 1 vo order.length (order.map natV)

def GW (e : GEnv) (vo : Value) (b : Nat) : Prop := b = e.sr ∨ b = e.ov ∨ vo.ownBlock = some b

theorem GEnv.Ok.next_lt {e : GEnv} (h : e.Ok) {p x : Nat} (hp : p < e.s.out.length) (hx : x ∈ e.s.next p) : x < e.s.n := by
  simp only [Shp.next, List.getD_eq_getElem?_getD, List.getElem?_eq_getElem hp, Option.getD_some, List.mem_map] at hx
  obtain ⟨y, hy, rfl⟩ := hx
  have := h.hto _ (List.getElem_mem hp) y hy
  simp only [List.getElem?_eq_getElem this, Option.getD_some]
  exact h.htn _ (List.getElem_mem this)

theorem GS.cells {e : GEnv} {w : World} {seen : List Bool} {order : List Nat} {vo : Value} (h : GS e w seen order vo) {b : Nat} (hb : GW e vo b) : ∃ o : Obj, w.heap[b]? = some o ∧ o.isCells = true := by
  rcases hb with rfl | rfl | hb
  · exact ⟨_, h.sr, rfl⟩
  · exact ⟨_, h.ov, rfl⟩
  · rcases h.row.2 with ⟨rfl, _⟩ | ⟨g, cap, cur, rfl, _, hh, _⟩
    · simp [Value.ownBlock] at hb
    · obtain rfl : g = b := by simpa [Value.ownBlock] using hb
      exact ⟨_, hh, rfl⟩

theorem GS.keep {e : GEnv} {w w' : World} {seen : List Bool} {order : List Nat} {vo : Value} (h : GS e w seen order vo) {row : Option Nat} (hg : w.grownBy w' row)
    (hr : ∀ r, row = some r → e.n₀ ≤ r ∧ ∃ o : Obj, w.heap[r]? = some o ∧ o.isCells = false) (hn : e.n₀ ≤ w.heap.size) : GS e w' seen order vo := by
  have hk : ∀ {g : Nat} {t : TypeId} {cs : List Value}, Blk w g t cs → Blk w' g t cs := fun {g t cs} hb => hb.same (hg.block g hb.lt (fun e' => by
    obtain ⟨_, o, ho, hc⟩ := hr g e'.symm
    unfold Blk at hb
    rw [hb] at ho
    cases ho
    simp [Obj.isCells] at hc))
  refine ⟨h.sh.below ((Below.refl _ _).grown hg hn (fun k hk => (hr k hk).1)), hk h.sv, hk h.sr, h.len, hk h.ss, hk h.vv, hk h.ov, h.row.kept hg ?_⟩
  cases hv : vo.ownBlock with
  | none => exact .inl rfl
  | some g =>
    refine .inr (fun e' => ?_)
    obtain ⟨_, o, ho, hc⟩ := hr g e'.symm
    obtain ⟨o', ho', hc'⟩ := h.cells (.inr (.inr hv))
    rw [ho] at ho'
    cases ho'
    rw [hc] at hc'
    cases hc'

theorem GS.drewN {e : GEnv} {w : World} {seen : List Bool} {order : List Nat} {vo : Value} (h : GS e w seen order vo) (n : Nat) : GS e (w.drewN n) seen order vo :=
  ⟨h.sh.below ⟨rfl, rfl, rfl, Nat.le_refl _, fun _ _ => rfl⟩, h.sv, h.sr, h.len, h.ss, h.vv, h.ov, h.row⟩

/-- What a visit leaves. -/
def GVisited (e : GEnv) (w : World) (vo : Value) (t : List Bool × List Nat) (en : Ending) (w' : World) : Prop :=
  en = .returned (.tuple #[]) ∧ ∃ vo', GS e w' t.1 t.2 vo' ∧ Only (GW e vo) w w' ∧ (vo'.ownBlock = vo.ownBlock ∨ ∃ b, vo'.ownBlock = some b ∧ w.heap.size ≤ b)


theorem GS.alloc {e : GEnv} {w : World} {seen : List Bool} {order : List Nat} {vo : Value} (h : GS e w seen order vo) (hn : e.n₀ ≤ w.heap.size) (o : Obj) : GS e (w.alloc o) seen order vo :=
  h.keep (World.grownBy_alloc w o none) (fun r e => by cases e) hn

theorem GS.see {e : GEnv} (hok : e.Ok) {w : World} {seen : List Bool} {order : List Nat} {vo : Value} (h : GS e w seen order vo) (p : Nat) : GS e (w.setCell ⟨e.sr, p, none⟩ (.bool true)) (seen.set p true) order vo := by
  have f := hok
  refine ⟨h.sh.below ((Below.refl _ w).setCell hok.hsr.1 _), h.sv.far (h.sv.ne h.sr (by decide)) _, ?_, by simpa using h.len, h.ss.far (h.ss.ne h.sr (by decide)) _,
    h.vv.far (h.vv.ne h.sr (by decide)) _, h.ov.far (h.ov.ne h.sr (by decide)) _, ownsRow_setCell_below h.row hok.hsr.2 _⟩
  have := h.sr.set p (.bool true)
  rw [List.map_set]
  exact this

theorem GS.lt {e : GEnv} {w : World} {seen : List Bool} {order : List Nat} {vo : Value} (h : GS e w seen order vo) {b : Nat} (hb : GW e vo b) : b < w.heap.size := by
  obtain ⟨o, ho, _⟩ := h.cells hb
  exact lt_of_block ho

/-- What stands of a state in memory when only what it owns has been written since w0. -/
theorem Only.gw {e : GEnv} {w0 w1 w2 : World} {vo vo1 : Value} (h : Only (GW e vo) w0 w1) (k : Only (GW e vo1) w1 w2) (hrow : vo1.ownBlock = vo.ownBlock ∨ ∃ b, vo1.ownBlock = some b ∧ w0.heap.size ≤ b) : Only (GW e vo) w0 w2 :=
  h.trans k fun b hb hv => by
    rcases hv with rfl | rfl | hv
    · exact .inl rfl
    · exact .inr (.inl rfl)
    · rcases hrow with hr | ⟨g, hr, hg⟩
      · exact .inr (.inr (hr ▸ hv))
      · rw [hr] at hv; cases hv; omega

theorem GS.grown {e : GEnv} (hok : e.Ok) {W w' : World} {seen : List Bool} {order : List Nat} {vo : Value} {o : Obj} (h : GS e W seen order vo) (hb : e.base ≤ W.heap.size) (hg : (W.alloc o).grownBy w' vo.ownBlock) :
    (∀ {g : Nat} {t : TypeId} {cs : List Value}, Blk W g t cs → g < e.base → Blk w' g t cs) ∧ Below e.n₀ W w' ∧ Only (GW e vo) W w' := by
  have hrow : ∀ k, vo.ownBlock = some k → e.base ≤ k := fun k hk => (h.row.lt k hk).1
  refine ⟨fun {g t cs} hblk hlt => ?_, ?_, ?_⟩
  · exact (hblk.alloc o).same (hg.block g (by simp; have := hblk.lt; omega) (fun e' => by have := hrow g e'.symm; omega))
  · have := hok.hov
    exact ((Below.refl _ W).alloc (by omega) o).grown hg (by simp; omega) (fun k hk => by have := hrow k hk; omega)
  · exact ((Only.refl _ W).alloc o).trans (Only.of_grown (S := GW e vo) hg (fun b hb => .inr (.inr hb))) (fun _ _ hb => hb)

theorem GS.push {e : GEnv} (hok : e.Ok) {W w' : World} {seen : List Bool} {order : List Nat} {vo v' : Value} {o : Obj} {p : Nat} (h : GS e W seen order vo) (hb : e.base ≤ W.heap.size)
    (hg : (W.alloc o).grownBy w' vo.ownBlock) (hown : w'.ownsRow e.base 3 1 v' (order.length + 1) (order.map natV ++ [.int .i64 (p : Int)])) :
    GS e (w'.setCell ⟨e.ov, 0, none⟩ v') seen (order ++ [p]) v' ∧ Only (GW e vo) W (w'.setCell ⟨e.ov, 0, none⟩ v') := by
  obtain ⟨hk, hbel, hon⟩ := h.grown hok hb hg
  have far : ∀ {g : Nat} {t : TypeId} {cs : List Value}, Blk W g t cs → g < e.base → g ≠ e.ov → Blk (w'.setCell ⟨e.ov, 0, none⟩ v') g t cs := fun hblk hlt hne => (hk hblk hlt).far (p := ⟨e.ov, 0, none⟩) hne v'
  refine ⟨⟨h.sh.below (hbel.setCell hok.hov.1 _), far h.sv hok.hsv.2 (h.sv.ne h.ov (by decide)), far h.sr hok.hsr.2 (h.sr.ne h.ov (by decide)), h.len,
    far h.ss hok.hss.2 (h.ss.ne h.ov (by decide)), far h.vv hok.hvv.2 (h.vv.ne h.ov (by decide)), by simpa using (hk h.ov hok.hov.2).set 0 v', ?_⟩, hon.set (fun _ => .inr (.inl rfl)) _⟩
  have := ownsRow_setCell_below (a := ⟨e.ov, 0, none⟩) hown hok.hov.2 v'
  simpa [natV] using this

set_option maxRecDepth 100000 in
set_option maxHeartbeats 2000000 in
theorem grp_any (e : GEnv) (hok : e.Ok) : ∀ (k : Nat) (w : World) (seen : List Bool) (order : List Nat) (vo : Value) (p : Nat) (t : List Bool × List Nat),
    GS e w seen order vo → p < e.s.n → e.base ≤ w.heap.size → grpV e.s.next k (seen, order) p = some t → t.2.length ≤ 1000000 →
    Calls Tryz.prog 43 #[.int .i64 (p : Int), .pointer (some ⟨e.sv, 0, none⟩), .pointer (some ⟨e.ov, 0, none⟩), .pointer (some ⟨e.ss, 0, none⟩), .pointer (some ⟨e.vv, 0, none⟩)] w (GVisited e w vo t) := by
  intro k
  induction k with
  | zero => intro w seen order vo p t _ _ _ h; simp [grpV] at h
  | succ k ih =>
    intro w seen order vo p t hvs hp hbase h hlen
    have c2 := hvs.sv.cellAt (i := 0) rfl
    have hsl := hvs.len
    have c3 : w.cell? ⟨e.sr, p, none⟩ = some (.bool (seen.getD p false)) := hvs.sr.cellAt (by simp [show p < seen.length by omega])
    have hsz := hok.hsz
    simp only [grpV] at h
    by_cases h2 : seen.getD p false = true
    · rw [if_pos h2] at h
      obtain rfl : (seen, order) = t := by simpa using h
      rw [h2] at c3
      clear h2 h ih hsl hlen
      go_enter Tryz.func43, Tryz.ntmps43
      go_wp2
      refine bodyPost_ret (results_none rfl _ _ _) rfl ⟨rfl, vo, hvs, Only.refl _ _, .inl rfl⟩
    rw [if_neg h2] at h
    have h3 : seen.getD p false = false := by simpa using h2
    rw [h3] at c3
    have f3 := hvs.sr.frozen p
    have c4 := (hvs.ss.far (p := ⟨e.sr, p, none⟩) (hvs.ss.ne hvs.sr (by decide)) (.bool true)).cellAt (i := 0) rfl
    have hvz := hvs.see hok p
    have hn0 : e.n₀ ≤ w.heap.size := by have := hok.hsr; omega
    have co := hvz.ov.cellAt (i := 0) rfl
    have hon0 := Only.set (p := ⟨e.sr, p, none⟩) (Only.refl (GW e vo) w) (fun _ => .inl rfl) (.bool true)
    have hlo : order.length + 1 ≤ 1000000 := by have := grpF_more _ _ _ _ h; simp only [List.length_append, List.length_singleton] at this; omega
    have HF := Lib.hid h
    obtain ⟨i0, hi, hz0, hz1, hz2⟩ := info_parts info_int
    clear h2 h3 h hsl
    refine (callsIn_wide (n := 5)).1 (callsIn_of_wp_marks Tryz.func43 rfl trivial (wpIn_wide.2 ?_) rfl)
    simp only [Tryz.ntmps43, List.size_toArray, List.length_cons, List.length_nil, Nat.reduceAdd, Nat.reduceSub, Array.replicate_succ, Array.replicate_zero, List.push_toArray, List.append_toArray, List.nil_append, List.cons_append]
    go_wp2_with (at_builtin; refine wpList_append_own_at _ rfl (.tmp 14) (.tmp 16) 31 rfl e.base 3 i0 (.int .i64 0) 1 8 Tryz.underlying31 hi hz0 hz1 hz2 rfl (by decide) vo order.length (order.map natV) rfl (hvz.row.alloc _) ⟨w.heap.size, 0, none⟩ 1 1 [.int .i64 (p : Int)] rfl rfl ?c1 ?c2 ?c3 ?c4 ?c5 ?_)
    case c1 =>
      intro j u hj
      match j, hj with
      | 0, hj =>
        simp at hj; subst hj; rw [add_none]
        have h := Blk.new (w.setCell ⟨e.sr, p, none⟩ (.bool true)) 3 [.int .i64 (p : Int)]
        rw [World.size_setCell] at h
        exact h.cellAt rfl
    case c2 => intro u hu; simp at hu; subst hu; rfl
    case c3 => simp only [maxLen]; omega
    case c4 => omega
    case c5 => simp; omega
    intro v' w' hown hgrow _ hat
    obtain ⟨g, cap, rfl⟩ := ownsRow_succ hown
    have hbs0 : e.base ≤ (w.setCell ⟨e.sr, p, none⟩ (.bool true)).heap.size := by rw [World.size_setCell]; exact hbase
    have hgr := hvz.grown hok hbs0 hgrow
    have co2 := (hgr.1 hvz.ov hok.hov.2).cellAt (i := 0) rfl
    have fo2 := (hgr.1 hvz.ov hok.hov.2).frozen 0
    obtain ⟨hv1, hon1⟩ := hvz.push hok hbs0 hgrow hown
    have hon2 := hon0.trans hon1 (fun _ _ h => h)
    have hsz1 : w.heap.size + 1 ≤ (w'.setCell ⟨e.ov, 0, none⟩ (.slice (some ⟨g, 0, none⟩) (order.length + 1) cap)).heap.size := by have := hgrow.size; simp at this ⊢; omega
    have hat2 : (Value.slice (some ⟨g, 0, none⟩) (order.length + 1) cap).ownBlock = vo.ownBlock ∨ ∃ b, (Value.slice (some ⟨g, 0, none⟩) (order.length + 1) cap).ownBlock = some b ∧ w.heap.size ≤ b := by
      rcases hat with hat | hat
      · exact .inl hat
      · exact .inr ⟨_, hat, by omega⟩
    have css := hv1.ss.cellAt (i := 0) rfl
    have HV1 := Lib.hid hv1
    have HO2 := Lib.hid hon2
    have HAT := Lib.hid hat2
    have HS1 := Lib.hid hsz1
    have HGS := Lib.hid hgrow.size
    clear hown hgrow hgr hat hv1 hon1 hon2 hon0 hat2 hsz1 co c4 hvz c2 c3 f3
    go_wp2_with (go_at_call 27; refine (next_any _ _ _).mono ?_; rintro en w1 ⟨rfl, rfl⟩)
    refine wpIn_wide (n := 5).1 ?_
    obtain ⟨W1, hW1⟩ : ∃ W1, W1 = w'.setCell ⟨e.ov, 0, none⟩ (.slice (some ⟨g, 0, none⟩) (order.length + 1) cap) := ⟨_, rfl⟩
    have hsw : W1.heap.size = w'.heap.size := by rw [hW1, World.size_setCell]
    rw [← hW1] at HV1 HO2 HS1 ⊢
    generalize Value.slice (some ⟨g, 0, none⟩) (order.length + 1) cap = vo0 at HV1 HAT
    have hn1 : e.n₀ ≤ W1.heap.size := by have := HS1.out; omega
    have HBs := Lib.hid ((Blk.new W1 67 [.pointer (some ⟨e.sa, 0, none⟩)]).alloc (.cells #[.int .i64 (p : Int)] 3))
    have HBp := Lib.hid (Blk.new (W1.alloc (.cells #[.pointer (some ⟨e.sa, 0, none⟩)] 67)) 3 [.int .i64 (p : Int)])
    rw [World.size_alloc] at HBp
    have HV := Lib.hid ((HV1.out.alloc hn1 (.cells #[.pointer (some ⟨e.sa, 0, none⟩)] 67)).alloc (by simp; omega) (.cells #[.int .i64 (p : Int)] 3))
    have HO := Lib.hid ((HO2.out.alloc (.cells #[.pointer (some ⟨e.sa, 0, none⟩)] 67)).alloc (.cells #[.int .i64 (p : Int)] 3))
    obtain ⟨W0, hW0⟩ : ∃ W0, W0 = (W1.alloc (.cells #[.pointer (some ⟨e.sa, 0, none⟩)] 67)).alloc (.cells #[.int .i64 (p : Int)] 3) := ⟨_, rfl⟩
    have hs0 : W0.heap.size = W1.heap.size + 2 := by rw [hW0]; simp
    rw [← hW0] at HBs HBp HV HO ⊢
    clear hW0
    rw [hsw] at HBs HBp
    have hpl : p < e.s.out.length := by rw [hok.hn]; exact hp
    have hHS1 := HS1.out
    have hfresh : ∀ vo1 : Value, (vo1.ownBlock = vo0.ownBlock ∨ ∃ b, vo1.ownBlock = some b ∧ W0.heap.size ≤ b) → ∀ b, W1.heap.size ≤ b → b < W0.heap.size → ¬ GW e vo1 b := by
      rintro vo1 hr b hb hb' (rfl | rfl | hvw)
      · have := hok.hsr; omega
      · have := hok.hov; omega
      · rcases hr with hr | ⟨b', hr, hbb⟩
        · rw [hr] at hvw; have := HV1.out.row.lt _ hvw; omega
        · rw [hr] at hvw; cases hvw; omega
    refine wpIn_range_upd (e.s.next p) rfl (by omega) rfl trivial (enters_of Tryz.func48 (by kernel_rfl) rfl)
      (next_list 4 (by omega) w'.heap.size (w'.heap.size + 1) e.n₀ e.sa p e.s hpl hok.hto W0 HBs.out HBp.out HV.out.sh (by omega)) (fun h k => h.trans k)
      (fun W l o o' hl h _ _ => NextKp.book (B := W0.heap.size) (by omega) (by omega) (by omega) W l o o' hl h) (Below.refl _ _) (fun _ => rfl)
      (fun pre W => ∃ s1 vo1, foldO (grpV e.s.next k) pre (seen.set p true, order ++ [p]) = some s1 ∧ GS e W s1.1 s1.2 vo1 ∧ Only (GW e vo0) W0 W ∧ (vo1.ownBlock = vo0.ownBlock ∨ ∃ b, vo1.ownBlock = some b ∧ W0.heap.size ≤ b))
      (fun _ _ _ => False) ?hI (fun _ _ _ _ _ h _ _ => h) ⟨_, vo0, rfl, HV.out, Only.refl _ _, .inl rfl⟩
      (fun x a => (a.put (some 21) (.int .i64 (x : Int))).put (some 6) (.int .i64 (x : Int))) ?assign ?body ?done ?stop
    case hI =>
      rintro pre W W' row ⟨s1, vo1, hf, hv, ho, hr⟩ hg hrow
      exact ⟨s1, vo1, hf, hv.keep hg (fun r e' => ⟨by have := (hrow r e').1; omega, (hrow r e').2⟩) (by have := ho.size; omega), ho.trans (Only.of_grown (S := fun b => row = some b) hg (fun b e' => e')) (fun b hb e' => by have := (hrow b e').1; omega), hr⟩
    case assign =>
      intro l x W K hK
      gi_wp2
      simpa [Act.put] using hK
    case body =>
      rintro l pre x post W hys hWs ⟨s1, vo1, hf, hv, ho, hr⟩
      obtain ⟨s1', s2, hf', hx, hrest⟩ := foldO_part _ _ _ _ _ _ (hys ▸ HF.out)
      obtain rfl : s1' = s1 := by rw [hf] at hf'; exact (Option.some.inj hf').symm
      have hfs := foldO_snoc _ pre x _ _ hf
      rw [hx] at hfs
      have hc := ih W s1'.1 s1'.2 vo1 x s2 hv (hok.next_lt hpl (by rw [hys]; simp)) (by omega) hx (by have := grpF_more _ _ _ _ hrest; omega)
      have cv := hv.vv.cellAt (i := 0) rfl
      simp only [GEnv.fn] at cv
      have HS := Lib.hid hfs
      clear hfs hf hf' hx hys ih hrest
      gi_wp2_with ((try refine ⟨trivial, ?_⟩); gi_at_call 43; refine (CallsIn.inRound l (callsIn_wide.2 hc)).mono ?_; rintro en w2 ⟨rfl, vo2, hv2, ho2, hr2⟩)
      refine ⟨⟨ho2.size, fun b o hb hb' hc' => ?_⟩, ?_, s2, vo2, HS.out, hv2, ho.gw ho2 hr, ?_⟩
      · refine (ho2.block b (lt_of_block hb') (fun hvw => ?_)).trans hb'
        obtain ⟨o', h1, h2⟩ := hv.cells hvw
        rw [hb'] at h1
        cases h1
        rw [hc'] at h2
        cases h2
      · refine ⟨ho2.below (by omega) (fun b hb hvw => ?_), ho2.block _ (by omega) ?_, ho2.block _ (by omega) ?_⟩
        · rcases hvw with rfl | rfl | hvw
          · have := hok.hsr; omega
          · have := hok.hov; omega
          · have h1 := hv.row.lt b hvw; have h2 := hok.hov; omega
        · exact hfresh vo1 hr _ (by omega) (by omega)
        · exact hfresh vo1 hr _ (by omega) (by omega)
      · rcases hr2 with hr2 | ⟨b, hb, hbs⟩
        · rw [hr2]; exact hr
        · exact .inr ⟨b, hb, by omega⟩
    case done =>
      rintro D W hD ⟨s1, vo1, hf, hv, ho, hr⟩ hdef
      obtain rfl : s1 = t := by rw [HF.out] at hf; exact (Option.some.inj hf).symm
      have hDlt := lt_of_block hdef
      refine ⟨by simp, .inl ⟨_, _, rfl, run_takeDeferred hdef, ?_⟩⟩
      refine ⟨_, results_none rfl _ _ _, rfl, _, hv.keep (grownBy_putObj' _ D _) (fun r e' => by cases e'; exact ⟨by omega, _, hdef, rfl⟩) (by have := ho.size; omega), ?_, ?_⟩
      · exact (HO.out.gw ho HAT.out).trans (Only.of_grown (S := fun b => b = D) (grownBy_putObj' _ D _) (fun b e' => by cases e'; rfl)) (fun b hb e' => by omega)
      · rcases hr with hr | ⟨b, hb, hbb⟩
        · rw [hr]; exact HAT.out
        · exact .inr ⟨b, hb, by omega⟩
    case stop => intro D c pre post W _ _ h; exact h.elim

#print axioms grp_any

end Go.Proofs.YthaampinmelgaaaGreatDoor

/-! The library's slices.Sort at a row of whole numbers of the call's own. -/
namespace Go.Proofs.YthaampinmelgaaaGreatDoor
open Go.RowKit Go.Shelf Go.Sort


theorem sortN_cast (l : List Nat) : (l.map fun x : Nat => (x : Int)).mergeSort (fun x y => decide (x ≤ y)) = (sortN l).map fun x : Nat => (x : Int) := by
  unfold sortN
  rw [List.map_mergeSort (s := fun x y : Int => decide (x ≤ y))]
  intro a _ b _
  simp

theorem sort_own (w : World) (base : Nat) (v : Value) (l : List Nat) (h : w.ownsRow base 3 1 v l.length (l.map natV)) (hl : l.length ≤ 1000000) :
    Calls Tryz.prog 44 #[v] w fun en w' => en = .returned (.tuple #[]) ∧ w'.ownsRow base 3 1 v l.length ((sortN l).map natV) ∧ w.grownBy w' v.ownBlock := by
  rcases h.2 with ⟨rfl, h0⟩ | ⟨g, cap, cur, rfl, hb, hh, h1, h2, h3, h4⟩
  · have : l = [] := List.eq_nil_of_length_eq_zero h0
    subst this
    have hc := Any.slices_Sort_int_none Tryz.l189 none 0 w
    change Calls Tryz.prog 44 _ _ _ at hc
    refine hc.mono ?_
    rintro en w' ⟨rfl, rfl⟩
    exact ⟨rfl, by simpa [sortN] using h, ⟨rfl, rfl, rfl, Nat.le_refl _, fun _ _ _ => rfl⟩⟩
  · have e : l.map natV = (l.map fun x : Nat => (x : Int)).map (Value.int .i64) := by rw [List.map_map]; rfl
    have hH : Holds (Value.int .i64) w g 0 (l.map fun x : Nat => (x : Int)).toArray := holds_of_blockI hh (by rw [List.length_map, ← e, ← h4, Nat.mul_one])
    have hc := Any.slices_Sort_int Tryz.l189 g 0 cap (l.map fun x : Nat => (x : Int)) w hH (lt_of_block hh) (by rw [List.length_map]; omega)
    change Calls Tryz.prog 44 _ _ _ at hc
    rw [List.length_map] at hc
    refine hc.mono ?_
    rintro en w' ⟨rfl, n, os, rfl⟩
    rw [sortN_cast]
    refine ⟨rfl, ?_, grownBy_sortedI _⟩
    have := ownsRow_sortedI (n := n) (os := os) (ss := l.map fun x : Nat => (x : Int)) (ts := (sortN l).map fun x : Nat => (x : Int)) (by simp [sortN_length]) hb hh (by simpa using h1) h2 h3
    rw [List.length_map, List.map_map] at this
    exact this

#print axioms sort_own

end Go.Proofs.YthaampinmelgaaaGreatDoor

/-! The library's slices.Compare at whole numbers. -/
namespace Go.Proofs.YthaampinmelgaaaGreatDoor
open Go.RowKit Go.Shelf

def cmpInt (x y : Int) : Int := if x < y then -1 else if y < x then 1 else 0
theorem compareM_drop (xs ys : List Nat) : ∀ (k : Nat), k ≤ xs.length → k ≤ ys.length → xs.take k = ys.take k → compareM xs ys = compareM (xs.drop k) (ys.drop k) := by
  intro k
  induction k generalizing xs ys with
  | zero => intro _ _ _; rfl
  | succ k ih =>
    intro h1 h2 h3
    match xs, ys, h1, h2, h3 with
    | [], _, h1, _, _ => simp at h1
    | _ :: _, [], _, h2, _ => simp at h2
    | x :: xs, y :: ys, h1, h2, h3 =>
      simp only [List.take_succ_cons, List.cons.injEq] at h3
      obtain ⟨rfl, h3⟩ := h3
      simp only [compareM, Nat.lt_irrefl, if_false, List.drop_succ_cons]
      exact ih xs ys (by simpa using h1) (by simpa using h2) h3

set_option maxRecDepth 100000 in
set_option maxHeartbeats 1000000 in
theorem isNaN_any (w : World) (x : Int) : Calls Tryz.prog 89 #[.int .i64 x] w fun en w' => en = .returned (.bool false) ∧ w' = w := by
  go_enter Tryz.func89, Tryz.ntmps89
  go_wp2
  go_ret
  exact ⟨rfl, rfl⟩

set_option maxRecDepth 100000 in
set_option maxHeartbeats 1000000 in
theorem cmpCompare_any (w : World) (x y : Int) : Calls Tryz.prog 62 #[.int .i64 x, .int .i64 y] w fun en w' => en = .returned (.int .i64 (cmpInt x y)) ∧ w' = w := by
  unfold cmpInt
  by_cases h1 : x < y
  · rw [if_pos h1]
    go_enter Tryz.func62, Tryz.ntmps62
    go_wp2_with (go_at_call 89; refine (isNaN_any _ _).mono ?_; rintro en w1 ⟨rfl, hw⟩; rw [hw])
    go_ret
    exact ⟨rfl, rfl⟩
  · rw [if_neg h1]
    have h1' : decide (x < y) = false := by simpa using h1
    by_cases h2 : y < x
    · rw [if_pos h2]
      go_enter Tryz.func62, Tryz.ntmps62
      go_wp2_with (go_at_call 89; refine (isNaN_any _ _).mono ?_; rintro en w1 ⟨rfl, hw⟩; rw [hw])
      go_ret
      exact ⟨rfl, rfl⟩
    · rw [if_neg h2]
      have h2' : decide (y < x) = false := by simpa using h2
      go_enter Tryz.func62, Tryz.ntmps62
      go_wp2_with (go_at_call 89; refine (isNaN_any _ _).mono ?_; rintro en w1 ⟨rfl, hw⟩; rw [hw])
      go_ret
      exact ⟨rfl, rfl⟩

set_option maxRecDepth 100000 in
set_option maxHeartbeats 1000000 in
theorem compare_any (B : Nat) (w : World) (v1 v2 : Value) (xs ys : List Nat) (h1 : Nats B w v1 xs) (h2 : Nats B w v2 ys) :
    Calls Tryz.prog 46 #[v1, v2] w fun en w' => en = .returned (.int .i64 (compareM xs ys)) ∧ w' = w := by
  obtain ⟨A1, c1, rfl, -, -, hm1, -⟩ := h1.shape
  obtain ⟨A2, c2, rfl, -, -, hm2, -⟩ := h2.shape
  go_enter Tryz.func46, Tryz.ntmps46
  go_wp2
  go_loopw [11] (fun y wr => ∃ m : Nat, m ≤ xs.length ∧ m ≤ ys.length ∧ y = .int .i64 m ∧ xs.take m = ys.take m ∧ w = wr) (fun y _ => xs.length - (intOf y).toNat)
  case atStart => exact ⟨0, Nat.zero_le _, Nat.zero_le _, rfl, rfl, rfl⟩
  case round =>
    obtain ⟨m, hx, hy, rfl, ht, rfl⟩ := hrel
    have hcm := compareM_drop xs ys m hx hy ht
    by_cases hlx : m < xs.length
    · obtain ⟨ad1, rfl, -, hc1⟩ := Nats.at h1 hlx
      have g1 : xs.getD m 0 = xs[m] := by rw [List.getD_eq_getElem?_getD, List.getElem?_eq_getElem hlx]; rfl
      rw [g1] at hc1
      have hlx1 : (m : Int) < (xs.length : Int) := by omega
      by_cases hly : m < ys.length
      · obtain ⟨ad2, rfl, -, hc2⟩ := Nats.at h2 hly
        have g2 : ys.getD m 0 = ys[m] := by rw [List.getD_eq_getElem?_getD, List.getElem?_eq_getElem hly]; rfl
        rw [g2] at hc2
        have hly1 : (m : Int) < (ys.length : Int) := by omega
        have htk : xs.take (m + 1) = xs.take m ++ [xs[m]] := List.take_succ_eq_append_getElem hlx
        have htl : ys.take (m + 1) = ys.take m ++ [ys[m]] := List.take_succ_eq_append_getElem hly
        rw [List.drop_eq_getElem_cons hlx, List.drop_eq_getElem_cons hly] at hcm
        simp only [compareM] at hcm
        revert hc1 hc2 htk htl hcm
        clear g1 g2
        generalize xs[m] = x
        generalize ys[m] = y
        intros
        rename compareM xs ys = _ => hcm
        rename xs.take (m + 1) = _ => htk
        rename ys.take (m + 1) = _ => htl
        have HTK := Lib.hid htk
        have HTL := Lib.hid htl
        have HT := Lib.hid ht
        clear htk htl ht
        by_cases hlt : x < y
        · rw [if_pos hlt] at hcm
          have HCM := Lib.hid hcm
          clear hcm
          have hcv : cmpInt x y = -1 := by unfold cmpInt; rw [if_pos (by omega)]
          have hcc := cmpCompare_any w x y
          rw [hcv] at hcc
          have HC := Lib.hid hcc
          clear hcc hcv hlt
          go_wp2_with (go_at_call 62; refine HC.out.mono ?_; rintro en w1 ⟨rfl, hw⟩; rw [hw])
          go_ret
          exact ⟨by rw [HCM.out]; rfl, rfl⟩
        · rw [if_neg hlt] at hcm
          by_cases hgt : y < x
          · rw [if_pos hgt] at hcm
            have HCM := Lib.hid hcm
            clear hcm
            have hcv : cmpInt x y = 1 := by unfold cmpInt; rw [if_neg (by omega), if_pos (by omega)]
            have hcc := cmpCompare_any w x y
            rw [hcv] at hcc
            have HC := Lib.hid hcc
            clear hcc hcv hlt hgt
            go_wp2_with (go_at_call 62; refine HC.out.mono ?_; rintro en w1 ⟨rfl, hw⟩; rw [hw])
            go_ret
            exact ⟨by rw [HCM.out]; rfl, rfl⟩
          · clear hcm
            obtain rfl : x = y := by omega
            have hcv : cmpInt x x = 0 := by unfold cmpInt; rw [if_neg (by omega), if_neg (by omega)]
            have hcc := cmpCompare_any w x x
            rw [hcv] at hcc
            have HC := Lib.hid hcc
            clear hcc hcv hlt hgt
            go_wp2_with (go_at_call 62; refine HC.out.mono ?_; rintro en w1 ⟨rfl, hw⟩; rw [hw])
            go_roundw
            case rel => exact ⟨m + 1, by omega, by omega, by go_num, by rw [HTK.out, HTL.out, HT.out], trivial⟩
            case measure => simp [intOf]; omega
      · have hgey : ¬ ((m : Int) < (ys.length : Int)) := by omega
        obtain rfl : ys.length = m := by omega
        rw [List.drop_length, List.drop_eq_getElem_cons hlx] at hcm
        simp only [compareM] at hcm
        have HCM := Lib.hid hcm
        clear hcm ht g1
        go_wp2
        go_ret
        exact ⟨by rw [HCM.out]; rfl, rfl⟩
    · have hgex : ¬ ((m : Int) < (xs.length : Int)) := by omega
      obtain rfl : xs.length = m := by omega
      by_cases hly : xs.length < ys.length
      · rw [List.drop_length, List.drop_eq_getElem_cons hly] at hcm
        simp only [compareM] at hcm
        have HCM := Lib.hid hcm
        have hly1 : (xs.length : Int) < (ys.length : Int) := by omega
        clear hcm ht
        go_wp2
        go_ret
        exact ⟨by rw [HCM.out]; rfl, rfl⟩
      · have hle : ys.length = xs.length := by omega
        have hd : ys.drop xs.length = [] := by rw [← hle]; exact List.drop_length
        rw [List.drop_length, hd] at hcm
        simp only [compareM] at hcm
        have HCM := Lib.hid hcm
        have hly1 : ¬ (xs.length : Int) < (ys.length : Int) := by omega
        clear hcm ht hle hd
        go_wp2
        go_ret
        exact ⟨by rw [HCM.out]; rfl, rfl⟩

#print axioms compare_any

end Go.Proofs.YthaampinmelgaaaGreatDoor

/-! The library's slices.SortFunc at a row of rows of the call's own, compared as lists. -/
namespace Go.Proofs.YthaampinmelgaaaGreatDoor
open Go.RowKit Go.Shelf Go.Sort


theorem swoG {m : Nat} (f : Fin m → List Nat) : SWO (ltOf fun i j => compareM (f i) (f j)) where
  irrefl x := by unfold ltOf; simp [compareM_lt_irrefl]
  trans x y z h1 h2 := by unfold ltOf at *; simp at *; exact compareM_trans _ _ _ h1 h2
  ntrans x y z h1 h2 := by
    unfold ltOf at *
    simp only [decide_eq_false_iff_not] at *
    intro h3
    by_cases h4 : compareM (f y) (f x) < 0
    · exact h2 (compareM_trans _ _ _ h4 h3)
    · have := compareM_eq _ _ h1 h4
      rw [this] at h3
      exact h2 h3

section
variable {α : Type} [Inhabited α]
theorem heap_sortedG {w : World} {g n : Nat} {os : Array Obj} {cur : Array Value} {e : TypeId} {fr : Nat × Nat} (enc : α → Value) (d : Array α) (hb : w.heap[g]? = some (.cells cur e fr)) :
    (sortWorld enc w g 0 n d os).heap[g]? = some (.cells (putCells enc 0 d cur) e fr) := by
  have hg : g < w.heap.size := (Array.getElem?_eq_some_iff.1 hb).1
  unfold sortWorld
  rw [heap_grow_old _ _ (by simpa using hg)]
  simp [putRow, mapBlock, Sort.ahead, Array.getElem?_modify, hb, onCells]
theorem grownBy_sortedG {w : World} {g n : Nat} {os : Array Obj} (enc : α → Value) (d : Array α) : w.grownBy (sortWorld enc w g 0 n d os) (some g) := by
  refine ⟨rfl, rfl, rfl, by simp [sortWorld], fun k hk hne => ?_⟩
  unfold sortWorld
  rw [heap_grow_old _ _ (by simpa using hk)]
  have : g ≠ k := fun e => hne (by rw [e])
  simp [putRow, mapBlock, Sort.ahead, Array.getElem?_modify, this]
theorem take_putCellsG (enc : α → Value) (cur : Array Value) (ts : List α) (h : ts.length ≤ cur.size) : (putCells enc 0 ts.toArray cur).toList.take ts.length = ts.map enc := by
  apply List.ext_getElem?
  intro j
  by_cases hj : j < ts.length
  · rw [List.getElem?_take_of_lt hj, Array.getElem?_toList]
    simp [putCells, hj, show j < cur.size by omega]
  · rw [List.getElem?_take_eq_none (by omega), List.getElem?_eq_none (by simp; omega)]
end

theorem toArray_get! {α : Type} [Inhabited α] (l : List α) (j : Nat) (h : j < l.length) : l.toArray[j]! = l[j] := by
  rw [getElem!_pos _ j (by simpa using h)]; simp

theorem nats_fam {w : World} {base : Nat} {R : List Value} {L : List (List Nat)} (h : Fam 3 w base R L) {i : Nat} {v : Value} {l : List Nat} (hv : R[i]? = some v) (hl : L[i]? = some l) : Nats w.heap.size w v l :=
  Sl.of_own natV (fun _ _ => rfl) (h.own i v l hv hl)

theorem sortG_own (w : World) (base base' : Nat) (v : Value) (gs : List (List Nat)) (pvs : List Value) (hown : w.ownsRow base 31 1 v gs.length pvs) (hfam : Fam 3 w base' pvs gs) (hnd : gs.Nodup) (hpos : 0 < gs.length) (hlen : gs.length ≤ 100000) :
    Calls Tryz.prog 45 #[v, .func (.func 46) #[] #[]] w fun en w' => en = .returned (.tuple #[]) ∧ ∃ pvs', w'.ownsRow base 31 1 v gs.length pvs' ∧ Fam 3 w' base' pvs' (sortG gs) ∧ w.grownBy w' v.ownBlock := by
  have hown0 := hown
  rcases hown.2 with ⟨rfl, h0⟩ | ⟨g, cap, cur, rfl, hb, hh, h1, h2, h3, h4⟩
  · omega
  have hpl : pvs.length = gs.length := hfam.len
  haveI : Inhabited (Fin gs.length) := ⟨⟨0, hpos⟩⟩
  obtain ⟨enc, henc⟩ : ∃ enc : Fin gs.length → Value, enc = fun i => pvs[i.val]'(by rw [hpl]; exact i.isLt) := ⟨_, rfl⟩
  obtain ⟨f, hf⟩ : ∃ f : Fin gs.length → List Nat, f = fun i => gs[i.val] := ⟨_, rfl⟩
  have hencI : ∀ i : Fin gs.length, pvs[i.val]? = some (enc i) := fun i => by rw [henc]; exact List.getElem?_eq_getElem _
  have hfI : ∀ i : Fin gs.length, gs[i.val]? = some (f i) := fun i => by rw [hf]; exact List.getElem?_eq_getElem _
  have hfr : (List.finRange gs.length).map f = gs := by
    apply List.ext_getElem?
    intro i
    by_cases hi : i < gs.length
    · rw [List.getElem?_map, List.getElem?_eq_getElem (by simpa using hi)]
      simp [hf, hi]
    · rw [List.getElem?_eq_none (by simp; omega), List.getElem?_eq_none (by omega)]
  have hpr : (List.finRange gs.length).map enc = pvs := by
    apply List.ext_getElem?
    intro i
    by_cases hi : i < gs.length
    · rw [List.getElem?_map, List.getElem?_eq_getElem (by simpa using hi)]
      simp [henc, hi, hpl]
    · rw [List.getElem?_eq_none (by simp; omega), List.getElem?_eq_none (by omega)]
  have h1c : OneCell enc := fun i => by
    obtain ⟨A, c, hs⟩ := own_slice (hfam.own _ _ _ (hencI i) (hfI i))
    rw [hs]; rfl
  have hH : Holds enc w g 0 (List.finRange gs.length).toArray := by
    intro j hj
    have hj' : j < gs.length := by simpa using hj
    rw [Nat.zero_add, toArray_get! _ _ (by simpa using hj')]
    refine ⟨?_, by simp [World.frozen?, hh]⟩
    have := hown0.cells (g := g) rfl j (enc ((List.finRange gs.length)[j]'(by simpa using hj'))) (by have := hencI ⟨j, hj'⟩; simpa using this)
    rwa [add_none] at this
  have hcmp : CmpLays1 Tryz.prog 46 #[] enc (fun i j => compareM (f i) (f j)) g 0 (List.finRange gs.length).toArray.size w := by
    refine CmpReads.lays (fun m os dk hdk x y => ?_)
    have hgr : w.grownBy (sortWorld enc w g 0 m dk os) (some g) := grownBy_sortedG enc dk
    have hF : Fam 3 (sortWorld enc w g 0 m dk os) base' pvs gs := hfam.grown hgr (fun b hbb u hu hub => by
      cases hbb
      obtain ⟨i, hi⟩ := List.mem_iff_getElem?.1 hu
      obtain ⟨l, _, ho⟩ := hfam.get hi
      rcases own_types ho hown0 (by decide) with h | h
      · rw [h] at hub; cases hub
      · exact h hub)
    refine (compare_any _ (sortWorld enc w g 0 m dk os) (enc x) (enc y) (f x) (f y) (nats_fam hF (hencI x) (hfI x)) (nats_fam hF (hencI y) (hfI y))).mono ?_
    rintro en w' ⟨rfl, rfl⟩
    exact ⟨rfl, 0, rfl⟩
  have eg : ∀ args w, (callFunc 46 args).run Tryz.prog w = .ok (.enter 46 args) w := enters_of Tryz.func46 (by kernel_rfl) rfl
  have hT : ∀ x y, (ltOf fun i j => compareM (f i) (f j)) x y = false → (ltOf fun i j => compareM (f i) (f j)) y x = false → x = y := fun x y hx hy => by
    unfold ltOf at hx hy
    have := compareM_eq (f x) (f y) (by simpa using hx) (by simpa using hy)
    rw [hf] at this
    exact Fin.ext ((List.getElem_inj hnd).1 this)
  have hc := Any.slices_SortFunc_total Tryz.lsf enc h1c (fun i j => compareM (f i) (f j)) (swoG f) 46 #[] g 0 cap (List.finRange gs.length).toArray w eg hcmp hH (lt_of_block hh) (by simp; omega) hT
  change Calls Tryz.prog 45 _ _ _ at hc
  rw [show (List.finRange gs.length).toArray.size = gs.length by simp] at hc
  refine hc.mono ?_
  rintro en w' ⟨rfl, q, os, rfl⟩
  obtain ⟨ts, hts⟩ : ∃ ts, ts = ((List.finRange gs.length).toArray.toList.mergeSort fun x y => !(ltOf fun i j => compareM (f i) (f j)) y x) := ⟨_, rfl⟩
  rw [← hts]
  have hperm : ts.Perm (List.finRange gs.length) := by rw [hts]; exact List.mergeSort_perm _ _
  have htl : ts.length = gs.length := by rw [hperm.length_eq]; simp
  have hnt : ts.Nodup := hperm.nodup_iff.2 (List.nodup_finRange _)
  have hsg : ts.map f = sortG gs := by
    rw [hts]
    unfold sortG
    rw [List.map_mergeSort (s := fun a b => !decide (compareM b a < 0)), hfr]
    intro a _ b _
    rfl
  have hgr : w.grownBy (sortWorld enc w g 0 q ts.toArray os) (some g) := grownBy_sortedG enc _
  have hF : Fam 3 (sortWorld enc w g 0 q ts.toArray os) base' pvs gs := hfam.grown hgr (fun b hbb u hu hub => by
      cases hbb
      obtain ⟨i, hi⟩ := List.mem_iff_getElem?.1 hu
      obtain ⟨l, _, ho⟩ := hfam.get hi
      rcases own_types ho hown0 (by decide) with h | h
      · rw [h] at hub; cases hub
      · exact h hub)
  refine ⟨rfl, ts.map enc, ⟨by simp [htl], .inr ⟨g, cap, _, rfl, hb, heap_sortedG _ _ hh, h1, h2, by simp [putCells, h3], ?_⟩⟩, ?_, hgr⟩
  · have h := take_putCellsG enc cur ts (by omega)
    rw [Nat.mul_one]
    exact (congrArg (fun q => List.take q (putCells enc 0 ts.toArray cur).toList) htl.symm).trans h
  · rw [← hsg]
    refine ⟨by simp, fun i u l hu hl => ?_, fun i j u x hu hx hne => ?_⟩
    · rw [List.getElem?_map] at hu hl
      obtain ⟨a, ha, rfl⟩ := Option.map_eq_some_iff.1 hu
      rw [ha] at hl
      obtain rfl : f a = l := by simpa using hl
      exact hF.own _ _ _ (hencI a) (hfI a)
    · rw [List.getElem?_map] at hu hx
      obtain ⟨a, ha, rfl⟩ := Option.map_eq_some_iff.1 hu
      obtain ⟨c, hc', rfl⟩ := Option.map_eq_some_iff.1 hx
      refine hF.apart a.val c.val _ _ (hencI a) (hencI c) (fun hac => hne ?_)
      obtain rfl : a = c := Fin.ext hac
      obtain ⟨hi1, hi2⟩ := List.getElem?_eq_some_iff.1 ha
      obtain ⟨hj1, hj2⟩ := List.getElem?_eq_some_iff.1 hc'
      exact (List.getElem_inj hnt).1 (hi2.trans hj2.symm)

#print axioms sortG_own

end Go.Proofs.YthaampinmelgaaaGreatDoor

/-! Package graph: groups. -/
namespace Go.Proofs.YthaampinmelgaaaGreatDoor
open Go.RowKit Go.Shelf

/-- The row 0, 1, 2 .. while it is filled. -/
def fillV (n m : Nat) : List Value := ((List.range n).take m).map natV ++ List.replicate (n - m) (.int .i64 0)
theorem fillV_zero (n : Nat) : fillV n 0 = List.replicate n (.int .i64 0) := rfl
theorem fillV_full (n : Nat) : fillV n n = (List.range n).map natV := by
  unfold fillV
  rw [List.take_of_length_le (by simp), Nat.sub_self, List.replicate_zero, List.append_nil]
theorem fillV_get (n m : Nat) (h : m < n) : (fillV n m)[m]? = some (.int .i64 0) := by
  unfold fillV
  have hl : (((List.range n).take m).map natV).length = m := by simp; omega
  rw [List.getElem?_append_right (by omega), hl, Nat.sub_self, List.getElem?_replicate, if_pos (by omega)]
theorem fillV_set (n m : Nat) (h : m < n) : (fillV n m).set m (.int .i64 (m : Int)) = fillV n (m + 1) := by
  unfold fillV
  have hl : (((List.range n).take m).map natV).length = m := by simp; omega
  rw [List.set_append, if_neg (by omega), hl, Nat.sub_self, List.take_succ_eq_append_getElem (by simpa using h), List.map_append, List.append_assoc]
  congr 1
  obtain ⟨q, hq⟩ : ∃ q, n - m = q + 1 := ⟨n - m - 1, by omega⟩
  rw [hq, List.replicate_succ, List.set_cons_zero, show n - (m + 1) = q by omega]
  simp [natV]

/-- The groups that have been found, and what has been taken. -/
structure QS (w4 W : World) (base sb n xv tk tv : Nat) (s' : Shp) (tkl : List Bool) (gs : List (List Nat)) (vl : Value) (pvs : List Value) : Prop where
  x : Blk W xv 67 [.pointer (some ⟨sb, 0, none⟩)]
  tv : Blk W tv 93 [.slice (some ⟨tk, 0, none⟩) n n]
  tk : Blk W tk 4 (tkl.map Value.bool)
  len : tkl.length = n
  sh : IsShape w4.heap.size W sb s'
  own : W.ownsRow base 31 1 vl gs.length pvs
  fam : Fam 3 W base pvs gs
  bel : Below w4.heap.size w4 W
  hb : base ≤ W.heap.size

theorem own_only {w w' : World} {S : Nat → Prop} {e : TypeId} {base n m : Nat} {v : Value} {xs : List Value} (h : w.ownsRow base e m v n xs) (ho : Only S w w') (hS : ∀ b, v.ownBlock = some b → ¬ S b) : w'.ownsRow base e m v n xs := by
  refine ⟨h.1, h.2.imp id ?_⟩
  rintro ⟨g, cap, cur, rfl, h1, hh, h2⟩
  exact ⟨g, cap, cur, rfl, h1, (ho.block g (lt_of_block hh) (hS g rfl)).trans hh, h2⟩
theorem Fam.onlyOf {e : TypeId} {w w' : World} {S : Nat → Prop} {base : Nat} {R : List Value} {L : List (List Nat)} (h : Fam e w base R L) (ho : Only S w w') (hS : ∀ v ∈ R, ∀ b, v.ownBlock = some b → ¬ S b) : Fam e w' base R L :=
  ⟨h.len, fun i v l hv hl => own_only (h.own i v l hv hl) ho (hS v (List.mem_of_getElem? hv)), h.apart⟩
theorem natss_of {w : World} {base base' : Nat} {v : Value} {gs : List (List Nat)} {pvs : List Value} (h : w.ownsRow base 31 1 v gs.length pvs) (hf : Fam 3 w base' pvs gs) : Natss w.heap.size w v gs := by
  have h0 := h
  rcases h.2 with ⟨rfl, hn⟩ | ⟨g, cap, cur, rfl, _, hh, h1, h2, h3, h4⟩
  · have : gs = [] := List.eq_nil_of_length_eq_zero hn
    subst this
    exact Sl.nil _ _ _
  · refine ⟨_, cap, rfl, h1, h2, fun j x hx => ?_⟩
    have hj : j < pvs.length := by rw [hf.len]; exact (List.getElem?_eq_some_iff.1 hx).1
    exact ⟨_, pvs[j], rfl, lt_of_block hh, h0.cells (g := g) rfl j _ (List.getElem?_eq_getElem hj), nats_fam hf (List.getElem?_eq_getElem hj) hx⟩

theorem fam_single {e : TypeId} {w : World} {base : Nat} {v : Value} {l : List Nat} (h : w.ownsRow base e 1 v l.length (l.map natV)) : Fam e w base [v] [l] := by
  refine ⟨rfl, fun i u m hu hm => ?_, fun i j u x hu hx hne => ?_⟩
  · cases i with
    | zero => cases hu; cases hm; exact h
    | succ i => cases hu
  · cases i with
    | zero =>
      cases j with
      | zero => exact absurd rfl hne
      | succ j => cases hx
    | succ i => cases hu

theorem QS.drewN {w4 W : World} {base sb n xv tk tv : Nat} {s' : Shp} {tkl : List Bool} {gs : List (List Nat)} {vl : Value} {pvs : List Value} (h : QS w4 W base sb n xv tk tv s' tkl gs vl pvs) (q : Nat) : QS w4 (W.drewN q) base sb n xv tk tv s' tkl gs vl pvs :=
  ⟨h.x, h.tv, h.tk, h.len, h.sh.below ⟨rfl, rfl, rfl, Nat.le_refl _, fun _ _ => rfl⟩, h.own, h.fam.drewN q, below_drewN' h.bel q, h.hb⟩

set_option maxRecDepth 100000 in
set_option maxHeartbeats 4000000 in
theorem groups_any (B : Nat) (w : World) (sa n : Nat) (exit : Int) (E : List (Nat × Nat)) (hs : IsShape B w sa (shapeOf n E)) (hB : B ≤ w.heap.size) (hg : GOk n exit E) (k : Nat) (t : List Bool × List Nat) (r : List Bool × List (List Nat))
    (hd : foldO (dfsV (shapeOf n E).next (-1) k) (List.range n) (List.replicate n false, []) = some t) (hlen : t.2.length ≤ 100000) (hord : ∀ x ∈ t.2, x < n)
    (hgl : ∀ (sn : List Bool) (p : Nat) (u : List Bool × List Nat), sn.length = n → grpV ((shapeOf n E).rev 0).next k (sn, []) p = some u → u.2.length ≤ 1000000) (hr : grpsF ((shapeOf n E).rev 0).next k n t.2 = some r) (hrn : r.2.Nodup) (hr0 : 0 < r.2.length) :
    Calls Tryz.prog 25 #[.pointer (some ⟨sa, 0, none⟩)] w fun en w' => ∃ v, en = .returned v ∧ Natss w'.heap.size w' v (sortG r.2) ∧ Below w.heap.size w w' := by
  obtain ⟨hsa, vf, vt, vo, vi, hblk, -, -, -, -⟩ := id hs
  have hn512 := hg.n512
  have hn1 := hg.n1
  have c0 : w.cell? ⟨sa, 0, none⟩ = some (.int .i64 (n : Int)) := hblk.cellAt (i := 0) rfl
  have hmk := make_one (P := Tryz.prog) 31 3 (.int .i64 0) 8 Tryz.underlying31 info_int rfl n (by omega) (by omega)
  have hmb := make_one (P := Tryz.prog) 93 4 (.bool false) 1 Tryz.underlying93 info_bool rfl n (by omega) (by omega)
  have hmf : ∀ (fn : Fn) (first cap : Array Value) (w : World), (Instr.makeFunc fn first cap).run Tryz.prog w = .ok (.func fn first cap) w := fun _ _ _ _ => rfl
  have hall0 : Blk (w.alloc (.cells (Array.replicate n (.int .i64 0)) 3)) w.heap.size 3 (fillV n 0) := by
    have h := Blk.newAt w 3 (Array.replicate n (.int .i64 0)) rfl
    rw [Array.toList_replicate] at h
    exact h
  have hb0 := (Below.refl w.heap.size w).alloc (Nat.le_refl _) (.cells (Array.replicate n (.int .i64 0)) 3)
  have HD := Lib.hid hd
  have HG := Lib.hid hg
  have HR := Lib.hid hr
  have HGL := Lib.hid hgl
  clear hd hg hr hgl
  go_enter Tryz.func25, Tryz.ntmps25
  go_wp2
  go_loopw [20] (fun y wr => ∃ m : Nat, m ≤ n ∧ y = .int .i64 m ∧ Blk wr w.heap.size 3 (fillV n m) ∧ Below w.heap.size w wr) (fun y _ => n - (intOf y).toNat)
  case atStart => exact ⟨0, Nat.zero_le _, rfl, hall0, hb0⟩
  case round =>
    obtain ⟨m, hm, rfl, hall, hb1⟩ := hrel
    clear hall0 hb0
    by_cases hlt : m < n
    · have hlt1 : (m : Int) < (n : Int) := by omega
      have hsome := fillV_get n m hlt
      have cm := hall.cellAt hsome
      have fm := hall.frozen m
      have hst := hall.set m (.int .i64 (m : Int))
      have hb2 := hb1.setCell (p := ⟨w.heap.size, m, none⟩) (Nat.le_refl _) (.int .i64 (m : Int))
      have hnext := fillV_set n m hlt
      rw [hnext] at hst
      have HST := Lib.hid hst
      clear hnext hst hsome
      go_wp2
      go_roundw
      case rel => exact ⟨m + 1, by omega, by go_num, HST.out, hb2⟩
      case measure => simp [intOf]; omega
    · have hge : ¬ ((m : Int) < (n : Int)) := by omega
      obtain rfl : n = m := by omega
      rw [fillV_full] at hall
      have hbw1 := hb1
      have hs1 := (hs.below (hb1.mono hB)).more (Nat.le_trans hB hb1.size)
      have hallN : Nats wr.heap.size wr (.slice (some ⟨w.heap.size, 0, none⟩) n n) (List.range n) := by
        have h := Sl.of_blk (R := RNat) (xs := List.range n) (c := n) natV (fun _ _ => rfl) hall (by simp) (by unfold maxLen; omega) hall.lt
        rwa [List.length_range] at h
      have hreach := reach_any wr.heap.size wr sa (shapeOf n E) (-1) _ (List.range n) k t hs1 (Nat.le_refl _) HG.out.shapeOk hallN (by intro x hx; simpa [shapeOf] using hx) HD.out (by omega)
      have HRE := Lib.hid hreach
      clear hreach c0 hmk hall hallN
      go_upto_region 8 with (go_at_call 41; refine HRE.out.mono ?_; rintro en w2 ⟨vr, vo2, rfl, hvr, hvo, hb2⟩)
      have hb3 := hb1.trans (hb2.mono hb1.size)
      have hs2 := (hs1.below hb2).more hb2.size
      have d1 : w2.cell? ⟨sa, 1, none⟩ = some (.int .i64 0) := (hblk.below hb3 (by omega)).cellAt rfl
      have hrev := reversed_any w2.heap.size w2 sa (shapeOf n E) 0 hs2 (Nat.le_refl _)
      have HREV := Lib.hid hrev
      obtain ⟨Ao, co, rfl, -, -, hmo, -⟩ := hvo.shape
      clear hrev hvr
      go_upto_region 9 with (go_at_call 42; refine HREV.out.mono ?_; rintro en w4 ⟨sb, rfl, hsh4, hb4⟩)
      have hb5 := hb3.trans (hb4.mono hb3.size)
      have hvo4 := (Nats.below hvo hb4).more hb4.size
      have e0 : ∀ o, (w4.alloc o).cell? ⟨sa, 0, none⟩ = some (.int .i64 (n : Int)) := fun o => ((hblk.below hb5 (by omega)).alloc o).cellAt rfl
      clear hvo d1
      go_upto_region 12 with fail
      go_wp2
      have hq0 : QS w4 (((w4.alloc (.cells #[.pointer (some ⟨sb, 0, none⟩)] 67)).alloc (.cells (Array.replicate n (.bool false)) 4)).alloc (.cells #[.slice (some ⟨w4.heap.size + 1, 0, none⟩) n n] 93))
          (((w4.alloc (.cells #[.pointer (some ⟨sb, 0, none⟩)] 67)).alloc (.cells (Array.replicate n (.bool false)) 4)).alloc (.cells #[.slice (some ⟨w4.heap.size + 1, 0, none⟩) n n] 93)).heap.size
          sb n w4.heap.size (w4.heap.size + 1) (w4.heap.size + 1 + 1) ((shapeOf n E).rev 0) (List.replicate n false) [] (.slice none 0 0) [] := by
        have hbz := (((Below.refl w4.heap.size w4).alloc (Nat.le_refl _) (.cells #[.pointer (some ⟨sb, 0, none⟩)] 67)).alloc (by simp) (.cells (Array.replicate n (.bool false)) 4)).alloc (by simp; omega) (.cells #[.slice (some ⟨w4.heap.size + 1, 0, none⟩) n n] 93)
        refine ⟨((Blk.newAt w4 67 #[.pointer (some ⟨sb, 0, none⟩)] rfl).alloc _).alloc _, Blk.newAt _ 93 #[.slice (some ⟨w4.heap.size + 1, 0, none⟩) n n] (by simp), ?_, by simp, hsh4.below hbz, World.ownsRow_nil _ _ _ _,
          ⟨rfl, fun i v l hv => by simp at hv, fun i j u v hu => by simp at hu⟩, hbz, Nat.le_refl _⟩
        have h := Blk.newAt (N := w4.heap.size + 1) (w4.alloc (.cells #[.pointer (some ⟨sb, 0, none⟩)] 67)) 4 (Array.replicate n (.bool false)) (by simp)
        rw [Array.toList_replicate] at h
        rw [List.map_replicate]
        exact h.alloc _
      have hvo5 : Nats w4.heap.size (((w4.alloc (.cells #[.pointer (some ⟨sb, 0, none⟩)] 67)).alloc (.cells (Array.replicate n (.bool false)) 4)).alloc (.cells #[.slice (some ⟨w4.heap.size + 1, 0, none⟩) n n] 93)) (.slice Ao t.2.length co) t.2 := Nats.below hvo4 hq0.bel
      have hsz5 : (((w4.alloc (.cells #[.pointer (some ⟨sb, 0, none⟩)] 67)).alloc (.cells (Array.replicate n (.bool false)) 4)).alloc (.cells #[.slice (some ⟨w4.heap.size + 1, 0, none⟩) n n] 93)).heap.size = w4.heap.size + 1 + 1 + 1 := by simp
      revert hq0 hvo5 hsz5
      generalize ((w4.alloc (.cells #[.pointer (some ⟨sb, 0, none⟩)] 67)).alloc (.cells (Array.replicate n (.bool false)) 4)).alloc (.cells #[.slice (some ⟨w4.heap.size + 1, 0, none⟩) n n] 93) = w5
      intro hq0 hvo5 hsz5
      have HS5 := Lib.hid hsz5
      clear hsz5 e0
      unfold grpsF at HR
      go_loopw [9, 10] (fun x y wr => ∃ (m : Nat) (tkl : List Bool) (gs : List (List Nat)) (vl : Value) (pvs : List Value), m ≤ t.2.length ∧ vl = x ∧ y = .int .i64 ((t.2.length : Int) - 1 - m) ∧ gs.length ≤ m ∧ foldO (grpStep ((shapeOf n E).rev 0).next k) (t.2.reverse.take m) (List.replicate n false, []) = some (tkl, gs) ∧
          QS w4 wr w5.heap.size sb n w4.heap.size (w4.heap.size + 1) (w4.heap.size + 1 + 1) ((shapeOf n E).rev 0) tkl gs vl pvs) (fun _ y _ => (intOf y + 1).toNat)
      case atStart => exact ⟨0, _, [], _, [], Nat.zero_le _, rfl, by simp, Nat.le_refl _, rfl, hq0⟩
      case round =>
        obtain ⟨m, tkl, gs, vl, pvs, hm', rfl, rfl, hgm, hf, hq⟩ := hrel
        clear hq0
        by_cases hlt' : m < t.2.length
        · have hml : m < t.2.reverse.length := by simpa using hlt'
          obtain ⟨st2, hst2, hnext⟩ := foldO_at _ _ m hml _ _ _ HR.out hf
          obtain ⟨idx, hidx⟩ : ∃ idx, idx = t.2.length - 1 - m := ⟨_, rfl⟩
          have hii : (t.2.length : Int) - 1 - m = (idx : Int) := by omega
          rw [hii]
          have hil : idx < t.2.length := by omega
          have hget : t.2.reverse[m] = t.2[idx] := by rw [List.getElem_reverse]; congr 1; omega
          rw [hget] at hst2
          obtain ⟨ad, rfl, hab, hac⟩ := Nats.at hvo4 hil
          have hgd : t.2.getD idx 0 = t.2[idx] := by rw [List.getD_eq_getElem?_getD, List.getElem?_eq_getElem hil]; rfl
          rw [hgd] at hac
          have hpn := hord _ (List.getElem_mem hil)
          clear hget hgd
          revert hac hpn hst2
          generalize t.2[idx] = p
          intro hst2 hac hpn
          have HII := Lib.hid hii
          have hidx1 : (idx : Int) < (t.2.length : Int) := by omega
          have hac' := (hq.bel.cell (p := ad.add idx) (by rw [block_add]; exact hab)).trans hac
          have ctv := hq.tv.cellAt (i := 0) rfl
          have hpn1 : (p : Int) < (n : Int) := by omega
          have ctk : wr.cell? ⟨w4.heap.size + 1, p, none⟩ = some (.bool (tkl.getD p false)) := hq.tk.cellAt (by rw [List.getElem?_map, List.getD_eq_getElem?_getD, List.getElem?_eq_getElem (by rw [hq.len]; exact hpn)]; rfl)
          unfold grpStep at hst2
          have HST := Lib.hid hst2
          have HNX := Lib.hid hnext
          clear hst2 hnext hf hac hii hidx hvo5
          have hEnd : ∀ (wz : World) (vz : Value) (pz : List Value), st2.2.length ≤ m + 1 → QS w4 wz w5.heap.size sb n w4.heap.size (w4.heap.size + 1) (w4.heap.size + 1 + 1) ((shapeOf n E).rev 0) st2.1 st2.2 vz pz →
              (∃ (m_1 : Nat) (tkl : List Bool) (gs : List (List Nat)) (vl : Value) (pvs : List Value), m_1 ≤ t.2.length ∧ vl = vz ∧ Value.int .i64 ((idx : Int) - 1) = .int .i64 ((t.2.length : Int) - 1 - m_1) ∧ gs.length ≤ m_1 ∧ foldO (grpStep ((shapeOf n E).rev 0).next k) (t.2.reverse.take m_1) (List.replicate n false, []) = some (tkl, gs) ∧
                QS w4 wz w5.heap.size sb n w4.heap.size (w4.heap.size + 1) (w4.heap.size + 1 + 1) ((shapeOf n E).rev 0) tkl gs vl pvs) := by
            intro wz vz pz h1 h2
            exact ⟨m + 1, st2.1, st2.2, vz, pz, by omega, rfl, by rw [← HII.out]; congr 1; omega, h1, HNX.out, h2⟩
          have HEN := Lib.hid hEnd
          clear hEnd
          by_cases htk : tkl.getD p false = true
          · have hst := HST.out
            rw [if_pos htk] at hst
            obtain rfl : (tkl, gs) = st2 := Option.some.inj hst
            rw [htk] at ctk
            clear hst htk
            go_wp2
            go_quiet (fail)
            go_wp2
            case roundEnd =>
              refine ⟨HEN.out _ _ pvs (by show gs.length ≤ m + 1; omega) (hq.drewN nq), ?_⟩
              simp [intOf]
          · have hst := HST.out
            rw [if_neg htk] at hst
            obtain ⟨tg, htg, rfl⟩ := Option.map_eq_some_iff.1 hst
            have htk' : tkl.getD p false = false := by simpa using htk
            rw [htk'] at ctk
            have HTG := Lib.hid htg
            clear hst htk htk' htg
            go_wp2
            go_quiet (fail)
            have hq2 := hq.drewN nq
            have hac2 : (wr.drewN nq).cell? (ad.add idx) = some (.int .i64 (p : Int)) := hac'
            revert hq2 hac2
            generalize wr.drewN nq = wq
            intro hq2 hac2
            clear hq hac' ctv ctk
            go_upto_region 18 with fail
            obtain ⟨e, he⟩ : ∃ e : GEnv, e = { n₀ := w4.heap.size, sa := sb, s := (shapeOf n E).rev 0, sv := w4.heap.size + 1 + 1, ss := w4.heap.size, vv := wq.heap.size + 1, ov := wq.heap.size, sr := w4.heap.size + 1, base := wq.heap.size + 1 + 1 } := ⟨_, rfl⟩
            have hwq : w4.heap.size + 1 + 1 + 1 ≤ wq.heap.size := by have := hq2.hb; have := HS5.out; omega
            have hok : e.Ok := by
              have h1 := HG.out.shapeOkRev 0
              rw [he]
              exact ⟨⟨by simp only; omega, by simp only; omega⟩, ⟨by simp only; omega, by simp only; omega⟩, ⟨by simp only; omega, by simp only; omega⟩, ⟨by simp only; omega, by simp only; omega⟩, ⟨by simp only; omega, by simp only; omega⟩, h1.hn, h1.hto, h1.htn, h1.hsz⟩
            have hb9 : Below wq.heap.size wq ((wq.alloc (.cells #[.slice none 0 0] 31)).alloc (.cells #[.func (.func 43) #[] #[.pointer (some ⟨w4.heap.size + 1 + 1, 0, none⟩), .pointer (some ⟨wq.heap.size, 0, none⟩), .pointer (some ⟨w4.heap.size, 0, none⟩), .pointer (some ⟨wq.heap.size + 1, 0, none⟩)]] 105)) := ((Below.refl _ wq).alloc (Nat.le_refl _) _).alloc (by simp) _
            have hGS : GS e ((wq.alloc (.cells #[.slice none 0 0] 31)).alloc (.cells #[.func (.func 43) #[] #[.pointer (some ⟨w4.heap.size + 1 + 1, 0, none⟩), .pointer (some ⟨wq.heap.size, 0, none⟩), .pointer (some ⟨w4.heap.size, 0, none⟩), .pointer (some ⟨wq.heap.size + 1, 0, none⟩)]] 105)) tkl [] (.slice none 0 0) := by
              rw [he]
              refine ⟨(hq2.sh.below (hb9.mono (by omega))), hq2.tv.below hb9 hq2.tv.lt, hq2.tk.below hb9 hq2.tk.lt, hq2.len, hq2.x.below hb9 hq2.x.lt, Blk.newAt _ _ _ (by simp), (Blk.newAt wq 31 #[.slice none 0 0] rfl).alloc _, World.ownsRow_nil _ _ _ _⟩
            have hbase9 : e.base ≤ (((wq.alloc (.cells #[.slice none 0 0] 31)).alloc (.cells #[.func (.func 43) #[] #[.pointer (some ⟨w4.heap.size + 1 + 1, 0, none⟩), .pointer (some ⟨wq.heap.size, 0, none⟩), .pointer (some ⟨w4.heap.size, 0, none⟩), .pointer (some ⟨wq.heap.size + 1, 0, none⟩)]] 105))).heap.size := by rw [he]; simp
            have e12 : (((wq.alloc (.cells #[.slice none 0 0] 31)).alloc (.cells #[.func (.func 43) #[] #[.pointer (some ⟨w4.heap.size + 1 + 1, 0, none⟩), .pointer (some ⟨wq.heap.size, 0, none⟩), .pointer (some ⟨w4.heap.size, 0, none⟩), .pointer (some ⟨wq.heap.size + 1, 0, none⟩)]] 105))).cell? ⟨wq.heap.size + 1, 0, none⟩ = some (.func (.func 43) #[] #[.pointer (some ⟨w4.heap.size + 1 + 1, 0, none⟩), .pointer (some ⟨wq.heap.size, 0, none⟩), .pointer (some ⟨w4.heap.size, 0, none⟩), .pointer (some ⟨wq.heap.size + 1, 0, none⟩)]) := by
              have h := hGS.vv.cellAt (i := 0) rfl
              rw [he] at h
              exact h
            have hac9 := (hb9.cell (p := ad.add idx) (by rw [block_add]; omega)).trans hac2
            revert hb9 hGS hbase9 e12 hac9
            generalize ((wq.alloc (.cells #[.slice none 0 0] 31)).alloc (.cells #[.func (.func 43) #[] #[.pointer (some ⟨w4.heap.size + 1 + 1, 0, none⟩), .pointer (some ⟨wq.heap.size, 0, none⟩), .pointer (some ⟨w4.heap.size, 0, none⟩), .pointer (some ⟨wq.heap.size + 1, 0, none⟩)]] 105)) = W9
            intro hb9 hGS hbase9 e12 hac9
            have hgrp := grp_any e hok k W9.drew tkl [] (.slice none 0 0) p tg (hGS.drewN 1) (by rw [he]; exact hpn) hbase9 (by rw [he]; exact HTG.out) (HGL.out _ _ _ hq2.len HTG.out)
            rw [he] at hgrp
            have HGRP := Lib.hid hgrp
            clear hgrp
            go_still_tail 5, (by kernel_rfl)
            change wpList _ _ _ _ _ W9.drew
            have hgl2 := HGL.out _ _ _ hq2.len HTG.out
            go_upto_region 20 with (first
              | (go_at_call 43; refine HGRP.out.mono ?_; rintro en w10 ⟨rfl, vg, hg10, ho10, hrow10⟩; have cg : w10.cell? ⟨wq.heap.size, 0, none⟩ = some vg := hg10.ov.cellAt (i := 0) rfl)
              | (go_at_call 44; refine (sort_own _ _ _ _ hg10.row hgl2).mono ?_; rintro en w11 ⟨rfl, hso, hgs⟩))
            have hvgb : ∀ b, vg.ownBlock = some b → wq.heap.size + 1 + 1 ≤ b := fun b hb => (hg10.row.lt b hb).1
            have keep11 : ∀ {g : Nat} {ty : TypeId} {cs : List Value}, Blk w10 g ty cs → ty ≠ 3 → Blk w11 g ty cs := fun hb hne => hb.same (hgs.block _ hb.lt (fun e' => own_typed hg10.row hb hne e'.symm))
            have h10w : wq.heap.size + 1 + 1 ≤ w10.heap.size := by have h1 := ho10.size; have h2 := hbase9; rw [he] at h2; exact Nat.le_trans h2 h1
            have hx11 : Blk w11 w4.heap.size 67 [.pointer (some ⟨sb, 0, none⟩)] := keep11 hg10.ss (by decide)
            have htv11 : Blk w11 (w4.heap.size + 1 + 1) 93 [.slice (some ⟨w4.heap.size + 1, 0, none⟩) n n] := keep11 hg10.sv (by decide)
            have htk11 : Blk w11 (w4.heap.size + 1) 4 (tg.1.map Value.bool) := keep11 hg10.sr (by decide)
            have hov11 : Blk w11 wq.heap.size 31 [vg] := keep11 hg10.ov (by decide)
            have hlen11 : tg.1.length = n := hg10.len
            have hbel10 : Below w4.heap.size wq w10 := (hb9.mono (by omega)).trans (Below.trans (Below.drew (Below.refl _ W9)) (ho10.below (by show w4.heap.size ≤ W9.heap.size; have := hb9.size; omega) (fun b hb hS => by
              rcases hS with hS | hS | hS
              · have : b = w4.heap.size + 1 := hS; omega
              · have : b = wq.heap.size := hS; omega
              · cases hS)))
            have hbel11 : Below w4.heap.size wq w11 := hbel10.grown hgs (by omega) (fun b hb => by have := hvgb b hb; omega)
            have hsh11 := hq2.sh.below hbel11
            have hnS : ∀ {ty : TypeId} {nn : Nat} {u : Value} {xs : List Value} {bs : Nat}, wq.ownsRow bs ty 1 u nn xs → 4 ≠ ty → ∀ b, u.ownBlock = some b → ¬ GW e (.slice none 0 0) b := fun ho hne b hb hS => by
              rcases hS with hS | hS | hS
              · rw [he] at hS; have : b = w4.heap.size + 1 := hS; subst this; exact own_typed ho hq2.tk hne hb
              · rw [he] at hS; have : b = wq.heap.size := hS; have := (ho.lt b hb).2; omega
              · cases hS
            have ho10' : Only (GW e (.slice none 0 0)) W9.drew w10 := by rw [he]; exact ho10
            have hfam10 : Fam 3 w10 w5.heap.size pvs gs := (hq2.fam.below hb9).drew.onlyOf ho10' (fun v hv => by
              obtain ⟨i, hi⟩ := List.mem_iff_getElem?.1 hv
              obtain ⟨l, _, ho⟩ := hq2.fam.get hi
              exact hnS ho (by decide))
            have hpvlt : ∀ u ∈ pvs, ∀ b, u.ownBlock = some b → b < wq.heap.size + 1 + 1 := fun u hu b hb => by
              obtain ⟨i, hi⟩ := List.mem_iff_getElem?.1 hu
              have := (hq2.fam.lt hi hb).2
              omega
            have hfam11 : Fam 3 w11 w5.heap.size pvs gs := hfam10.grown hgs (fun b hb u hu hub => by have := hvgb b hb; have := hpvlt u hu b hub; omega)
            have hown10 := own_only (own_below hq2.own hb9 : W9.ownsRow w5.heap.size 31 1 vl gs.length pvs).drew ho10' (hnS hq2.own (by decide))
            have hown11 := hown10.kept hgs (by
              cases hv : vl.ownBlock with
              | none => exact .inl rfl
              | some b =>
                right
                intro he'
                have := hvgb b he'.symm
                have := (hq2.own.lt b hv).2
                omega)
            have hso2 : w11.ownsRow (wq.heap.size + 1 + 1) 3 1 vg (sortN tg.2).length ((sortN tg.2).map natV) := by rw [sortN_length]; exact hso
            have hsnoc := hfam11.snoc (fam_single hso2) (by have := hq2.hb; omega) hpvlt
            obtain ⟨Ag, cgp, rfl⟩ := own_slice hso
            have cg11 := hov11.cellAt (i := 0) rfl
            have hb11 : w5.heap.size ≤ w11.heap.size := by have := hq2.hb; have := hgs.size; omega
            obtain ⟨iv, hiv, hz0, hz1, hz2⟩ := info_parts info_ints
            have hownA := hown11.alloc (.cells #[.slice Ag tg.2.length cgp] 31)
            have hnb := Blk.newAt w11 31 #[.slice Ag tg.2.length cgp] rfl
            have hfsA := hsnoc.alloc (.cells #[.slice Ag tg.2.length cgp] 31)
            have hxA := hx11.alloc (.cells #[.slice Ag tg.2.length cgp] 31)
            have htvA := htv11.alloc (.cells #[.slice Ag tg.2.length cgp] 31)
            have htkA := htk11.alloc (.cells #[.slice Ag tg.2.length cgp] 31)
            have hbA : Below w4.heap.size wq (w11.alloc (.cells #[.slice Ag tg.2.length cgp] 31)) := hbel11.alloc (by have := hgs.size; omega) _
            have hgsm : gs.length ≤ 200000 := by omega
            have hbsA : w5.heap.size ≤ (w11.alloc (.cells #[.slice Ag tg.2.length cgp] 31)).heap.size := by rw [World.size_alloc]; omega
            go_wp2_with (at_builtin; refine wpList_append_lies _ rfl (.tmp 68) (.tmp 70) 47 rfl w5.heap.size 31 iv (.slice none 0 0) 1 24 Tryz.underlying47 hiv hz0 hz1 hz2 rfl (by decide) vl gs.length pvs rfl hownA ⟨w11.heap.size, 0, none⟩ 1 1 [.slice Ag tg.2.length cgp] rfl rfl (fun q u hq => by rw [add_none]; exact hnb.cellAt hq) ?c2 (by decide) ?c3 ?c4 hbsA _ rfl ?_)
            case c2 => rfl
            case c3 => unfold maxLen; omega
            case c4 => omega
            intro g c' wz hown hgr _ _
            have keepZ : ∀ {gb : Nat} {ty : TypeId} {cs : List Value}, Blk (w11.alloc (.cells #[.slice Ag tg.2.length cgp] 31)) gb ty cs → ty ≠ 31 → Blk wz gb ty cs := fun hb hne => hb.same (hgr.block _ hb.lt (fun e' => own_typed hownA hb hne e'.symm))
            have hvlb : ∀ b, vl.ownBlock = some b → w5.heap.size ≤ b := fun b hb => (hownA.lt b hb).1
            have hbelZ : Below w4.heap.size wq wz := hbA.grown hgr (by rw [World.size_alloc]; have := hgs.size; omega) (fun b hb => by have := hvlb b hb; have := HS5.out; omega)
            have hfamZ := hfsA.grown hgr (fun b hb u hu hub => by
              obtain ⟨i, hi⟩ := List.mem_iff_getElem?.1 hu
              obtain ⟨l, _, ho⟩ := hfsA.get hi
              rcases own_types ho hownA (by decide) with h | h
              · rw [h] at hub; cases hub
              · exact h (hub.trans hb.symm))
            have hqz : QS w4 wz w5.heap.size sb n w4.heap.size (w4.heap.size + 1) (w4.heap.size + 1 + 1) ((shapeOf n E).rev 0) tg.1 (gs ++ [sortN tg.2]) (.slice (some ⟨g, 0, none⟩) (gs.length + 1) c') (pvs ++ [.slice Ag tg.2.length cgp]) :=
              ⟨keepZ hxA (by decide), keepZ htvA (by decide), keepZ htkA (by decide), hlen11, hq2.sh.below hbelZ, by rw [List.length_append, List.length_singleton]; exact hown, hfamZ, hq2.bel.trans hbelZ, Nat.le_trans hbsA hgr.size⟩
            have HQZ := Lib.hid hqz
            clear hown hfamZ hqz
            go_wp2
            go_roundw
            case rel => exact HEN.out _ _ _ (by simp; omega) HQZ.out
            case measure => simp [intOf]
        · have hge' : (t.2.length : Int) - 1 - m < 0 := by omega
          obtain rfl : t.2.length = m := by omega
          rw [List.take_of_length_le (by simp), HR.out] at hf
          obtain rfl : r = (tkl, gs) := Option.some.inj hf
          clear hf
          have hsg := sortG_own wr w5.heap.size w5.heap.size vl gs pvs hq.own hq.fam hrn hr0 (by omega)
          have HSG := Lib.hid hsg
          have hvlb : ∀ b, vl.ownBlock = some b → w5.heap.size ≤ b := fun b hb => (hq.own.lt b hb).1
          have hS5 := HS5.out
          have hqs := hq.hb
          have hqb := hq.bel
          have HL := Lib.hid (sortG_length gs)
          clear hsg
          go_wp2_with (go_at_call 45; refine HSG.out.mono ?_; rintro en w9 ⟨rfl, pz, hoz, hfz, hgz⟩)
          go_ret
          refine ⟨_, rfl, natss_of (by rw [HL.out]; exact hoz) hfz, ?_⟩
          have h1 : Below w4.heap.size w4 w9 := hqb.grown hgz (by omega) (fun b hb => by have := hvlb b hb; omega)
          exact hb5.trans (h1.mono hb5.size)

#print axioms groups_any

end Go.Proofs.YthaampinmelgaaaGreatDoor

/-! A function that has left many loops over functions: all of their records are taken at its end. -/
namespace Go.Proofs.YthaampinmelgaaaGreatDoor
open Go Go.RowKit

/-- The records that the loops over functions have left. -/
def collected (Ds : List Nat) : List Deferred := Ds.map fun D => { target := .collected D, args := #[] }

theorem leaves_collected {F : Fence} {n : Nat} {P : Program} {fn : Func} {tmps : Array Value} {R : Ending → World → Prop} : ∀ (Ds : List Nat) (w : World), Ds.Nodup → (∀ D ∈ Ds, w.heap[D]? = some (.deferred (some []))) →
    (∀ w', Only (fun b => b ∈ Ds) w w' → LeavesInM F n P fn tmps R [] .returning w') → LeavesInM F n P fn tmps R (collected Ds) .returning w
  | [], w, _, _, h => h w (Only.refl _ _)
  | D :: Ds, w, hn, hd, h => by
    have hnd := List.nodup_cons.1 hn
    have hD := hd D List.mem_cons_self
    refine ⟨by simp, .inl ⟨D, _, rfl, run_takeDeferred hD, ?_⟩⟩
    have hg : w.grownBy (w.putObj D (.deferred none)) (some D) := grownBy_putObj' _ D _
    refine leaves_collected Ds _ hnd.2 (fun D' hD' => ?_) (fun w' ho => h w' ?_)
    · have h1 := hd D' (List.mem_cons_of_mem _ hD')
      have hne : D' ≠ D := fun e => hnd.1 (e ▸ hD')
      exact (hg.block D' (lt_of_block h1) (by simp; exact hne)).trans h1
    · exact (Only.of_grown (S := fun b => b ∈ D :: Ds) hg (fun b e => by cases e; exact List.mem_cons_self)).trans ho (fun b _ hb => List.mem_cons_of_mem _ hb)

end Go.Proofs.YthaampinmelgaaaGreatDoor

/-! Package graph: Components: what lies in memory. -/
/-! The plain model of Components. -/
namespace Go.Proofs.YthaampinmelgaaaGreatDoor

end Go.Proofs.YthaampinmelgaaaGreatDoor

/-! Package graph: Components, where the graph is not well-formed. -/
namespace Go.Proofs.YthaampinmelgaaaGreatDoor
open Go.RowKit Go.Shelf

section
variable (B : Nat) (w : World) (v : Value)
set_option maxRecDepth 100000
set_option maxHeartbeats 1000000
theorem components_bad (n exit : Int) (es : List (Int × Int)) (hv : Edges B w v es) (hB : B ≤ w.heap.size) (hc : chk n exit es ≠ 0) :
    Calls Tryz.prog 7 #[.agg #[.int .i64 n, .int .i64 exit, v]] w fun en w' => en = .returned (.tuple #[.slice none 0 0, .int .i64 (chk n exit es)]) ∧ Below w.heap.size w w' := by
  obtain ⟨A, c, rfl, hlc, -, hm, hes⟩ := id hv.shape
  have hcheck := fun w1 (h1 : Below w.heap.size w w1) => check_any B w1 n exit _ es (hv.below (h1.mono hB)) (by have := h1.size; omega)
  have HC := Lib.hid hcheck
  clear hcheck hes hv
  go_enter Tryz.func7, Tryz.ntmps7
  go_wp2_with (go_at_call 23; refine (HC.out _ ((Below.refl _ _).alloc (Nat.le_refl _) _)).mono ?_; rintro en w1 ⟨rfl, hb1⟩)
  go_ret2
  exact ⟨rfl, ((Below.refl _ _).alloc (Nat.le_refl _) _).trans (hb1.mono (by simp))⟩
end
end Go.Proofs.YthaampinmelgaaaGreatDoor

/-! Package graph: Components: what lies in memory. -/
namespace Go.Proofs.YthaampinmelgaaaGreatDoor
open Go.RowKit Go.Shelf

theorem bcell {W w1 : World} (hb : Below W.heap.size W w1) : (∀ b o, b < W.heap.size → w1.cell? ⟨b, o, none⟩ = W.cell? ⟨b, o, none⟩) ∧ (∀ b o, b < W.heap.size → w1.frozen? ⟨b, o, none⟩ = W.frozen? ⟨b, o, none⟩) :=
  ⟨fun b o h => hb.cell (p := ⟨b, o, none⟩) h, fun b o h => hb.frozen (p := ⟨b, o, none⟩) h⟩

/-- The numbers of the groups and the numbers of the components, in their variables. -/
structure CS (w3 W : World) (a7 a8 go gn n : Nat) (ofs : List Nat) (num : List Int) : Prop where
  v7 : Blk W a7 31 [.slice (some ⟨go, 0, none⟩) n n]
  v8 : Blk W a8 31 [.slice (some ⟨gn, 0, none⟩) n n]
  o : Blk W go 3 (ofs.map natV)
  m : Blk W gn 3 (num.map intV)
  ne : go ≠ gn
  lo : ofs.length = n
  ln : num.length = n
  h7 : w3.heap.size ≤ a7
  h8 : w3.heap.size ≤ a8
  hgo : w3.heap.size ≤ go
  hgn : w3.heap.size ≤ gn
  bel : Below w3.heap.size w3 W

theorem CS.start {w3 W : World} {a7 a8 go gn n : Nat} (v7 : Blk W a7 31 [.slice (some ⟨go, 0, none⟩) n n]) (v8 : Blk W a8 31 [.slice (some ⟨gn, 0, none⟩) n n])
    (o : Blk W go 3 (Array.replicate n (.int .i64 0)).toList) (m : Blk W gn 3 (List.replicate n (.int .i64 (-1)))) (ne : go ≠ gn) (h7 : w3.heap.size ≤ a7) (h8 : w3.heap.size ≤ a8) (hgo : w3.heap.size ≤ go) (hgn : w3.heap.size ≤ gn) (bel : Below w3.heap.size w3 W) :
    CS w3 W a7 a8 go gn n (List.replicate n 0) (List.replicate n (-1)) :=
  ⟨v7, v8, by rw [List.map_replicate]; rw [Array.toList_replicate] at o; exact o, by rw [List.map_replicate]; exact m, ne, by simp, by simp, h7, h8, hgo, hgn, bel⟩
theorem Blk.new1 {w : World} {t : TypeId} {u : Value} {N : Nat} (hN : w.heap.size = N) : Blk (w.alloc (.cells #[u] t)) N t [u] := Blk.newAt w t #[u] hN
theorem Blk.newA {w : World} {t : TypeId} {cs : Array Value} {N : Nat} (hN : w.heap.size = N) : Blk (w.alloc (.cells cs t)) N t cs.toList := Blk.newAt w t cs hN
theorem Blk.set1 {W : World} {g : Nat} {t : TypeId} {u0 u : Value} (h : Blk W g t [u0]) : Blk (W.setCell ⟨g, 0, none⟩ u) g t [u] := h.set 0 u

/-- The numbers of the groups while they are filled in. -/
def fillOf (o : List Nat) (g : List Nat) (k : Nat) : List Nat := g.foldl (fun o p => o.set p k) o
def ofP (n : Nat) (gs : List (List Nat)) (m : Nat) : List Nat := (gs.zipIdx.take m).foldl (fun o x => fillOf o x.1 x.2) (List.replicate n 0)
theorem ofP_zero (n : Nat) (gs : List (List Nat)) : ofP n gs 0 = List.replicate n 0 := rfl
theorem ofP_succ (n : Nat) (gs : List (List Nat)) (m : Nat) (h : m < gs.length) : ofP n gs (m + 1) = fillOf (ofP n gs m) gs[m] m := by
  unfold ofP
  rw [List.take_succ_eq_append_getElem (by simpa using h), List.foldl_append]
  simp
theorem ofP_all (n : Nat) (gs : List (List Nat)) : ofP n gs gs.length = ofF n gs := by
  unfold ofP ofF
  rw [List.take_of_length_le (by simp)]
  rfl
theorem fillOf_succ (o g : List Nat) (k j : Nat) (h : j < g.length) : fillOf o (g.take (j + 1)) k = (fillOf o (g.take j) k).set g[j] k := by
  unfold fillOf
  rw [List.take_succ_eq_append_getElem h, List.foldl_append]
  rfl
theorem fillOf_length (g : List Nat) (k : Nat) : ∀ o : List Nat, (fillOf o g k).length = o.length := by
  unfold fillOf
  induction g with
  | nil => intro o; rfl
  | cons x xs ih => intro o; rw [List.foldl_cons, ih]; simp

section
variable {w3 W : World} {a7 a8 go gn n : Nat} {ofs : List Nat} {num : List Int}
theorem CS.setOf (h : CS w3 W a7 a8 go gn n ofs num) (p k : Nat) : CS w3 (W.setCell ⟨go, p, none⟩ (.int .i64 (k : Int))) a7 a8 go gn n (ofs.set p k) num := by
  refine ⟨h.v7.far (h.v7.ne h.o (by decide)) _, h.v8.far (h.v8.ne h.o (by decide)) _, ?_, h.m.far h.ne.symm _, h.ne, by simpa using h.lo, h.ln, h.h7, h.h8, h.hgo, h.hgn, h.bel.setCell h.hgo _⟩
  have := h.o.set p (.int .i64 (k : Int))
  rw [List.map_set]
  exact this
theorem CS.setNum (h : CS w3 W a7 a8 go gn n ofs num) (p : Nat) (k : Int) : CS w3 (W.setCell ⟨gn, p, none⟩ (.int .i64 k)) a7 a8 go gn n ofs (num.set p k) := by
  refine ⟨h.v7.far (h.v7.ne h.m (by decide)) _, h.v8.far (h.v8.ne h.m (by decide)) _, h.o.far h.ne _, ?_, h.ne, h.lo, by simpa using h.ln, h.h7, h.h8, h.hgo, h.hgn, h.bel.setCell h.hgn _⟩
  have := h.m.set p (.int .i64 k)
  rw [List.map_set]
  exact this
theorem CS.alloc (h : CS w3 W a7 a8 go gn n ofs num) (o : Obj) : CS w3 (W.alloc o) a7 a8 go gn n ofs num :=
  ⟨h.v7.alloc _, h.v8.alloc _, h.o.alloc _, h.m.alloc _, h.ne, h.lo, h.ln, h.h7, h.h8, h.hgo, h.hgn, h.bel.alloc h.bel.size _⟩
theorem CS.drewN (h : CS w3 W a7 a8 go gn n ofs num) (k : Nat) : CS w3 (W.drewN k) a7 a8 go gn n ofs num :=
  ⟨h.v7, h.v8, h.o, h.m, h.ne, h.lo, h.ln, h.h7, h.h8, h.hgo, h.hgn, below_drewN' h.bel k⟩
theorem CS.blk (h : CS w3 W a7 a8 go gn n ofs num) : ∃ cs7 cs8 cso csm, W.heap[a7]? = some cs7 ∧ W.heap[a8]? = some cs8 ∧ W.heap[go]? = some cso ∧ W.heap[gn]? = some csm ∧ cs7.isCells = true ∧ cs8.isCells = true ∧ cso.isCells = true ∧ csm.isCells = true :=
  ⟨_, _, _, _, h.v7, h.v8, h.o, h.m, rfl, rfl, rfl, rfl⟩
/-- Nothing but what is below block W.heap.size and no cells has been turned. -/
theorem CS.keep (h : CS w3 W a7 a8 go gn n ofs num) {W' : World} (hg : Below w3.heap.size W W') (h1 : W'.heap[a7]? = W.heap[a7]?) (h2 : W'.heap[a8]? = W.heap[a8]?) (h3 : W'.heap[go]? = W.heap[go]?) (h4 : W'.heap[gn]? = W.heap[gn]?) : CS w3 W' a7 a8 go gn n ofs num :=
  ⟨h.v7.same h1, h.v8.same h2, h.o.same h3, h.m.same h4, h.ne, h.lo, h.ln, h.h7, h.h8, h.hgo, h.hgn, h.bel.trans hg⟩
theorem CS.ofCell (h : CS w3 W a7 a8 go gn n ofs num) {p : Nat} (hp : p < n) : W.cell? ⟨go, p, none⟩ = some (.int .i64 (ofs.getD p 0 : Nat)) :=
  h.o.cellAt (by rw [List.getElem?_map, List.getElem?_eq_getElem (by rw [h.lo]; exact hp), List.getD_eq_getElem?_getD, List.getElem?_eq_getElem (by rw [h.lo]; exact hp)]; rfl)
theorem CS.numCell (h : CS w3 W a7 a8 go gn n ofs num) {p : Nat} (hp : p < n) : W.cell? ⟨gn, p, none⟩ = some (.int .i64 (getI num p)) :=
  getI_cell h.m (by rw [h.ln]; exact hp)
end
/-- One of the lists, as it is read. -/
theorem Natss.at {B : Nat} {w : World} {A : Option Addr} {m c : Nat} {xss : List (List Nat)} (h : Natss B w (.slice A m c) xss) {j : Nat} (hj : j < xss.length) : ∃ (ad : Addr) (A' : Option Addr) (c' : Nat), A = some ad ∧ ad.block < B ∧ w.cell? (ad.add j) = some (.slice A' xss[j].length c') ∧ Nats B w (.slice A' xss[j].length c') xss[j] ∧ xss[j].length ≤ 9223372036854775807 := by
  obtain ⟨A1, c1, he, -, -, h3⟩ := h
  cases he
  obtain ⟨ad, u, rfl, hb, hc, hr⟩ := h3 j _ (List.getElem?_eq_getElem hj)
  obtain ⟨A', c', rfl, -, -, hm, -⟩ := Sl.shape hr
  exact ⟨ad, A', c', rfl, hb, hc, hr, hm⟩

end Go.Proofs.YthaampinmelgaaaGreatDoor

/-! Loops that hold a range over a function: each round may leave a record among what the frame puts off; and a frame of many slots, of which a few are known. -/
namespace Go.Proofs.YthaampinmelgaaaGreatDoor
open Go Go.RowKit

/-- A loop whose rounds may leave records of loops over functions. -/
theorem wp_loop_defs {P : Program} {Q : Exit → Act → World → Prop} {T0 : Array Value} {D0 : List Nat} {w : World} {c : Code} (I : Nat → Array Value → List Nat → World → Prop) (n₀ : Nat) (h₀ : I n₀ T0 D0 w)
    (round : ∀ n T D w, I n T D w → ∀ (K : Act → World → Prop), (∀ n' T' D' w', n' < n → I n' T' D' w' → K { tmps := T', defers := collected D' } w') → c.wp P (Exit.then K Q) { tmps := T, defers := collected D } w) :
    (Code.loop c).wp P Q { tmps := T0, defers := collected D0 } w := by
  refine wp_loop_ghost (fun n a w => ∃ T D, a = { tmps := T, defers := collected D } ∧ I n T D w) n₀ ⟨T0, D0, rfl, h₀⟩ ?_
  rintro n a w ⟨T, D, rfl, hI⟩
  exact round n T D w hI _ fun n' T' D' w' hlt h => ⟨n', hlt, T', D', rfl, h⟩

theorem getD_list (l : List Value) : l = (List.range l.length).map fun i => l.getD i undef := by
  apply List.ext_getElem
  · simp
  · intro i h1 h2
    simp [h1]

set_option maxRecDepth 100000 in
theorem arr117 (T : Array Value) (h : T.size = 117) : T = #[T.toList.getD 0 undef, T.toList.getD 1 undef, T.toList.getD 2 undef, T.toList.getD 3 undef, T.toList.getD 4 undef, T.toList.getD 5 undef, T.toList.getD 6 undef, T.toList.getD 7 undef, T.toList.getD 8 undef, T.toList.getD 9 undef, T.toList.getD 10 undef, T.toList.getD 11 undef, T.toList.getD 12 undef, T.toList.getD 13 undef, T.toList.getD 14 undef, T.toList.getD 15 undef, T.toList.getD 16 undef, T.toList.getD 17 undef, T.toList.getD 18 undef, T.toList.getD 19 undef, T.toList.getD 20 undef, T.toList.getD 21 undef, T.toList.getD 22 undef, T.toList.getD 23 undef, T.toList.getD 24 undef, T.toList.getD 25 undef, T.toList.getD 26 undef, T.toList.getD 27 undef, T.toList.getD 28 undef, T.toList.getD 29 undef, T.toList.getD 30 undef, T.toList.getD 31 undef, T.toList.getD 32 undef, T.toList.getD 33 undef, T.toList.getD 34 undef, T.toList.getD 35 undef, T.toList.getD 36 undef, T.toList.getD 37 undef, T.toList.getD 38 undef, T.toList.getD 39 undef, T.toList.getD 40 undef, T.toList.getD 41 undef, T.toList.getD 42 undef, T.toList.getD 43 undef, T.toList.getD 44 undef, T.toList.getD 45 undef, T.toList.getD 46 undef, T.toList.getD 47 undef, T.toList.getD 48 undef, T.toList.getD 49 undef, T.toList.getD 50 undef, T.toList.getD 51 undef, T.toList.getD 52 undef, T.toList.getD 53 undef, T.toList.getD 54 undef, T.toList.getD 55 undef, T.toList.getD 56 undef, T.toList.getD 57 undef, T.toList.getD 58 undef, T.toList.getD 59 undef, T.toList.getD 60 undef, T.toList.getD 61 undef, T.toList.getD 62 undef, T.toList.getD 63 undef, T.toList.getD 64 undef, T.toList.getD 65 undef, T.toList.getD 66 undef, T.toList.getD 67 undef, T.toList.getD 68 undef, T.toList.getD 69 undef, T.toList.getD 70 undef, T.toList.getD 71 undef, T.toList.getD 72 undef, T.toList.getD 73 undef, T.toList.getD 74 undef, T.toList.getD 75 undef, T.toList.getD 76 undef, T.toList.getD 77 undef, T.toList.getD 78 undef, T.toList.getD 79 undef, T.toList.getD 80 undef, T.toList.getD 81 undef, T.toList.getD 82 undef, T.toList.getD 83 undef, T.toList.getD 84 undef, T.toList.getD 85 undef, T.toList.getD 86 undef, T.toList.getD 87 undef, T.toList.getD 88 undef, T.toList.getD 89 undef, T.toList.getD 90 undef, T.toList.getD 91 undef, T.toList.getD 92 undef, T.toList.getD 93 undef, T.toList.getD 94 undef, T.toList.getD 95 undef, T.toList.getD 96 undef, T.toList.getD 97 undef, T.toList.getD 98 undef, T.toList.getD 99 undef, T.toList.getD 100 undef, T.toList.getD 101 undef, T.toList.getD 102 undef, T.toList.getD 103 undef, T.toList.getD 104 undef, T.toList.getD 105 undef, T.toList.getD 106 undef, T.toList.getD 107 undef, T.toList.getD 108 undef, T.toList.getD 109 undef, T.toList.getD 110 undef, T.toList.getD 111 undef, T.toList.getD 112 undef, T.toList.getD 113 undef, T.toList.getD 114 undef, T.toList.getD 115 undef, T.toList.getD 116 undef] := by
  have e := getD_list T.toList
  rw [Array.length_toList, h] at e
  exact Array.toList_inj.1 (e.trans rfl)
/-- What is known of the frame at loop 3. -/
structure IsF3 (v5 v6 v7 v8 v13 : Value) (T : Array Value) : Prop where
  size : T.size = 117
  s5 : T.toList.getD 5 undef = v5
  s6 : T.toList.getD 6 undef = v6
  s7 : T.toList.getD 7 undef = v7
  s8 : T.toList.getD 8 undef = v8
  s13 : T.toList.getD 13 undef = v13
set_option maxRecDepth 100000 in
theorem IsF3.out {v5 v6 v7 v8 v13 : Value} {T : Array Value} (h : IsF3 v5 v6 v7 v8 v13 T) : ∃ u : Nat → Value, T = #[(u 0), (u 1), (u 2), (u 3), (u 4), v5, v6, v7, v8, (u 9), (u 10), (u 11), (u 12), v13, (u 14), (u 15), (u 16), (u 17), (u 18), (u 19), (u 20), (u 21), (u 22), (u 23), (u 24), (u 25), (u 26), (u 27), (u 28), (u 29), (u 30), (u 31), (u 32), (u 33), (u 34), (u 35), (u 36), (u 37), (u 38), (u 39), (u 40), (u 41), (u 42), (u 43), (u 44), (u 45), (u 46), (u 47), (u 48), (u 49), (u 50), (u 51), (u 52), (u 53), (u 54), (u 55), (u 56), (u 57), (u 58), (u 59), (u 60), (u 61), (u 62), (u 63), (u 64), (u 65), (u 66), (u 67), (u 68), (u 69), (u 70), (u 71), (u 72), (u 73), (u 74), (u 75), (u 76), (u 77), (u 78), (u 79), (u 80), (u 81), (u 82), (u 83), (u 84), (u 85), (u 86), (u 87), (u 88), (u 89), (u 90), (u 91), (u 92), (u 93), (u 94), (u 95), (u 96), (u 97), (u 98), (u 99), (u 100), (u 101), (u 102), (u 103), (u 104), (u 105), (u 106), (u 107), (u 108), (u 109), (u 110), (u 111), (u 112), (u 113), (u 114), (u 115), (u 116)] := by
  have e := arr117 T h.size
  rw [h.s5, h.s6, h.s7, h.s8, h.s13] at e
  exact ⟨fun i => T.toList.getD i undef, e⟩
/-- What is known of the frame at loop 4. -/
structure IsF4 (v5 v6 v7 v8 v13 v66 v67 v68 : Value) (T : Array Value) : Prop where
  size : T.size = 117
  s5 : T.toList.getD 5 undef = v5
  s6 : T.toList.getD 6 undef = v6
  s7 : T.toList.getD 7 undef = v7
  s8 : T.toList.getD 8 undef = v8
  s13 : T.toList.getD 13 undef = v13
  s66 : T.toList.getD 66 undef = v66
  s67 : T.toList.getD 67 undef = v67
  s68 : T.toList.getD 68 undef = v68
set_option maxRecDepth 100000 in
theorem IsF4.out {v5 v6 v7 v8 v13 v66 v67 v68 : Value} {T : Array Value} (h : IsF4 v5 v6 v7 v8 v13 v66 v67 v68 T) : ∃ u : Nat → Value, T = #[(u 0), (u 1), (u 2), (u 3), (u 4), v5, v6, v7, v8, (u 9), (u 10), (u 11), (u 12), v13, (u 14), (u 15), (u 16), (u 17), (u 18), (u 19), (u 20), (u 21), (u 22), (u 23), (u 24), (u 25), (u 26), (u 27), (u 28), (u 29), (u 30), (u 31), (u 32), (u 33), (u 34), (u 35), (u 36), (u 37), (u 38), (u 39), (u 40), (u 41), (u 42), (u 43), (u 44), (u 45), (u 46), (u 47), (u 48), (u 49), (u 50), (u 51), (u 52), (u 53), (u 54), (u 55), (u 56), (u 57), (u 58), (u 59), (u 60), (u 61), (u 62), (u 63), (u 64), (u 65), v66, v67, v68, (u 69), (u 70), (u 71), (u 72), (u 73), (u 74), (u 75), (u 76), (u 77), (u 78), (u 79), (u 80), (u 81), (u 82), (u 83), (u 84), (u 85), (u 86), (u 87), (u 88), (u 89), (u 90), (u 91), (u 92), (u 93), (u 94), (u 95), (u 96), (u 97), (u 98), (u 99), (u 100), (u 101), (u 102), (u 103), (u 104), (u 105), (u 106), (u 107), (u 108), (u 109), (u 110), (u 111), (u 112), (u 113), (u 114), (u 115), (u 116)] := by
  have e := arr117 T h.size
  rw [h.s5, h.s6, h.s7, h.s8, h.s13, h.s66, h.s67, h.s68] at e
  exact ⟨fun i => T.toList.getD i undef, e⟩
/-- What is known of the frame at loop 5. -/
structure IsF5 (v5 v6 v7 v8 v13 v14 v15 v66 v67 v68 v80 v81 v82 : Value) (T : Array Value) : Prop where
  size : T.size = 117
  s5 : T.toList.getD 5 undef = v5
  s6 : T.toList.getD 6 undef = v6
  s7 : T.toList.getD 7 undef = v7
  s8 : T.toList.getD 8 undef = v8
  s13 : T.toList.getD 13 undef = v13
  s14 : T.toList.getD 14 undef = v14
  s15 : T.toList.getD 15 undef = v15
  s66 : T.toList.getD 66 undef = v66
  s67 : T.toList.getD 67 undef = v67
  s68 : T.toList.getD 68 undef = v68
  s80 : T.toList.getD 80 undef = v80
  s81 : T.toList.getD 81 undef = v81
  s82 : T.toList.getD 82 undef = v82
set_option maxRecDepth 100000 in
theorem IsF5.out {v5 v6 v7 v8 v13 v14 v15 v66 v67 v68 v80 v81 v82 : Value} {T : Array Value} (h : IsF5 v5 v6 v7 v8 v13 v14 v15 v66 v67 v68 v80 v81 v82 T) : ∃ u : Nat → Value, T = #[(u 0), (u 1), (u 2), (u 3), (u 4), v5, v6, v7, v8, (u 9), (u 10), (u 11), (u 12), v13, v14, v15, (u 16), (u 17), (u 18), (u 19), (u 20), (u 21), (u 22), (u 23), (u 24), (u 25), (u 26), (u 27), (u 28), (u 29), (u 30), (u 31), (u 32), (u 33), (u 34), (u 35), (u 36), (u 37), (u 38), (u 39), (u 40), (u 41), (u 42), (u 43), (u 44), (u 45), (u 46), (u 47), (u 48), (u 49), (u 50), (u 51), (u 52), (u 53), (u 54), (u 55), (u 56), (u 57), (u 58), (u 59), (u 60), (u 61), (u 62), (u 63), (u 64), (u 65), v66, v67, v68, (u 69), (u 70), (u 71), (u 72), (u 73), (u 74), (u 75), (u 76), (u 77), (u 78), (u 79), v80, v81, v82, (u 83), (u 84), (u 85), (u 86), (u 87), (u 88), (u 89), (u 90), (u 91), (u 92), (u 93), (u 94), (u 95), (u 96), (u 97), (u 98), (u 99), (u 100), (u 101), (u 102), (u 103), (u 104), (u 105), (u 106), (u 107), (u 108), (u 109), (u 110), (u 111), (u 112), (u 113), (u 114), (u 115), (u 116)] := by
  have e := arr117 T h.size
  rw [h.s5, h.s6, h.s7, h.s8, h.s13, h.s14, h.s15, h.s66, h.s67, h.s68, h.s80, h.s81, h.s82] at e
  exact ⟨fun i => T.toList.getD i undef, e⟩
/-- The records that have been left, in memory. -/
structure DsOk (b : Nat) (Ds : List Nat) (W : World) : Prop where
  nodup : Ds.Nodup
  at_ : ∀ D ∈ Ds, W.heap[D]? = some (.deferred (some []))
  lo : ∀ D ∈ Ds, b ≤ D
section
variable {b : Nat} {Ds : List Nat} {W W' : World}
theorem DsOk.nil (b : Nat) (W : World) : DsOk b [] W := ⟨List.nodup_nil, fun _ h => (List.not_mem_nil h).elim, fun _ h => (List.not_mem_nil h).elim⟩
theorem DsOk.lt (h : DsOk b Ds W) : ∀ D ∈ Ds, D < W.heap.size := fun D hD => lt_of_block (h.at_ D hD)
theorem DsOk.same (h : DsOk b Ds W) (hs : ∀ D ∈ Ds, W'.heap[D]? = W.heap[D]?) : DsOk b Ds W' := ⟨h.nodup, fun D hD => (hs D hD).trans (h.at_ D hD), h.lo⟩
theorem DsOk.alloc (h : DsOk b Ds W) (o : Obj) : DsOk b Ds (W.alloc o) := h.same fun D hD => Below.heap_alloc W o D (h.lt D hD)
theorem DsOk.drewN (h : DsOk b Ds W) (k : Nat) : DsOk b Ds (W.drewN k) := ⟨h.nodup, h.at_, h.lo⟩
theorem DsOk.set (h : DsOk b Ds W) {g i : Nat} {t : TypeId} {cs : List Value} (hb : Blk W g t cs) (u : Value) : DsOk b Ds (W.setCell ⟨g, i, none⟩ u) := h.same fun D hD => Below.heap_setCell W ⟨g, i, none⟩ u D (by
  rintro rfl
  have h1 := h.at_ _ hD
  unfold Blk at hb
  rw [hb] at h1
  cases h1)
theorem DsOk.cons (h : DsOk b Ds W) {D : Nat} (hD : W.heap[D]? = some (.deferred (some []))) (hb : b ≤ D) (hn : ∀ D' ∈ Ds, D' < D) : DsOk b (D :: Ds) W :=
  ⟨List.nodup_cons.2 ⟨fun hm => by have := hn D hm; omega, h.nodup⟩, fun D' h' => by
    rcases List.mem_cons.1 h' with rfl | h'
    · exact hD
    · exact h.at_ D' h', fun D' h' => by
    rcases List.mem_cons.1 h' with rfl | h'
    · exact hb
    · exact h.lo D' h'⟩
end

theorem CS.drew {w3 W : World} {a7 a8 go gn n : Nat} {ofs : List Nat} {num : List Int} (h : CS w3 W a7 a8 go gn n ofs num) : CS w3 W.drew a7 a8 go gn n ofs num :=
  ⟨h.v7, h.v8, h.o, h.m, h.ne, h.lo, h.ln, h.h7, h.h8, h.hgo, h.hgn, h.bel.drew⟩
theorem DsOk.drew {b : Nat} {Ds : List Nat} {W : World} (h : DsOk b Ds W) : DsOk b Ds W.drew := ⟨h.nodup, h.at_, h.lo⟩
theorem any_snoc {f : Nat → Bool} {l : List Nat} {x : Nat} {b c : Bool} (h1 : l.any f = b) (h2 : f x = c) : (l ++ [x]).any f = (b || c) := by
  rw [List.any_append, h1]
  simp [h2]

/-- What the rounds of a loop over a function keep, whatever the loop's own books do. -/
theorem keepCS {w3 A B : World} {a7 a8 go gn n a14 N : Nat} {ofs : List Nat} {num : List Int} {Ds : List Nat} {v : Value} {row : Option Nat} (h2 : CS w3 A a7 a8 go gn n ofs num) (h3 : DsOk w3.heap.size Ds A) (h4 : Blk A a14 3 [v]) (hg : A.grownBy B row)
    (hrow : ∀ r, row = some r → N ≤ r ∧ ∃ o : Obj, A.heap[r]? = some o ∧ o.isCells = false) (hlt : ∀ D ∈ Ds, D < N) (hN : w3.heap.size ≤ N) : CS w3 B a7 a8 go gn n ofs num ∧ DsOk w3.heap.size Ds B ∧ Blk B a14 3 [v] := by
  have hk : ∀ {g : Nat} {t : TypeId} {cs : List Value}, Blk A g t cs → B.heap[g]? = A.heap[g]? := fun {g t cs} hb => hg.block g hb.lt (fun e' => by
    obtain ⟨_, o, ho, hc⟩ := hrow g e'.symm
    unfold Blk at hb
    rw [hb] at ho
    cases ho
    simp [Obj.isCells] at hc)
  have hbel : Below w3.heap.size A B := ⟨hg.os, hg.tape, hg.output, hg.size, fun k hk => hg.block k (by have := h2.bel.size; omega) (fun e' => by have := (hrow k e'.symm).1; omega)⟩
  exact ⟨h2.keep hbel (hk h2.v7) (hk h2.v8) (hk h2.o) (hk h2.m), h3.same fun D hD => hg.block D (h3.lt D hD) (fun e' => by have := (hrow D e'.symm).1; have := hlt D hD; omega), h4.same (hk h4)⟩

/-! The numbers of the components, one round after the other. -/
def numAt (s : Shp) (gs : List (List Nat)) (c : Nat) : List Int := (List.range c).foldl (roundF s (ofF s.n gs) gs) (List.replicate s.n (-1))
theorem numAt_succ (s : Shp) (gs : List (List Nat)) (c : Nat) : numAt s gs (c + 1) = roundF s (ofF s.n gs) gs (numAt s gs c) c := by
  unfold numAt
  rw [List.range_succ, List.foldl_append]
  rfl
def badP (ofs : List Nat) (num : List Int) (k q : Nat) : Bool := decide (ofs.getD q 0 ≠ k) && decide (getI num q < 0)
def blockP (s : Shp) (ofs : List Nat) (num : List Int) (k p : Nat) : Bool := (s.next p).any (badP ofs num k)
theorem blockedF_eq (s : Shp) (ofs : List Nat) (num : List Int) (k : Nat) (g : List Nat) : blockedF s ofs num k g = g.any (blockP s ofs num k) := rfl
theorem any_take_succ' {f : Nat → Bool} {l : List Nat} {j : Nat} (h : j < l.length) (h1 : (l.take j).any f = false) (h2 : f l[j] = false) : (l.take (j + 1)).any f = false := by
  rw [List.take_succ_eq_append_getElem h, List.any_append, h1]
  simp [h2]
theorem any_of_get {f : Nat → Bool} {l : List Nat} {j : Nat} (h : j < l.length) (h2 : f l[j] = true) : l.any f = true := List.any_eq_true.2 ⟨_, List.getElem_mem h, h2⟩
theorem freeF_at {s : Shp} {ofs : List Nat} {gs : List (List Nat)} {num : List Int} {k : Nat} {g : List Nat} (h : gs[k]? = some g) : freeF s ofs gs num k = (decide (getI num (g.getD 0 0) < 0) && !g.any (blockP s ofs num k)) := by
  have e : gs.getD k [] = g := by rw [List.getD_eq_getElem?_getD, h]; rfl
  unfold freeF
  rw [e]
  rfl
theorem round_none {s : Shp} {ofs : List Nat} {gs : List (List Nat)} {num : List Int} (c : Nat) (h : ∀ k, k < gs.length → freeF s ofs gs num k = false) : roundF s ofs gs num c = num := by
  have : pickF s ofs gs num = none := by
    unfold pickF
    rw [List.find?_eq_none]
    intro k hk
    rw [h k (List.mem_range.1 hk)]
    simp
  unfold roundF
  rw [this]
theorem find_range {f : Nat → Bool} : ∀ {n k : Nat}, k < n → (∀ j, j < k → f j = false) → f k = true → (List.range n).find? f = some k
  | 0, k, h, _, _ => by omega
  | n + 1, k, h, h1, h2 => by
    rw [List.range_succ, List.find?_append]
    by_cases hk : k < n
    · rw [find_range hk h1 h2]; rfl
    · have e : k = n := by omega
      subst e
      have : (List.range k).find? f = none := by
        rw [List.find?_eq_none]
        intro j hj
        rw [h1 j (List.mem_range.1 hj)]
        simp
      rw [this]
      simp [h2]
theorem round_some {s : Shp} {ofs : List Nat} {gs : List (List Nat)} {num : List Int} (c : Nat) {k : Nat} {g : List Nat} (hk : gs[k]? = some g) (h : ∀ j, j < k → freeF s ofs gs num j = false) (h2 : freeF s ofs gs num k = true) : roundF s ofs gs num c = setAll num g c := by
  have : pickF s ofs gs num = some k := find_range (List.getElem?_eq_some_iff.1 hk).1 h h2
  unfold roundF
  rw [this]
  simp only
  rw [List.getD_eq_getElem?_getD, hk]
  rfl
theorem setAll_succ (num : List Int) (g : List Nat) (c j : Nat) (h : j < g.length) : setAll num (g.take (j + 1)) c = (setAll num (g.take j) c).set g[j] (c : Int) := by
  unfold setAll
  rw [List.take_succ_eq_append_getElem h, List.foldl_append]
  rfl

end Go.Proofs.YthaampinmelgaaaGreatDoor

/-! A region that draws its order, only reads, and stands in the body of a range over a function: one walk in the text's order serves every order. Nothing here speaks of a program. -/
namespace Go

/-- The operation is no defer statement. -/
def Oper.noDefer (o : Oper) : Bool := match o.op with
  | .defer _ => false
  | _ => true
theorem Oper.noDefer_ne {o : Oper} (h : o.noDefer = true) : ∀ c, o.op ≠ .defer c := fun c hc => by
  unfold Oper.noDefer at h
  rw [hc] at h
  cases h

section
variable {F : Fence} {n : Nat} {P : Program} {md : Region.Mode} {ops : Array Oper} {C : World → Prop}

theorem Oper.wpIn_of_quietR {o : Oper} {a : Act} {K : Act → Prop} {K' : Act → World → Prop} {Q' : Exit → Act → World → Prop} {w : World} (hsem : ∀ ρ, Oper.semAt F.round ρ o = execOp ρ o) (hw : C w) (h : ∀ a w', C w' → K a → K' a w')
    (ha : o.askedIn F P a C) (hh : o.quietIn F n P a C K) : o.wpIn F n P a w K' Q' := by
  obtain ⟨v, h1, h2⟩ := hh
  have h3 := h1 w hw
  unfold Oper.quietAtIn at h3
  unfold Oper.wpIn
  refine ⟨ha w hw, ?_⟩
  rw [hsem]
  generalize (execOp a.eval o).run P w = r at *
  cases r with
  | ok x w' =>
    cases x <;> simp only [Oper.quietUponIn] at h3 <;> simp only [Oper.uponIn]
    case value u =>
      obtain ⟨e1, e2⟩ := h3
      rw [e1, e2]
      exact h _ _ hw h2
    case skip =>
      obtain ⟨e1, e2⟩ := h3
      rw [e1, ← e2]
      exact h _ _ hw h2
    case enter f args =>
      obtain ⟨e1, hd, hc⟩ := h3
      rw [e1]
      exact ⟨hd, hc.mono fun e w'' ⟨he, hw''⟩ => by subst he; exact h _ _ hw'' h2⟩
  | halt x w' => simp only [Oper.quietUponIn] at h3

theorem wpOpIn_of_qOpInR {i : Nat} {a : Act} {K : Act → Prop} {K' : Act → World → Prop} {Q' : Exit → Act → World → Prop} {w : World} (hsem : ∀ o, ops[i]? = some o → ∀ ρ, Oper.semAt F.round ρ o = execOp ρ o) (hC : C w) (h : ∀ a w', C w' → K a → K' a w')
    (hh : qOpIn F n P ops C i K a) : wpOpIn F n P ops Q' i K' a w := by
  unfold qOpIn at hh
  unfold wpOpIn
  split
  · rename_i ho; simp only [ho] at hh; exact h _ _ hC hh
  · rename_i o ho
    simp only [ho] at hh
    obtain ⟨ha, hh⟩ := hh
    split
    · rename_i hw; simp only [hw, if_true] at hh; exact Oper.wpIn_of_quietR (hsem o ho) hC h ha hh
    · rename_i hw; simp only [hw] at hh; exact ⟨ha w hC, h _ _ hC hh⟩

theorem wpAnyIn_of_quietR {Q : Act → Prop} {Q' : Exit → Act → World → Prop} (hsem : ∀ (i : Nat) (o : Oper), ops[i]? = some o → ∀ ρ, Oper.semAt F.round ρ o = execOp ρ o) (hQ : ∀ a w, C w → Q a → Q' .normal a w) : ∀ (fuel : Nat) (listed : Array Bool) (a : Act) (w : World), C w →
    wpAnyQIn F n P md ops C Q fuel listed a → wpAnyIn F n P md ops Q' fuel listed a w
  | 0, _, _, _, hw, h => ⟨h.1, hQ _ _ hw h.2⟩
  | fuel + 1, _, _, _, hw, h => ⟨fun h0 => hQ _ _ hw (h.1 h0), fun i hi => wpOpIn_of_qOpInR (hsem i) hw (fun a' w' hw' => wpAnyIn_of_quietR hsem hQ fuel _ a' w' hw') (h.2 i hi)⟩

/-- One walk in the text's order serves every order, in a round too. -/
theorem wpIn_region_quietR {r id : Nat} {Q : Exit → Act → World → Prop} {a : Act} {w : World} {l : List Oper} (hd : l.all Oper.noDefer = true) (hm : P.follows .mixedOrders = true) (hB : Region.lexB .any l.toArray = true)
    (h : wpQuietIn (F.inRound r) n P l.toArray (fun w' => ∃ n, w' = w.drewN n) (fun a' => ∀ w', (∃ n, w' = w.drewN n) → Q .normal a' w') l a) : (Code.region id l.toArray true).wpIn (F.inRound r) n P Q a w := by
  simp only [Region.lexB, Bool.and_eq_true] at hB
  have hsem : ∀ (i : Nat) (o : Oper), l.toArray[i]? = some o → ∀ ρ, Oper.semAt (F.inRound r).round ρ o = execOp ρ o := fun i o ho ρ => by
    have hm : o ∈ l := List.mem_of_getElem? (i := i) (by simpa using ho)
    exact Oper.semAt_some r ρ o (Oper.noDefer_ne (List.all_eq_true.1 hd o hm))
  refine wpIn_region_any hm (wpAnyIn_of_quietR (C := fun w' => ∃ n, w' = w.drewN n) (Q := fun a' => ∀ w', (∃ n, w' = w.drewN n) → Q .normal a' w') hsem (fun _ w' hw' h => h w' hw') _ _ _ _ ⟨1, rfl⟩ ?_)
  have := wpAnyQIn_lex (F := F.inRound r) (n := n) (C := fun w' => ∃ n, w' = w.drewN n) (md := .any) hB.1 l.toArray.toList 0 (Array.replicate l.toArray.size false) a (by simp) (by simpa using hB.2) (by simpa using h)
  simpa using this
end
end Go

/-! Package graph: Components. -/
namespace Go.Proofs.YthaampinmelgaaaGreatDoor
open Go.RowKit Go.Shelf

attribute [local go_sem] Oper.semAt_some

theorem add_zero' (a : Addr) : a.add 0 = a := by unfold Addr.add; simp
theorem below_succ {p : Nat → Prop} {k : Nat} (h : ∀ j, j < k → p j) (h2 : p k) : ∀ j, j < k + 1 → p j := fun j hj => by
  by_cases e : j = k
  · exact e ▸ h2
  · exact h j (by omega)
theorem keeps_drewN (B : Nat) (W : World) (k : Nat) : KeepsFrom B W (W.drewN k) := ⟨Nat.le_refl _, fun _ _ _ h _ => h⟩
theorem succ_val (k : Nat) : Value.int .i64 ((k : Int) + 1) = .int .i64 ((k + 1 : Nat) : Int) := by go_num

set_option maxRecDepth 100000
set_option maxHeartbeats 16000000
theorem components_ok (B : Nat) (w : World) (v : Value) (n : Nat) (exit : Int) (E : List (Nat × Nat)) (hv : Edges B w v (castE E)) (hB : B ≤ w.heap.size) (hg : GOk n exit E) (k : Nat) (t : List Bool × List Nat) (r : List Bool × List (List Nat))
    (hd : foldO (dfsV (shapeOf n E).next (-1) k) (List.range n) (List.replicate n false, []) = some t) (hlen : t.2.length ≤ 100000) (hord : ∀ x ∈ t.2, x < n)
    (hgl : ∀ (sn : List Bool) (p : Nat) (u : List Bool × List Nat), sn.length = n → grpV ((shapeOf n E).rev 0).next k (sn, []) p = some u → u.2.length ≤ 1000000) (hr : grpsF ((shapeOf n E).rev 0).next k n t.2 = some r) (hrn : r.2.Nodup) (hr0 : 0 < r.2.length)
    (hgn : ∀ g ∈ sortG r.2, g ≠ []) (hgx : ∀ g ∈ sortG r.2, ∀ x ∈ g, x < n) :
    Calls Tryz.prog 7 #[.agg #[.int .i64 (n : Int), .int .i64 exit, v]] w fun en w' => ∃ vo, en = .returned (.tuple #[vo, .int .i64 0]) ∧ Ints w'.heap.size w' vo (compF (shapeOf n E) (sortG r.2)) ∧ Below w.heap.size w w' := by
  obtain ⟨A, c, rfl, hlc, -, hm, hes⟩ := id hv.shape
  have hcheck := fun w1 (h1 : Below w.heap.size w w1) => check_any B w1 n exit _ _ (hv.below (h1.mono hB)) (by have := h1.size; omega)
  have hnew := fun w1 (h1 : Below w.heap.size w w1) => newShape_any B w1 n exit _ E (hv.below (h1.mono hB)) (by have := h1.size; omega) hg.n512 hg.lt hg.len
  rw [hg.chk] at hcheck
  have HC := Lib.hid hcheck
  have HN := Lib.hid hnew
  have HG := Lib.hid hg
  have hn512 := hg.n512
  have hn1 := hg.n1
  have hgroups := fun (w2 : World) (sa : Nat) (hs : IsShape w2.heap.size w2 sa (shapeOf n E)) => groups_any w2.heap.size w2 sa n exit E hs (Nat.le_refl _) hg k t r hd hlen hord hgl hr hrn hr0
  have HGR := Lib.hid hgroups
  have HGN := Lib.hid hgn
  have HGX := Lib.hid hgx
  clear hcheck hnew hg hes hv hlc hgroups hd hgl hr hgn hgx
  have hmk := make_one (P := Tryz.prog) 31 3 (.int .i64 0) 8 Tryz.underlying31 info_int rfl n (by omega) (by omega)
  generalize sortG r.2 = gs at HGR HGN HGX ⊢
  clear hrn hr0
  refine (callsIn_wide (n := 5)).1 (callsIn_of_wp_marks Tryz.func7 rfl trivial (wpIn_wide.2 ?_) rfl)
  simp only [Tryz.ntmps7, List.size_toArray, List.length_cons, List.length_nil, Nat.reduceAdd, Nat.reduceSub, Array.replicate_succ, Array.replicate_zero, List.push_toArray, List.append_toArray, List.nil_append, List.cons_append]
  go_upto_region 4 with (go_at_call 23; refine (HC.out _ ((Below.refl _ _).alloc (Nat.le_refl _) _)).mono ?_; rintro en w1 ⟨rfl, hb1⟩)
  have hb2 : Below w.heap.size w w1 := ((Below.refl _ w).alloc (Nat.le_refl _) _).trans (hb1.mono (by rw [World.size_alloc]; omega))
  have hgc : w1.cell? ⟨w.heap.size, 0, none⟩ = some (.int .i64 (n : Int)) ∧ w1.cell? ⟨w.heap.size, 1, none⟩ = some (.int .i64 exit) ∧ w1.cell? ⟨w.heap.size, 2, none⟩ = some (.slice A (castE E).length c) := by
    have hblk := (Blk.newAt w 24 #[.int .i64 (n : Int), .int .i64 exit, .slice A (castE E).length c] rfl).below hb1 (by rw [World.size_alloc]; omega)
    exact ⟨hblk.cellAt rfl, hblk.cellAt rfl, hblk.cellAt rfl⟩
  obtain ⟨hg0, hg1, hg2⟩ := hgc
  clear hb1
  go_upto_region 5 with (go_at_call 24; refine (HN.out _ hb2).mono ?_; rintro en w2 ⟨sb, rfl, hsh, hb3⟩)
  have hb4 := hb2.trans (hb3.mono hb2.size)
  clear hg0 hg1 hg2 hb3
  go_upto_region 6 with (go_at_call 25; refine (HGR.out w2 sb hsh).mono ?_; rintro en w3 ⟨vg, rfl, hgv, hb5⟩)
  obtain ⟨hsa, vf, vt, vo, vi, hblk, -, -, -, -⟩ := id hsh
  have hblk3 := hblk.below hb5 hsa
  have d0 := hblk3.cellAt (i := 0) rfl
  simp only [shapeOf] at d0
  have hsz : sb < w3.heap.size := hblk3.lt
  have n0 : w3.heap.size ≠ sb := by omega
  have n1 : w3.heap.size + 1 ≠ sb := by omega
  have n2 : w3.heap.size + 1 + 1 ≠ sb := by omega
  have n3 : w3.heap.size + 1 + 1 + 1 ≠ sb := by omega
  clear hblk3 hblk
  have hgv3 : Natss w3.heap.size w3 vg gs := hgv
  clear hgv
  go_cut [7, 8] from 30 to 40 (fun s7 s8 wx => ∃ a7 a8 go gn, s7 = .pointer (some ⟨a7, 0, none⟩) ∧ s8 = .pointer (some ⟨a8, 0, none⟩) ∧ CS w3 wx a7 a8 go gn n (List.replicate n 0) (List.replicate n (-1)))
  case first =>
    go_region_held3 (fun w' => w'.cell? ⟨sb, 0, none⟩ = some (.int .i64 (n : Int))) (simp (maxDischargeDepth := 12) [*, World.cell?_alloc_some, World.cell?_setCell_far]) ((go_at_call 26; refine (repeat_any _ _ (-1) n hn1 (by omega) (by first | exact Blk.newAt _ _ _ (by simp) | exact (Blk.newAt _ _ _ (by simp)).alloc _ | exact ((Blk.newAt _ _ _ (by simp)).alloc _).alloc _ | exact (((Blk.newAt _ _ _ (by simp)).alloc _).alloc _).alloc _)).mono ?_; rintro en w5 ⟨g5, rfl, hg5, hgs5, hb5'⟩; obtain ⟨hcc, hff⟩ := bcell hb5'; have hcs : w5.cell? ⟨sb, 0, none⟩ = some (.int .i64 (n : Int)) := (hcc sb 0 (by simp; omega)).trans (by simp (maxDischargeDepth := 12) [*]); have hz5 := hb5'.size; simp only [World.size_alloc, World.size_drew] at hz5; have z0 : w3.heap.size < w5.heap.size := (by omega); (try have z1 : w3.heap.size + 1 < w5.heap.size := (by omega)); (try have z2 : w3.heap.size + 1 + 1 < w5.heap.size := (by omega)); (try have z3 : w3.heap.size + 1 + 1 + 1 < w5.heap.size := (by omega)); have zs : sb < w5.heap.size := (by omega); have y0 : w5.heap.size ≠ sb := (by omega); have y1 : w5.heap.size + 1 ≠ sb := (by omega); have y2 : w5.heap.size + 1 + 1 ≠ sb := (by omega)))
    all_goals
      go_wp2_with fail
      go_meet
      apply Exists.intro; apply Exists.intro; apply Exists.intro; apply Exists.intro
      refine ⟨rfl, rfl, ?_⟩
      apply CS.start
      all_goals (repeat (first
        | (with_reducible exact hg5)
        | (with_reducible exact Below.refl _ _)
        | (with_reducible refine Blk.drew ?_)
        | (with_reducible refine Below.drew ?_)
        | (with_reducible refine Blk.new1 ?_; (first | rfl | (simp; done)))
        | (with_reducible refine Blk.newA ?_; (first | rfl | (simp; done)))
        | (with_reducible refine Blk.set1 (u0 := .slice none 0 0) ?_)
        | (with_reducible refine Blk.alloc ?_ _)
        | (with_reducible refine Blk.far ?_ ?_ _; rotate_left; focus (first | (simp; done) | (simp; omega) | (have q1 := hgs5; simp only [World.size_alloc, World.size_drew] at q1; simp; omega)))
        | (with_reducible refine Blk.below ?_ hb5' ?_; rotate_left; focus (first | omega | (simp; done) | (simp; omega)))
        | (with_reducible refine Below.alloc ?_ ?_ _; rotate_left; focus (first | omega | (simp; done) | (simp; omega)))
        | (with_reducible refine Below.setCell ?_ ?_ _; rotate_left; focus (first | omega | (simp; done) | (simp; omega)))
        | (with_reducible refine Below.trans ?_ (Below.mono hb5' ?_); rotate_left; focus (first | omega | (simp; done) | (simp; omega)))
        | (have q1 := hgs5; have q2 := hg5.lt; simp only [World.size_alloc, World.size_drew] at q1; omega)))
  case rest =>
    obtain ⟨a7, a8, go, gn, rfl, rfl, hcs⟩ := hcut
    obtain ⟨Ag, cg, rfl, -, -, hmg, -⟩ := Sl.shape hgv3
    rw [← ofP_zero n gs] at hcs
    clear d0 hmk n0 n1 n2 n3
    generalize (castE E).length = le
    go_wp2
    go_loopw [43] (fun y wr => ∃ m : Nat, m ≤ gs.length ∧ y = .int .i64 m ∧ CS w3 wr a7 a8 go gn n (ofP n gs m) (List.replicate n (-1))) (fun y _ => gs.length - (intOf y).toNat)
    case atStart => exact ⟨0, Nat.zero_le _, rfl, hcs⟩
    case round =>
      obtain ⟨m, hm, rfl, hc1⟩ := hrel
      clear hcs
      by_cases hlt : m < gs.length
      · have hlt1 : (m : Int) < (gs.length : Int) := by omega
        obtain ⟨ad, Ak, ck, rfl, hab, hac, hnk, hmk⟩ := Natss.at hgv3 hlt
        have hac' := (hc1.bel.cell (p := ad.add m) (by rw [block_add]; exact hab)).trans hac
        have hof := ofP_succ n gs m hlt
        have hgx := HGX.out _ (List.getElem_mem hlt)
        have hmem : m < 9223372036854775807 := by omega
        clear hac
        revert hof hgx hac' hnk hmk
        generalize gs[m] = g
        intro hnk hmk hac' hof hgx
        have HOF := Lib.hid hof
        have HX := Lib.hid hgx
        have HNK := Lib.hid hnk
        clear hof hgx hnk
        go_wp2
        obtain ⟨w7, rfl⟩ : ∃ w7 : World, w7 = wr := ⟨_, rfl⟩
        go_loopw [50] (fun y wr => ∃ j : Nat, j ≤ g.length ∧ y = .int .i64 j ∧ CS w3 wr a7 a8 go gn n (fillOf (ofP n gs m) (g.take j) m) (List.replicate n (-1))) (fun y _ => g.length - (intOf y).toNat)
        case atStart => exact ⟨0, Nat.zero_le _, rfl, hc1⟩
        case round =>
          obtain ⟨j, hj, rfl, hc2⟩ := hrel
          clear hc1 hac'
          by_cases hjl : j < g.length
          · have hjl1 : (j : Int) < (g.length : Int) := by omega
            obtain ⟨ad2, rfl, hab2, hac2⟩ := Nats.at HNK.out hjl
            have hgd : g.getD j 0 = g[j] := by rw [List.getD_eq_getElem?_getD, List.getElem?_eq_getElem hjl]; rfl
            rw [hgd] at hac2
            have hac3 := (hc2.bel.cell (p := ad2.add j) (by rw [block_add]; exact hab2)).trans hac2
            have hfs := fillOf_succ (ofP n gs m) g m j hjl
            have hpn := HX.out _ (List.getElem_mem hjl)
            clear hgd hac2
            revert hac3 hfs hpn
            generalize g[j] = p
            intro hac3 hfs hpn
            have c7 := hc2.v7.cellAt (i := 0) rfl
            have cp := hc2.ofCell hpn
            have fp := hc2.o.frozen p
            have hpn1 : (p : Int) < (n : Int) := by omega
            have hst := hc2.setOf p m
            rw [← hfs] at hst
            have HST := Lib.hid hst
            clear hfs hst
            go_wp2
            go_roundw
            case rel => exact ⟨j + 1, by omega, by go_num, HST.out⟩
            case measure => simp [intOf]; omega
          · obtain rfl : j = g.length := by omega
            rw [List.take_length, ← HOF.out] at hc2
            go_wp2
            go_roundw
            case rel => exact ⟨m + 1, by omega, by go_num, hc2⟩
            case measure => simp [intOf]; omega
      · obtain rfl : m = gs.length := by omega
        rw [ofP_all] at hc1
        have hcs3 : CS w3 wr a7 a8 go gn n (ofF n gs) (numAt (shapeOf n E) gs 0) := hc1
        have hsh3 : IsShape w3.heap.size w3 sb (shapeOf n E) := (hsh.below hb5).more hb5.size
        have HSH := Lib.hid hsh3
        clear hc1 hsh hsh3
        go_wp2
        refine wp_loop_defs (D0 := []) (fun kx T Ds W => ∃ cnt : Nat, cnt ≤ gs.length ∧ kx = gs.length - cnt ∧ IsF3 (.pointer (some ⟨sb, 0, none⟩)) (.slice Ag gs.length cg) (.pointer (some ⟨a7, 0, none⟩)) (.pointer (some ⟨a8, 0, none⟩)) (.int .i64 cnt) T ∧
          CS w3 W a7 a8 go gn n (ofF n gs) (numAt (shapeOf n E) gs cnt) ∧ DsOk w3.heap.size Ds W) gs.length ⟨0, Nat.zero_le _, rfl, ⟨rfl, rfl, rfl, rfl, rfl, rfl⟩, hcs3, DsOk.nil _ _⟩ ?_
        rintro kx T Ds W ⟨cnt, hcnt, rfl, hF, hc3, hds⟩ K3 hK3
        clear hcs3
        have HK3 := Lib.hid hK3
        clear hK3
        obtain ⟨u, rfl⟩ := hF.out
        by_cases hcl : cnt < gs.length
        · have hcl1 : (cnt : Int) < (gs.length : Int) := by omega
          clear hF
          go_wp2
          go_step3
          go_wp2
          go_step3
          go_wp2
          refine wp_loop_defs (D0 := Ds) (fun kx T Ds W => ∃ kk : Nat, kk ≤ gs.length ∧ kx = gs.length - kk ∧
            IsF4 (.pointer (some ⟨sb, 0, none⟩)) (.slice Ag gs.length cg) (.pointer (some ⟨a7, 0, none⟩)) (.pointer (some ⟨a8, 0, none⟩)) (.int .i64 cnt) (.slice Ag gs.length cg) (.int .i64 gs.length) (.int .i64 kk) T ∧
            CS w3 W a7 a8 go gn n (ofF n gs) (numAt (shapeOf n E) gs cnt) ∧ DsOk w3.heap.size Ds W ∧ ∀ j, j < kk → freeF (shapeOf n E) (ofF n gs) gs (numAt (shapeOf n E) gs cnt) j = false) gs.length
            ⟨0, Nat.zero_le _, rfl, ⟨rfl, rfl, rfl, rfl, rfl, rfl, rfl, rfl, rfl⟩, hc3, hds, fun j hj => absurd hj (Nat.not_lt_zero j)⟩ ?_
          rintro kx T Ds W ⟨kk, hkk, rfl, hF, hc4, hds, hfr⟩ K4 hK4
          have HK4 := Lib.hid hK4
          have HFR := Lib.hid hfr
          clear hK4 hc3 hfr
          obtain ⟨u, rfl⟩ := hF.out
          clear hF
          by_cases hkl : kk < gs.length
          · have hkl1 : (kk : Int) < (gs.length : Int) := by omega
            obtain ⟨ad, Ak, ck, rfl, hab, hac, hnk, hmk⟩ := Natss.at hgv3 hkl
            have hac' := (hc4.bel.cell (p := ad.add kk) (by rw [block_add]; exact hab)).trans hac
            have hgx := HGX.out _ (List.getElem_mem hkl)
            have hgn := HGN.out _ (List.getElem_mem hkl)
            have hget : gs[kk]? = some gs[kk] := List.getElem?_eq_getElem hkl
            clear hac
            revert hget hgx hgn hac' hnk hmk
            generalize gs[kk] = g
            intro hnk hmk hac' hgx hgn hget
            have hg0 : 0 < g.length := List.length_pos_iff.2 hgn
            obtain ⟨adk, rfl, habk, hack⟩ := Nats.at hnk hg0
            have hgd : g.getD 0 0 = g[0] := by rw [List.getD_eq_getElem?_getD, List.getElem?_eq_getElem hg0]; rfl
            have hp0 : g.getD 0 0 < n := by rw [hgd]; exact hgx _ (List.getElem_mem hg0)
            have hfree := freeF_at (s := shapeOf n E) (ofs := ofF n gs) (num := numAt (shapeOf n E) gs cnt) hget
            clear hgd hgn
            revert hp0 hack hfree
            generalize g.getD 0 0 = p0
            intro hack hp0 hfree
            have hc5 := hc4.alloc (.cells #[.int .i64 (kk : Int)] 3)
            have c8 := hc5.v8.cellAt (i := 0) rfl
            have cn := hc5.numCell hp0
            have hp01 : (p0 : Int) < (n : Int) := by omega
            have hack2 := (hc5.bel.cell (p := adk.add 0) (by rw [block_add]; exact habk)).trans hack
            rw [add_zero'] at hack2
            have HX := Lib.hid hgx
            have HNK := Lib.hid hnk
            have HFE := Lib.hid hfree
            have HGET := Lib.hid hget
            clear hgx hnk hfree hget hack
            rcases Int.lt_or_le (getI (numAt (shapeOf n E) gs cnt) p0) 0 with hneg | hpos
            · have hdec : decide (0 ≤ getI (numAt (shapeOf n E) gs cnt) p0) = false := by simpa using hneg
              have hnn : ¬ (0 ≤ getI (numAt (shapeOf n E) gs cnt) p0) := by omega
              have HNEG := Lib.hid hneg
              clear hneg
              go_upto_region 22 with fail
              go_quiet (fail)
              go_wp2
              have hb14 := (Blk.new W 3 [.int .i64 (kk : Int)]).drewN nq
              have hc7 := hc5.drewN nq
              have hd7 := (hds.alloc (.cells #[.int .i64 (kk : Int)] 3)).drewN nq
              have h14 : w3.heap.size ≤ W.heap.size := hc4.bel.size
              clear hc5 c8 cn hack2 hac' hc4 hds
              revert hb14 hc7 hd7
              generalize (W.alloc (.cells #[.int .i64 (kk : Int)] 3)).drewN nq = W7
              generalize W.heap.size = a14 at h14
              intro hb14 hc7 hd7
              refine wp_loop_defs (D0 := Ds) (fun kx T Ds W' => ∃ j : Nat, j ≤ g.length ∧ kx = g.length - j ∧
                IsF5 (.pointer (some ⟨sb, 0, none⟩)) (.slice (some ad) gs.length cg) (.pointer (some ⟨a7, 0, none⟩)) (.pointer (some ⟨a8, 0, none⟩)) (.int .i64 cnt) (.pointer (some ⟨a14, 0, none⟩)) (.slice (some adk) g.length ck) (.slice (some ad) gs.length cg) (.int .i64 gs.length) (.int .i64 kk) (.slice (some adk) g.length ck) (.int .i64 g.length) (.int .i64 j) T ∧
                CS w3 W' a7 a8 go gn n (ofF n gs) (numAt (shapeOf n E) gs cnt) ∧ DsOk w3.heap.size Ds W' ∧ Blk W' a14 3 [.int .i64 (kk : Int)] ∧ (g.take j).any (blockP (shapeOf n E) (ofF n gs) (numAt (shapeOf n E) gs cnt) kk) = false) g.length
                ⟨0, Nat.zero_le _, rfl, ⟨rfl, rfl, rfl, rfl, rfl, rfl, rfl, rfl, rfl, rfl, rfl, rfl, rfl, rfl⟩, hc7, hd7, hb14, rfl⟩ ?_
              rintro kx T Ds W ⟨j, hj, rfl, hF, hc8, hds, hb8, hnb⟩ K5 hK5
              have HK5 := Lib.hid hK5
              have HNB := Lib.hid hnb
              clear hK5 hnb hc7 hd7 hb14
              obtain ⟨u, rfl⟩ := hF.out
              clear hF
              by_cases hjl : j < g.length
              · have hjl1 : (j : Int) < (g.length : Int) := by omega
                obtain ⟨ad2, he2, hab2, hac2⟩ := Nats.at HNK.out hjl
                cases he2
                have hgd : g.getD j 0 = g[j] := by rw [List.getD_eq_getElem?_getD, List.getElem?_eq_getElem hjl]; rfl
                rw [hgd] at hac2
                have hac3 := (hc8.bel.cell (p := adk.add j) (by rw [block_add]; exact hab2)).trans hac2
                have hpn := HX.out _ (List.getElem_mem hjl)
                have hnx := any_take_succ' (f := blockP (shapeOf n E) (ofF n gs) (numAt (shapeOf n E) gs cnt) kk) hjl HNB.out
                have hyx := any_of_get (f := blockP (shapeOf n E) (ofF n gs) (numAt (shapeOf n E) gs cnt) kk) hjl
                clear hgd hac2
                revert hac3 hpn hnx hyx
                generalize g[j] = p
                intro hac3 hpn hnx hyx
                have HNX := Lib.hid hnx
                have HYX := Lib.hid hyx
                clear hnx hyx
                go_wp2_with (go_at_call 27; refine (next_any _ _ _).mono ?_; rintro en w1 ⟨rfl, rfl⟩)
                refine wpIn_wide (n := 5).1 ?_
                have HBs := Lib.hid ((Blk.new W 67 [.pointer (some ⟨sb, 0, none⟩)]).alloc (.cells #[.int .i64 (p : Int)] 3))
                have HBp := Lib.hid (Blk.new (W.alloc (.cells #[.pointer (some ⟨sb, 0, none⟩)] 67)) 3 [.int .i64 (p : Int)])
                rw [World.size_alloc] at HBp
                have hc9 := (hc8.alloc (.cells #[.pointer (some ⟨sb, 0, none⟩)] 67)).alloc (.cells #[.int .i64 (p : Int)] 3)
                have hd9 := (hds.alloc (.cells #[.pointer (some ⟨sb, 0, none⟩)] 67)).alloc (.cells #[.int .i64 (p : Int)] 3)
                have hb9 := (hb8.alloc (.cells #[.pointer (some ⟨sb, 0, none⟩)] 67)).alloc (.cells #[.int .i64 (p : Int)] 3)
                have hlw : w3.heap.size ≤ W.heap.size := hc8.bel.size
                obtain ⟨W0, hW0⟩ : ∃ W0, W0 = (W.alloc (.cells #[.pointer (some ⟨sb, 0, none⟩)] 67)).alloc (.cells #[.int .i64 (p : Int)] 3) := ⟨_, rfl⟩
                have hs0 : W0.heap.size = W.heap.size + 2 := by rw [hW0]; simp
                rw [← hW0] at HBs HBp hc9 hd9 hb9 ⊢
                clear hW0 hc8 hds hb8 hac3
                have hpl : p < (shapeOf n E).out.length := by simp [shapeOf]; exact hpn
                have hdlt := hd9.lt
                have hnl := next_list 4 (by omega) W.heap.size (W.heap.size + 1) w3.heap.size sb p (shapeOf n E) hpl HG.out.shapeOk.hto W0 HBs.out HBp.out (HSH.out.below hc9.bel) (by omega)
                have HNL := Lib.hid hnl
                have HS0 := Lib.hid hs0
                clear hnl hs0
                refine wpIn_range_upd ((shapeOf n E).next p) rfl (by omega) rfl trivial (enters_of Tryz.func48 (by kernel_rfl) rfl)
                  HNL.out (fun h k => h.trans k)
                  (fun W l o o' hl h _ _ => NextKp.book (B := W0.heap.size) (by have := HS0.out; omega) (by have := HS0.out; omega) (by have := HS0.out; omega) W l o o' hl h) (Below.refl _ _) (fun _ => rfl)
                  (fun pre W => pre.any (badP (ofF n gs) (numAt (shapeOf n E) gs cnt) kk) = false ∧ CS w3 W a7 a8 go gn n (ofF n gs) (numAt (shapeOf n E) gs cnt) ∧ DsOk w3.heap.size Ds W ∧ Blk W a14 3 [.int .i64 (kk : Int)])
                  (fun c pre W => c = .exit 7 ∧ pre.any (badP (ofF n gs) (numAt (shapeOf n E) gs cnt) kk) = true ∧ CS w3 W a7 a8 go gn n (ofF n gs) (numAt (shapeOf n E) gs cnt) ∧ DsOk w3.heap.size Ds W ∧ Blk W a14 3 [.int .i64 (kk : Int)]) ?hI ?hIx ⟨rfl, hc9, hd9, hb9⟩
                  (fun x a => { (a.put (some 89) (.int .i64 (x : Int))).put (some 18) (.int .i64 (x : Int)) with defers := [] }) ?assign ?body ?done ?stop
                case hI =>
                  rintro pre W W' row ⟨h1, h2, h3, h4⟩ hg hrow
                  exact ⟨h1, keepCS h2 h3 h4 hg hrow hdlt (by have := HS0.out; omega)⟩
                case hIx =>
                  rintro c pre W W' row ⟨h0, h1, h2, h3, h4⟩ hg hrow
                  exact ⟨h0, h1, keepCS h2 h3 h4 hg hrow hdlt (by have := HS0.out; omega)⟩
                case assign =>
                  intro l x W K hK
                  gi_wp2
                  simpa [Act.put] using hK
                case body =>
                  rintro l pre q post W hys hWs ⟨h1, h2, h3, h4⟩
                  have hqn : q < n := HG.out.next_lt p hpn q (by rw [hys]; simp)
                  have hqn1 : (q : Int) < (n : Int) := by omega
                  have c7 := h2.v7.cellAt (i := 0) rfl
                  have c8 := h2.v8.cellAt (i := 0) rfl
                  have c14 := h4.cellAt (i := 0) rfl
                  have co := h2.ofCell hqn
                  have cn := h2.numCell hqn
                  have HH1 := Lib.hid h1
                  have HH2 := Lib.hid h2
                  have HH3 := Lib.hid h3
                  have HH4 := Lib.hid h4
                  have HQ := Lib.hid hys
                  clear h1 h2 h3 h4 hys
                  revert co cn
                  obtain ⟨oq, hoq⟩ : ∃ oq, oq = (ofF n gs).getD q 0 := ⟨_, rfl⟩
                  obtain ⟨nq, hnq⟩ : ∃ nq, nq = getI (numAt (shapeOf n E) gs cnt) q := ⟨_, rfl⟩
                  have hbadq : badP (ofF n gs) (numAt (shapeOf n E) gs cnt) kk q = (decide (oq ≠ kk) && decide (nq < 0)) := by rw [hoq, hnq]; rfl
                  rw [← hoq, ← hnq]
                  intro co cn
                  by_cases ho : oq = kk
                  · have hbad : badP (ofF n gs) (numAt (shapeOf n E) gs cnt) kk q = false := by rw [hbadq, decide_eq_false (fun h => h ho)]; rfl
                    have HBAD := Lib.hid hbad
                    clear hbad hbadq hoq hnq
                    subst ho
                    gi_wp2_with fail
                    refine wpIn_region_quietR (by kernel_rfl) (by kernel_rfl) (by kernel_rfl) ?_
                    repeat (gi_big_quiet_step (fail))
                    refine wpQuietIn_nil ?_
                    intro _ hw'
                    obtain ⟨nn, rfl⟩ := hw'
                    gi_wp2
                    exact ⟨keeps_drewN _ _ _, ⟨below_drewN' (Below.refl _ _) _, rfl, rfl⟩, any_snoc HH1.out HBAD.out, HH2.out.drewN _, HH3.out.drewN _, HH4.out.drewN _⟩
                  · have g1 : ((oq : Int) != (kk : Int)) = true := by simp; omega
                    have g2 : (oq == kk) = false := by simpa using ho
                    have g3 : ((oq : Int) == (kk : Int)) = false := by simp; omega
                    have g4 : ¬ ((oq : Int) = (kk : Int)) := by omega
                    rcases Int.lt_or_le nq 0 with hlt0 | hge0
                    · have hbad : badP (ofF n gs) (numAt (shapeOf n E) gs cnt) kk q = true := by rw [hbadq, decide_eq_true ho, decide_eq_true hlt0]; rfl
                      have hd1 : decide (nq < 0) = true := decide_eq_true hlt0
                      have HBAD := Lib.hid hbad
                      clear hbad hbadq hoq hnq
                      gi_wp2_with fail
                      refine wpIn_region_quietR (by kernel_rfl) (by kernel_rfl) (by kernel_rfl) ?_
                      repeat (gi_big_quiet_step (fail))
                      refine wpQuietIn_nil ?_
                      intro _ hw'
                      obtain ⟨nn, rfl⟩ := hw'
                      gi_wp2
                      exact ⟨keeps_drewN _ _ _, rfl, any_snoc HH1.out HBAD.out, HH2.out.drewN _, HH3.out.drewN _, HH4.out.drewN _⟩
                    · have hbad : badP (ofF n gs) (numAt (shapeOf n E) gs cnt) kk q = false := by rw [hbadq, decide_eq_true ho, decide_eq_false (by omega)]; rfl
                      have hd1 : decide (nq < 0) = false := decide_eq_false (by omega)
                      have HBAD := Lib.hid hbad
                      clear hbad hbadq hoq hnq
                      gi_wp2_with fail
                      refine wpIn_region_quietR (by kernel_rfl) (by kernel_rfl) (by kernel_rfl) ?_
                      repeat (gi_big_quiet_step (fail))
                      refine wpQuietIn_nil ?_
                      intro _ hw'
                      obtain ⟨nn, rfl⟩ := hw'
                      gi_wp2
                      exact ⟨keeps_drewN _ _ _, ⟨below_drewN' (Below.refl _ _) _, rfl, rfl⟩, any_snoc HH1.out HBAD.out, HH2.out.drewN _, HH3.out.drewN _, HH4.out.drewN _⟩
                case done =>
                  rintro D W hD ⟨h1, h2, h3, h4⟩ hdef
                  have hD3 : w3.heap.size ≤ D := by have := HS0.out; omega
                  go_wp2
                  refine HK5.out (g.length - (j + 1)) _ (D :: Ds) _ (by omega) ?_
                  exact ⟨j + 1, by omega, rfl, ⟨rfl, rfl, rfl, rfl, rfl, rfl, rfl, rfl, rfl, rfl, rfl, rfl, rfl, succ_val j⟩, h2, h3.cons hdef hD3 (fun D' h' => by have := hdlt D' h'; omega), h4, HNX.out h1⟩
                case stop =>
                  rintro D c pre post W hD hpp ⟨rfl, h1, h2, h3, h4⟩ hdef
                  have hD3 : w3.heap.size ≤ D := by have := HS0.out; omega
                  have hbl : blockP (shapeOf n E) (ofF n gs) (numAt (shapeOf n E) gs cnt) kk p = true := by unfold blockP; rw [hpp, List.any_append, h1]; rfl
                  have hff : freeF (shapeOf n E) (ofF n gs) gs (numAt (shapeOf n E) gs cnt) kk = false := by rw [HFE.out, HYX.out hbl]; simp
                  have HFF := Lib.hid hff
                  have HPP := Lib.hid hpp
                  have HH1 := Lib.hid h1
                  clear hff hbl h1 hpp
                  refine wpIn_wide.2 ?_
                  go_wp2
                  refine HK4.out (gs.length - (kk + 1)) _ (D :: Ds) _ (by omega) ?_
                  exact ⟨kk + 1, by omega, rfl, ⟨rfl, rfl, rfl, rfl, rfl, rfl, rfl, rfl, succ_val kk⟩, h2, h3.cons hdef hD3 (fun D' h' => by have := hdlt D' h'; omega), below_succ HFR.out HFF.out⟩
              · obtain rfl : j = g.length := by omega
                have hnb := HNB.out
                rw [List.take_length] at hnb
                have hff : freeF (shapeOf n E) (ofF n gs) gs (numAt (shapeOf n E) gs cnt) kk = true := by rw [HFE.out, hnb, decide_eq_true HNEG.out]; rfl
                have hrs := round_some cnt HGET.out HFR.out hff
                have hns := numAt_succ (shapeOf n E) gs cnt
                have hn' : (shapeOf n E).n = n := rfl
                rw [hn', hrs] at hns
                have HNS := Lib.hid hns
                clear hnb hff hrs hns hn'
                go_wp2
                obtain ⟨w9, rfl⟩ : ∃ w9 : World, w9 = W := ⟨_, rfl⟩
                go_loopw [106] (fun y wr => ∃ m : Nat, m ≤ g.length ∧ y = .int .i64 m ∧ CS w3 wr a7 a8 go gn n (ofF n gs) (setAll (numAt (shapeOf n E) gs cnt) (g.take m) cnt) ∧ DsOk w3.heap.size Ds wr) (fun y _ => g.length - (intOf y).toNat)
                case atStart => exact ⟨0, Nat.zero_le _, rfl, hc8, hds⟩
                case round =>
                  obtain ⟨m, hm, rfl, hc10, hd10⟩ := hrel
                  clear hc8 hds hb8
                  by_cases hml : m < g.length
                  · have hml1 : (m : Int) < (g.length : Int) := by omega
                    obtain ⟨ad2, he2, hab2, hac2⟩ := Nats.at HNK.out hml
                    cases he2
                    have hgd : g.getD m 0 = g[m] := by rw [List.getD_eq_getElem?_getD, List.getElem?_eq_getElem hml]; rfl
                    rw [hgd] at hac2
                    have hac3 := (hc10.bel.cell (p := adk.add m) (by rw [block_add]; exact hab2)).trans hac2
                    have hpn := HX.out _ (List.getElem_mem hml)
                    have hsa := setAll_succ (numAt (shapeOf n E) gs cnt) g cnt m hml
                    clear hgd hac2
                    revert hac3 hpn hsa
                    generalize g[m] = p
                    intro hac3 hpn hsa
                    have c8 := hc10.v8.cellAt (i := 0) rfl
                    have cn := hc10.numCell hpn
                    have fn := hc10.m.frozen p
                    have hpn1 : (p : Int) < (n : Int) := by omega
                    have hst := hc10.setNum p cnt
                    rw [← hsa] at hst
                    have HST := Lib.hid hst
                    clear hst hsa
                    go_wp2
                    go_roundw
                    case rel => exact ⟨m + 1, by omega, by go_num, HST.out, hd10.set hc10.m _⟩
                    case measure => simp [intOf]; omega
                  · obtain rfl : m = g.length := by omega
                    rw [List.take_length, ← HNS.out] at hc10
                    go_wp2
                    try rw [Exit.noGoto_normal]
                    go_wp2
                    refine HK3.out (gs.length - (cnt + 1)) _ Ds _ (by omega) ?_
                    exact ⟨cnt + 1, by omega, rfl, ⟨rfl, rfl, rfl, rfl, rfl, succ_val cnt⟩, hc10, hd10⟩
            · have hdec : decide (0 ≤ getI (numAt (shapeOf n E) gs cnt) p0) = true := by simpa using hpos
              have hff : freeF (shapeOf n E) (ofF n gs) gs (numAt (shapeOf n E) gs cnt) kk = false := by
                rw [HFE.out, decide_eq_false (by omega)]; rfl
              have HFF := Lib.hid hff
              clear hff
              go_upto_region 22 with fail
              go_quiet (fail)
              go_wp2
              refine HK4.out (gs.length - (kk + 1)) _ Ds _ (by omega) ?_
              exact ⟨kk + 1, by omega, rfl, ⟨rfl, rfl, rfl, rfl, rfl, rfl, rfl, rfl, succ_val kk⟩, hc5.drewN _, (hds.alloc _).drewN _, below_succ HFR.out HFF.out⟩
          · obtain rfl : kk = gs.length := by omega
            have hrn := round_none (s := shapeOf n E) cnt HFR.out
            have hns := numAt_succ (shapeOf n E) gs cnt
            have hn' : (shapeOf n E).n = n := rfl
            rw [hn', hrn] at hns
            rw [← hns] at hc4
            clear hns hrn hn'
            go_wp2
            rw [Exit.noGoto_normal]
            go_wp2
            refine HK3.out (gs.length - (cnt + 1)) _ Ds _ (by omega) ?_
            exact ⟨cnt + 1, by omega, rfl, ⟨rfl, rfl, rfl, rfl, rfl, succ_val cnt⟩, hc4, hds⟩
        · obtain rfl : cnt = gs.length := by omega
          have c8 := hc3.v8.cellAt (i := 0) rfl
          clear hF
          go_wp2
          show LeavesInM _ _ _ _ _ _ (collected Ds) .returning _
          refine leaves_collected Ds _ hds.nodup hds.at_ ?_
          intro w' ho
          refine ⟨_, results_tmp2 rfl _ _ _, _, rfl, ?_, ?_⟩
          · have hnot : gn ∉ Ds := fun hm => by
              have h1 := hds.at_ _ hm
              have h2 := hc3.m
              unfold Blk at h2
              rw [h2] at h1
              cases h1
            have hbk := hc3.m.only ho hnot
            have h := Sl.of_blk (R := RInt) (xs := numAt (shapeOf n E) gs gs.length) (c := n) intV (fun _ _ => rfl) hbk (by rw [hc3.ln]; exact Nat.le_refl _) (by unfold maxLen; omega) hbk.lt
            rw [hc3.ln] at h
            exact h
          · have h1 : Below w3.heap.size W w' := ho.below hc3.bel.size (fun b hb hm => by have := hds.lo b hm; omega)
            exact (hb4.trans (hb5.mono hb4.size)).trans ((hc3.bel.trans h1).mono (Nat.le_trans hb4.size hb5.size))
end Go.Proofs.YthaampinmelgaaaGreatDoor
