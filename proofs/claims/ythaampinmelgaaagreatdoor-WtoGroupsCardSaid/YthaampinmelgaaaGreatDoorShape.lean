/- The shape of a graph as it lies in memory, and its iterator 'next': the contract of the closure that it hands back. -/
import Derived.Test.YthaampinmelgaaaGreatDoorPlain1
import Derived.Test.YthaampinmelgaaaGreatDoorBase
import Derived.Test.YthaampinmelgaaaGreatDoorProg
import Derived.Test.YthaampinmelgaaaGreatDoorRange
namespace Go.Proofs.YthaampinmelgaaaGreatDoor
open Go.RowKit

/-- The shape s lies in block a, all of it below block B. -/
def IsShape (B : Nat) (w : World) (a : Nat) (s : Shp) : Prop :=
  a < B ∧ ∃ vf vt vo vi, Blk w a 71 [.int .i64 (s.n : Int), .int .i64 (s.entry : Int), vf, vt, vo, vi] ∧
    Nats B w vf s.sr ∧ Nats B w vt s.tg ∧ Natss B w vo s.out ∧ Natss B w vi s.inn

theorem IsShape.below {B a : Nat} {w w' : World} {s : Shp} (h : IsShape B w a s) (hb : Below B w w') : IsShape B w' a s := by
  obtain ⟨h1, vf, vt, vo, vi, h2, h3, h4, h5, h6⟩ := h
  exact ⟨h1, vf, vt, vo, vi, h2.below hb h1, h3.below hb, h4.below hb, h5.below hb, h6.below hb⟩
theorem IsShape.more {B B' a : Nat} {w : World} {s : Shp} (h : IsShape B w a s) (hB : B ≤ B') : IsShape B' w a s := by
  obtain ⟨h1, vf, vt, vo, vi, h2, h3, h4, h5, h6⟩ := h
  exact ⟨by omega, vf, vt, vo, vi, h2, Sl.more h3 hB, Sl.more h4 hB, h5.more hB, h6.more hB⟩

attribute [local go_sem] Oper.semAt_some

/-- What a round over 'next' must keep. -/
def NextKp (n₀ Bs Bp : Nat) (W W' : World) : Prop := Below n₀ W W' ∧ W'.heap[Bs]? = W.heap[Bs]? ∧ W'.heap[Bp]? = W.heap[Bp]?
theorem NextKp.refl (n₀ Bs Bp : Nat) (W : World) : NextKp n₀ Bs Bp W W := ⟨Below.refl _ _, rfl, rfl⟩
theorem NextKp.trans {n₀ Bs Bp : Nat} {A B C : World} (h : NextKp n₀ Bs Bp A B) (k : NextKp n₀ Bs Bp B C) : NextKp n₀ Bs Bp A C :=
  ⟨h.1.trans k.1, k.2.1.trans h.2.1, k.2.2.trans h.2.2⟩

theorem NextKp.drewN {n₀ Bs Bp : Nat} {A B : World} (h : NextKp n₀ Bs Bp A B) (n : Nat) : NextKp n₀ Bs Bp A (B.drewN n) := ⟨below_drewN' h.1 n, h.2.1, h.2.2⟩

theorem take_map_succ {α β : Type} (f : α → β) (l : List α) (k : Nat) (h : k < l.length) : (l.map f).take (k + 1) = (l.map f).take k ++ [f l[k]] := by
  rw [List.take_succ_eq_append_getElem (by simpa using h)]; simp

set_option maxRecDepth 100000 in
set_option maxHeartbeats 1000000 in
theorem next1_in (n : Nat) (hn : 1 ≤ n) (l Bs Bp n₀ sa p : Nat) (s : Shp) (es : List Nat) (J Jx : List Nat → World → Prop)
    (hes : s.out[p]? = some es) (hto : ∀ e ∈ es, e < s.tg.length)
    (hY : ∀ pre x post W, (es.map fun e => s.tg.getD e 0) = pre ++ x :: post → J pre W → YieldAt Fence.wide (n - 1) Tryz.prog l #[.int .i64 (x : Nat)] W fun e W' =>
      (e = .returned (.bool true) ∧ J (pre ++ [x]) W' ∧ NextKp n₀ Bs Bp W W') ∨ (e = .returned (.bool false) ∧ Jx (pre ++ [x]) W'))
    (W : World) (hBs : Blk W Bs 67 [.pointer (some ⟨sa, 0, none⟩)]) (hBp : Blk W Bp 3 [.int .i64 (p : Int)]) (hs : IsShape n₀ W sa s) (h0 : J [] W) (hJd : ∀ pre W n, J pre W → J pre (W.drewN n)) :
    CallsIn Fence.wide n Tryz.prog 48 #[.func (.yield l) #[] #[], .pointer (some ⟨Bs, 0, none⟩), .pointer (some ⟨Bp, 0, none⟩)] W fun e W' => (∃ v, e = .returned v) ∧
      (J (es.map fun e => s.tg.getD e 0) W' ∨ ∃ pre post, (es.map fun e => s.tg.getD e 0) = pre ++ post ∧ Jx pre W') := by
  obtain ⟨hsa, vf, vt, vo, vi, hblk, -, ht, ho, -⟩ := id hs
  obtain ⟨At, ct, rfl, -, -, hm, hat⟩ := ht.shape
  obtain ⟨Ao, co, rfl, -, -, hmo, hao⟩ := Sl.shape ho
  obtain ⟨ao, u, rfl, hbo, hco, hnat⟩ := hao p es hes
  obtain ⟨Ae, ce, rfl, -, -, hme, hae⟩ := Sl.shape hnat
  have hlen : p < s.out.length := (List.getElem?_eq_some_iff.1 hes).1
  have c0 := hBs.cellAt (i := 0) rfl
  have c1 := hBp.cellAt (i := 0) rfl
  have c4 := hblk.cellAt (i := 4) rfl
  refine callsIn_of_wp Tryz.func48 rfl trivial (wpIn_wide.2 ?_) rfl
  simp only [Tryz.ntmps48, List.size_toArray, List.length_cons, List.length_nil, Nat.reduceAdd, Nat.reduceSub, Array.replicate_succ, Array.replicate_zero, List.push_toArray, List.append_toArray, List.nil_append, List.cons_append]
  go_wp2
  go_quiet (fail)
  go_wp2
  go_loopw [14] (fun i wr => ∃ k : Nat, k ≤ es.length ∧ i = .int .i64 k ∧ J ((es.map fun e => s.tg.getD e 0).take k) wr ∧ NextKp n₀ Bs Bp W wr) (fun i _ => es.length - (intOf i).toNat)
  case atStart => exact ⟨0, Nat.zero_le _, rfl, by simpa using hJd _ _ _ h0, (NextKp.refl n₀ Bs Bp W).drewN nq⟩
  case round =>
    obtain ⟨k, hk, rfl, hJs, hkp⟩ := hrel
    have c0' := (hBs.same hkp.2.1).cellAt (i := 0) rfl
    have c3' := (hblk.below hkp.1 hsa).cellAt (i := 3) rfl
    by_cases hlt : k < es.length
    · obtain ⟨ae, u, rfl, hbe, hce, hue⟩ := hae k es[k] (List.getElem?_eq_getElem hlt)
      obtain rfl : u = .int .i64 ((es[k] : Nat) : Int) := hue
      have hce' := (hkp.1.cell (p := ae.add k) (by rw [block_add]; exact hbe)).trans hce
      have hq := hto es[k] (List.getElem_mem hlt)
      obtain ⟨at_, u, rfl, hbt, hct, hut⟩ := hat es[k] s.tg[es[k]] (List.getElem?_eq_getElem hq)
      obtain rfl : u = .int .i64 ((s.tg[es[k]] : Nat) : Int) := hut
      have hct' := (hkp.1.cell (p := at_.add es[k]) (by rw [block_add]; exact hbt)).trans hct
      have hts := take_map_succ (fun e => s.tg.getD e 0) es k hlt
      have hge : s.tg.getD es[k] 0 = s.tg[es[k]] := by simp [hq]
      have ht0 : (es.map fun e => s.tg.getD e 0).take (k + 1) = (es.map fun e => s.tg.getD e 0).take k ++ [s.tg[es[k]]] := by rw [hts, hge]
      have hcut : (es.map fun e => s.tg.getD e 0) = (es.map fun e => s.tg.getD e 0).take k ++ s.tg[es[k]] :: (es.map fun e => s.tg.getD e 0).drop (k + 1) := by
        have h := List.take_append_drop (k + 1) (es.map fun e => s.tg.getD e 0)
        rw [ht0] at h
        simpa using h.symm
      obtain ⟨fn, tmps, assign, body, hy, hR⟩ := hY _ s.tg[es[k]] _ wr hcut hJs
      have HC := Lib.hid hcut
      have HT := Lib.hid ht0
      clear hts hge ht0 hcut
      clear hY hJd h0 hae hat hao ht ho hs hto c0 c1 c4 hco hce hct hnat hmo
      go_upto_region 3 with (fail)
      refine (wpIn_wide (n := n)).1 ?_
      gi_wp2
      refine hR.mono ?_
      rintro e W3 (⟨rfl, hJ3, hk3⟩ | ⟨rfl, hJx3⟩)
      · gi_wp2
        go_wp2
        go_roundw
        case rel => exact ⟨k + 1, by omega, by simp, by rw [HT.out]; exact hJ3, hkp.trans hk3⟩
        case measure => simp [intOf]; omega
      · gi_wp2
        go_wp2
        refine bodyPost_ret (results_none rfl _ _ _) rfl ?_
        exact ⟨⟨_, rfl⟩, .inr ⟨_, _, by rw [← HT.out]; exact (List.take_append_drop (k + 1) _).symm, hJx3⟩⟩
    · obtain rfl : k = es.length := by omega
      go_wp2
      go_end0
      exact ⟨⟨_, rfl⟩, .inl (by rw [List.take_of_length_le (by simp)] at hJs; exact hJs)⟩

theorem abides_drewN {α : Type} {B : Nat} {J : List α → World → Prop} (h : AbidesFrom B J) (pre : List α) (W : World) (n : Nat) (hj : J pre W) : J pre (W.drewN n) :=
  h pre W _ none hj ⟨rfl, rfl, rfl, Nat.le_refl _, fun _ _ _ => rfl⟩ (fun r e => by cases e)

/-- The value that 'next' hands back, as an iterator. -/
theorem next_list (n : Nat) (hn : 1 ≤ n) (Bs Bp n₀ sa p : Nat) (s : Shp) (hp : p < s.out.length) (hto : ∀ es ∈ s.out, ∀ x ∈ es, x < s.tg.length)
    (w : World) (hBs : Blk w Bs 67 [.pointer (some ⟨sa, 0, none⟩)]) (hBp : Blk w Bp 3 [.int .i64 (p : Int)]) (hs : IsShape n₀ w sa s) (hn₀ : n₀ ≤ w.heap.size) :
    SeqList Fence.wide n Tryz.prog 48 #[.pointer (some ⟨Bs, 0, none⟩), .pointer (some ⟨Bp, 0, none⟩)] (fun x : Nat => #[.int .i64 (x : Int)]) (NextKp n₀ Bs Bp) (s.next p) w := by
  intro l J Jx W hW hJ _ hY h0
  have hes : s.out[p]? = some s.out[p] := List.getElem?_eq_getElem hp
  have hnx : s.next p = s.out[p].map fun e => s.tg.getD e 0 := by simp [Shp.next, hp]
  rw [hnx] at hY ⊢
  exact next1_in n hn l Bs Bp n₀ sa p s s.out[p] J Jx hes (hto _ (List.getElem_mem hp)) hY W (hBs.below hW hBs.lt) (hBp.below hW hBp.lt) (hs.below (hW.mono hn₀)) h0 (fun pre W n => abides_drewN hJ pre W n)

theorem NextKp.book {n₀ Bs Bp B : Nat} (h1 : n₀ ≤ B) (h2 : Bs < B) (h3 : Bp < B) (W : World) (l : Nat) (o o' : Obj) (hl : B ≤ l) (h : W.heap[l]? = some o) : NextKp n₀ Bs Bp W (W.putObj l o') :=
  ⟨(Below.refl n₀ W).grown (grownBy_putObj' W l o') (by have := (Array.getElem?_eq_some_iff.1 h).1; omega) (fun k e => by cases e; omega), World.putObj_heap_other (by omega), World.putObj_heap_other (by omega)⟩

/-- 's.next(p)': both are boxed. -/
theorem next_any (a : Option Addr) (p : Int) (w : World) :
    Calls Tryz.prog 27 #[.pointer a, .int .i64 p] w fun e w' =>
      e = .returned (.func (.func 48) #[] #[.pointer (some ⟨w.heap.size, 0, none⟩), .pointer (some ⟨w.heap.size + 1, 0, none⟩)]) ∧
      w' = (w.alloc (.cells #[.pointer a] 67)).alloc (.cells #[.int .i64 p] 3) := by
  go_enter Tryz.func27, Tryz.ntmps27
  go_wp2
  go_ret
  exact ⟨rfl, rfl⟩

#print axioms next_list
#print axioms next_any

end Go.Proofs.YthaampinmelgaaaGreatDoor
