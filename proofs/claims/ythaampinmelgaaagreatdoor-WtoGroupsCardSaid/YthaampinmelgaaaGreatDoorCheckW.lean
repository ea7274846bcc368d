/- Package wto: Check, plain and walked. -/
import Derived.Test.YthaampinmelgaaaGreatDoorWithin
import Derived.Test.YthaampinmelgaaaGreatDoorInR
import Derived.Test.YthaampinmelgaaaGreatDoorMapV
import Derived.Test.YthaampinmelgaaaGreatDoorOut
import Derived.Test.YthaampinmelgaaaGreatDoorReached
import Derived.Test.YthaampinmelgaaaGreatDoorEq
/-! Package wto: Check, plain: the first error of the elements, the points that are left out, the edges that lead backwards. No program here but words of the iterator. -/
namespace Go.Proofs.YthaampinmelgaaaGreatDoor
open Go.RowKit

/-- The error of an element, some points having come before it. -/
def eltErr (n : Nat) (R : List Bool) (seen : List Int) (x : El) : Int :=
  if x.c = false ∧ x.body ≠ [] then 3 else if x.p < 0 ∨ (n : Int) ≤ x.p ∨ R.getD x.p.toNat false = false then 6 else if x.p ∈ seen then 7 else 0
def eachErr (n : Nat) (R : List Bool) : List Int → List (El × List Int) → Int
  | _, [] => 0
  | seen, z :: G => if eltErr n R seen z.1 ≠ 0 then eltErr n R seen z.1 else eachErr n R (seen ++ [z.1.p]) G
def placeI (ps : List Int) (k : Int) : Int := ((ps.findIdx? fun x => decide (x = k)).map fun i : Nat => (i : Int)).getD 0
def insW (G : List (El × List Int)) (k : Int) : List Int := ((G.find? fun z => decide (z.1.p = k)).map Prod.snd).getD []
def gapB (n : Nat) (R : List Bool) (ps : List Int) : Bool := (List.range n).any fun p => R.getD p false && !decide ((p : Int) ∈ ps)
def badEdge' (R : List Bool) (ps : List Int) (G : List (El × List Int)) (x : Nat × Nat) : Bool :=
  R.getD x.1 false && decide (placeI ps x.2 ≤ placeI ps x.1) && !(insW G x.1).contains (x.2 : Int)
def chkV (n : Nat) (E : List (Nat × Nat)) (R : List Bool) (l : List El) : Int :=
  if eachErr n R [] (walkL l []) ≠ 0 then eachErr n R [] (walkL l [])
  else if gapB n R (ptsL l) = true then 20
  else if E.any (badEdge' R (ptsL l) (walkL l [])) = true then 14 else 0
theorem eachErr_append (n : Nat) (R : List Bool) : ∀ (G : List (El × List Int)) (seen : List Int) (H : List (El × List Int)), eachErr n R seen G = 0 → eachErr n R seen (G ++ H) = eachErr n R (seen ++ G.map fun z => z.1.p) H
  | [], seen, H, _ => by simp
  | z :: G, seen, H, h => by
    simp only [eachErr] at h
    rw [List.cons_append]
    simp only [eachErr]
    by_cases hz : eltErr n R seen z.1 ≠ 0
    · rw [if_pos hz] at h; exact absurd h hz
    · rw [if_neg hz] at h ⊢
      rw [eachErr_append n R G _ H h]
      simp
theorem eachErr_one {n : Nat} {R : List Bool} {G : List (El × List Int)} {z : El × List Int} {H : List (El × List Int)} (h : eachErr n R [] G = 0) (hz : eltErr n R (G.map fun z => z.1.p) z.1 ≠ 0) : eachErr n R [] (G ++ z :: H) = eltErr n R (G.map fun z => z.1.p) z.1 := by
  rw [eachErr_append n R G [] _ h]
  simp only [eachErr, List.nil_append]
  rw [if_pos hz]
theorem eachErr_next {n : Nat} {R : List Bool} {G : List (El × List Int)} {z : El × List Int} (h : eachErr n R [] G = 0) (hz : eltErr n R (G.map fun z => z.1.p) z.1 = 0) : eachErr n R [] (G ++ [z]) = 0 := by
  rw [eachErr_append n R G [] _ h]
  simp only [eachErr, List.nil_append]
  rw [if_neg (fun e => e hz)]

section
variable {n : Nat} {R : List Bool} {seen : List Int} {p : Int} {cc : Bool} {bb : List El}
theorem elt3 (h1 : cc = false) (h2 : bb ≠ []) : eltErr n R seen (.mk p cc bb) = 3 := by
  unfold eltErr; exact if_pos ⟨h1, h2⟩
theorem elt6 (hf : ¬ (cc = false ∧ bb ≠ [])) (h : p < 0 ∨ (n : Int) ≤ p ∨ R.getD p.toNat false = false) : eltErr n R seen (.mk p cc bb) = 6 := by
  unfold eltErr; exact (if_neg hf).trans (if_pos h)
theorem elt7 (hf : ¬ (cc = false ∧ bb ≠ [])) (h : ¬ (p < 0 ∨ (n : Int) ≤ p ∨ R.getD p.toNat false = false)) (hs : p ∈ seen) : eltErr n R seen (.mk p cc bb) = 7 := by
  unfold eltErr; exact (if_neg hf).trans ((if_neg h).trans (if_pos hs))
theorem elt0 (hf : ¬ (cc = false ∧ bb ≠ [])) (h : ¬ (p < 0 ∨ (n : Int) ≤ p ∨ R.getD p.toNat false = false)) (hs : p ∉ seen) : eltErr n R seen (.mk p cc bb) = 0 := by
  unfold eltErr; exact (if_neg hf).trans ((if_neg h).trans (if_neg hs))
end

/-- What the two maps hold. -/
def ptsY (ys : List Yd) : List Int := ys.map fun y => y.x.p
theorem ptsY_key (ys : List Yd) : (ys.map Yd.key).map (fun z => z.1.p) = ptsY ys := by unfold ptsY; rw [List.map_map]; rfl
def plS (ys : List Yd) (k : Int) : Option Value := ((ptsY ys).findIdx? fun x => decide (x = k)).map fun i : Nat => .int .i64 (i : Int)
def wiS (ys : List Yd) (k : Int) : Option Value := (ys.find? fun y => decide (y.x.p = k)).map fun y => y.hv
theorem plS_some {ys : List Yd} {k : Int} : (plS ys k).isSome = decide (k ∈ ptsY ys) := by
  unfold plS
  rw [Option.isSome_map, List.findIdx?_isSome]
  by_cases h : k ∈ ptsY ys
  · rw [decide_eq_true h, List.any_eq_true]; exact ⟨k, h, by simp⟩
  · rw [decide_eq_false h, List.any_eq_false]
    intro x hx
    simp
    rintro rfl
    exact h hx
theorem plS_none {ys : List Yd} {k : Int} (h : k ∉ ptsY ys) : plS ys k = none := by
  have := plS_some (ys := ys) (k := k)
  rw [decide_eq_false h] at this
  simpa using this
theorem wiS_none {ys : List Yd} {k : Int} (h : k ∉ ptsY ys) : wiS ys k = none := by
  unfold wiS
  rw [Option.map_eq_none_iff, List.find?_eq_none]
  intro y hy
  simp
  rintro rfl
  exact h (List.mem_map.2 ⟨y, hy, rfl⟩)
theorem plS_snoc {ys : List Yd} {y : Yd} (h : y.x.p ∉ ptsY ys) : plS (ys ++ [y]) = fun j => if j = y.x.p then some (.int .i64 (ys.length : Int)) else plS ys j := by
  funext j
  unfold plS ptsY
  rw [List.map_append, List.findIdx?_append]
  by_cases hj : j = y.x.p
  · subst hj
    have hn : (ys.map fun y => y.x.p).findIdx? (fun x => decide (x = y.x.p)) = none := by
      rw [List.findIdx?_eq_none_iff]
      intro x hx
      simp
      rintro rfl
      exact h hx
    rw [if_pos rfl, hn]
    simp
  · rw [if_neg hj]
    have : ¬ y.x.p = j := fun e => hj e.symm
    cases (ys.map fun y => y.x.p).findIdx? (fun x => decide (x = j)) <;> simp [this]
theorem wiS_snoc {ys : List Yd} {y : Yd} (h : y.x.p ∉ ptsY ys) : wiS (ys ++ [y]) = fun j => if j = y.x.p then some y.hv else wiS ys j := by
  funext j
  unfold wiS
  rw [List.find?_append]
  by_cases hj : j = y.x.p
  · subst hj
    have hn : ys.find? (fun z => decide (z.x.p = y.x.p)) = none := by
      rw [List.find?_eq_none]
      intro x hx
      simp
      intro e
      exact h (e ▸ List.mem_map.2 ⟨x, hx, rfl⟩)
    rw [if_pos rfl, hn]
    simp
  · rw [if_neg hj]
    have : ¬ y.x.p = j := fun e => hj e.symm
    cases ys.find? (fun z => decide (z.x.p = j)) <;> simp [this]
theorem plS_get (ys : List Yd) (k : Int) : (plS ys k).getD (.int .i64 0) = .int .i64 (placeI (ptsY ys) k) := by
  unfold plS placeI
  cases (ptsY ys).findIdx? (fun x => decide (x = k)) <;> rfl
theorem wiS_get {ys : List Yd} {l : List El} (h : ys.map Yd.key = walkL l []) {w : World} (hd : ∀ y ∈ ys, HeadsAt (fun _ => True) w y.hv y.hs) (k : Int) : HeadsAt (fun _ => True) w ((wiS ys k).getD (.slice none 0 0)) (insW (walkL l []) k) := by
  have e : insW (walkL l []) k = ((ys.find? fun y => decide (y.x.p = k)).map Yd.hs).getD [] := by
    unfold insW
    rw [← h, List.find?_map]
    have : ((fun z : El × List Int => decide (z.1.p = k)) ∘ Yd.key) = fun y : Yd => decide (y.x.p = k) := rfl
    rw [this]
    cases ys.find? (fun y => decide (y.x.p = k)) <;> rfl
  rw [e]
  unfold wiS
  cases hf : ys.find? (fun y => decide (y.x.p = k)) with
  | none => exact HeadsAt.nil _ _
  | some y => exact hd y (List.mem_of_find?_eq_some hf)
theorem HeadsAt.ints {w : World} {v : Value} {hs : List Int} (h : HeadsAt (fun _ => True) w v hs) : Ints w.heap.size w v hs := by
  obtain ⟨A, c, rfl, h2, h3, -, h4⟩ := h
  refine ⟨A, c, rfl, h2, h3, fun j x hx => ?_⟩
  obtain ⟨ad, h5, -, h7, h8⟩ := h4 j x hx
  exact ⟨ad, _, h5, h8.lt, h7, rfl⟩
theorem gap_none {n : Nat} {R : List Bool} {ps : List Int} (h : ∀ j, j < n → R.getD j false = true → ((j : Nat) : Int) ∈ ps) : gapB n R ps = false := by
  unfold gapB
  rw [List.any_eq_false]
  intro j hj
  have hj' := List.mem_range.1 hj
  cases hr : R.getD j false with
  | false => simp
  | true => simp [h j hj' hr]
theorem gap_some {n : Nat} {R : List Bool} {ps : List Int} {j : Nat} (hj : j < n) (hr : R.getD j false = true) (h : ((j : Nat) : Int) ∉ ps) : gapB n R ps = true := by
  unfold gapB
  rw [List.any_eq_true]
  exact ⟨j, List.mem_range.2 hj, by rw [hr]; simp [h]⟩
theorem chkV_gap {n : Nat} {E : List (Nat × Nat)} {R : List Bool} {l : List El} (h1 : eachErr n R [] (walkL l []) = 0) (h2 : gapB n R (ptsL l) = true) : chkV n E R l = 20 := by
  unfold chkV; exact (if_neg (fun e => e h1)).trans (if_pos h2)
theorem chkV_edge {n : Nat} {E : List (Nat × Nat)} {R : List Bool} {l : List El} (h1 : eachErr n R [] (walkL l []) = 0) (h2 : gapB n R (ptsL l) = false) (h3 : E.any (badEdge' R (ptsL l) (walkL l [])) = true) : chkV n E R l = 14 := by
  unfold chkV; exact (if_neg (fun e => e h1)).trans ((if_neg (by rw [h2]; simp)).trans (if_pos h3))
theorem chkV_ok {n : Nat} {E : List (Nat × Nat)} {R : List Bool} {l : List El} (h1 : eachErr n R [] (walkL l []) = 0) (h2 : gapB n R (ptsL l) = false) (h3 : E.any (badEdge' R (ptsL l) (walkL l [])) = false) : chkV n E R l = 0 := by
  unfold chkV; exact (if_neg (fun e => e h1)).trans ((if_neg (by rw [h2]; simp)).trans (if_neg (by rw [h3]; simp)))
theorem chkV_err {n : Nat} {E : List (Nat × Nat)} {R : List Bool} {l : List El} (h1 : eachErr n R [] (walkL l []) ≠ 0) : chkV n E R l = eachErr n R [] (walkL l []) := by
  unfold chkV; exact if_pos h1
end Go.Proofs.YthaampinmelgaaaGreatDoor

/-! Package wto: Check. -/
namespace Go.Proofs.YthaampinmelgaaaGreatDoor
open Go.RowKit Go.Shelf

attribute [local go_sem] Oper.semAt_some

set_option maxRecDepth 100000 in
set_option maxHeartbeats 4000000 in
theorem check_bad (B : Nat) (w : World) (v lv : Value) (n exit : Int) (es : List (Int × Int)) (hv : Edges B w v es) (hB : B ≤ w.heap.size) (hc : chk n exit es ≠ 0) :
    Calls Tryz.prog 16 #[.agg #[.int .i64 n, .int .i64 exit, v], lv] w fun en w' => en = .returned (.int .i64 (chk n exit es)) ∧ Below w.heap.size w w' := by
  obtain ⟨A, c, rfl, hlc, -, hm, hes⟩ := id hv.shape
  have hreach := fun w1 (h1 : Below w.heap.size w w1) => reachable_bad B w1 _ n exit 0 es (hv.below (h1.mono hB)) (by have := h1.size; omega) hc
  have HR := Lib.hid hreach
  have hne : (chk n exit es != 0) = true := by simpa using hc
  have hne2 : decide (chk n exit es = 0) = false := by simpa using hc
  have hb0 : Below w.heap.size w ((w.alloc (.cells #[.int .i64 n, .int .i64 exit, .slice A es.length c] 24)).alloc (.cells #[.int .i64 0] 28)) := ((Below.refl _ w).alloc (Nat.le_refl _) _).alloc (by simp) _
  have hbe := Blk.newAt (N := w.heap.size + 1) (w.alloc (.cells #[.int .i64 n, .int .i64 exit, .slice A es.length c] 24)) 28 #[.int .i64 0] (by simp)
  clear hreach hes hv hc
  go_enter Tryz.func16, Tryz.ntmps16
  go_wp2_with (go_at_call 37; refine (HR.out _ hb0).mono ?_; rintro en w1 ⟨rfl, hb1⟩; have hx := (hbe.below hb1 hbe.lt).alloc (.cells #[.slice none 0 0] 93); have c1 := hx.cellAt (i := 0) rfl; have f1 := hx.frozen 0)
  have d1 := (hx.set 0 (.int .i64 (chk n exit es))).cellAt (i := 0) rfl
  refine bodyPost_ret (v := .int .i64 (chk n exit es)) (by simp [results, Tryz.results16, go_sem, d1]) rfl ⟨rfl, ?_⟩
  have hb2 := hb0.trans (hb1.mono hb0.size)
  exact (hb2.alloc hb2.size _).setCell (by show w.heap.size ≤ w.heap.size + 1; omega) _

/-- Where things lie in the range of Check. -/
structure CE where
  w : World
  n : Nat
  exit : Int
  es : Value
  R : List Bool
  rv : Value
  rb : Nat
structure CIn (e : CE) (ys : List Yd) (O : Nat → Prop) (W : World) : Prop where
  bg : Blk W e.w.heap.size 24 [.int .i64 (e.n : Int), .int .i64 e.exit, e.es]
  be : Blk W (e.w.heap.size + 1) 28 [.int .i64 0]
  br : Blk W e.rb 93 [e.rv]
  rd : Bools e.rb W e.rv e.R
  b1 : Blk W (e.rb + 1 + 1 + 1) 96 [.map (some (e.rb + 1))]
  b2 : Blk W (e.rb + 1 + 1 + 1 + 1) 97 [.map (some (e.rb + 1 + 1))]
  m1 : MapV W (e.rb + 1) ys.length (plS ys)
  m2 : MapV W (e.rb + 1 + 1) ys.length (wiS ys)
  ok : eachErr e.n e.R [] (ys.map Yd.key) = 0
  hd : ∀ y ∈ ys, HeadsAt (fun _ => True) W y.hv y.hs
  ap : ∀ b, O b → b ≠ e.rb + 1 ∧ b ≠ e.rb + 1 + 1
  bel : Below e.w.heap.size e.w W
  lo : e.w.heap.size + 1 < e.rb
def COut (e : CE) (er : Int) (W : World) : Prop := Blk W (e.w.heap.size + 1) 28 [.int .i64 er] ∧ Below e.w.heap.size e.w W
theorem HeadsAt.typed {O : Nat → Prop} {w w' : World} {v : Value} {hs : List Int} (h : HeadsAt O w v hs) (hk : ∀ b, Typed w b 3 → w'.heap[b]? = w.heap[b]?) : HeadsAt (fun _ => True) w' v hs := by
  obtain ⟨A, c, h1, h2, h3, h0, h4⟩ := h
  refine ⟨A, c, h1, h2, h3, h0, fun j x hx => ?_⟩
  obtain ⟨ad, h5, h6, h7, h8⟩ := h4 j x hx
  exact ⟨ad, h5, trivial, (World.cell?_of_block (by rw [block_add]; exact hk _ h8)).trans h7, h8.same (hk _ h8)⟩
theorem typed_keep {A A' : World} {row : Option Nat} {B : Nat} (hg : A.grownBy A' row) (hr : ∀ r, row = some r → B ≤ r ∧ ∃ o : Obj, A.heap[r]? = some o ∧ o.isCells = false) {b : Nat} {T : TypeId} (h : Typed A b T) : A'.heap[b]? = A.heap[b]? :=
  hg.block b h.lt (fun e' => by
    obtain ⟨_, o, ho, hc⟩ := hr b e'.symm
    obtain ⟨cs, fr, hh⟩ := h
    rw [hh] at ho
    cases ho
    simp [Obj.isCells] at hc)
theorem CIn.own {e : CE} : OwnG (e.rb + 1 + 1 + 1 + 1 + 1 + 1) (fun s O W => CIn e s O W) := by
  intro s O O' A A' row h hg hr hO
  have h2 := h.b2.lt
  have hlo := h.lo
  have hmk : ∀ b, b < e.rb + 1 + 1 + 1 + 1 + 1 + 1 → b < A.heap.size → A'.heap[b]? = A.heap[b]? := fun b hb hs => hg.block b hs (fun e' => by have := (hr b e'.symm).1; omega)
  have hm : ∀ {b n : Nat} {S : Int → Option Value}, b < e.rb + 1 + 1 + 1 + 1 + 1 + 1 → MapV A b n S → MapV A' b n S := fun hb h => h.same (hmk _ hb h.lt)
  have hbl : ∀ {N : Nat}, N ≤ e.rb → Below N A A' := fun hN => (Below.refl _ A).grown hg (by omega) (fun k e' => by have := (hr k e').1; omega)
  exact ⟨blk_keep hg hr h.bg, blk_keep hg hr h.be, blk_keep hg hr h.br, h.rd.below (hbl (Nat.le_refl _)), blk_keep hg hr h.b1, blk_keep hg hr h.b2, hm (by omega) h.m1, hm (by omega) h.m2, h.ok,
    fun y hy => (h.hd y hy).typed (fun b hb => typed_keep hg hr hb), fun b hb => by
      rcases (hO b hb).1 with h1 | h1
      · exact h.ap b h1
      · omega, h.bel.trans ((hbl (by omega) : Below e.w.heap.size A A')), hlo⟩
theorem MapV.untyped {W : World} {b n : Nat} {S : Int → Option Value} (h : MapV W b n S) {c : Nat} {T : TypeId} (ht : Typed W c T) : c ≠ b := by
  rintro rfl
  obtain ⟨o, ho, hc⟩ := h.obj
  obtain ⟨cs, fr, hh⟩ := ht
  rw [hh] at ho
  cases ho
  simp [Obj.isCells] at hc
theorem CIn.step {e : CE} {pre : List Yd} {O : Nat → Prop} {W2 w4 : World} {y : Yd} (h : CIn e pre O W2) (ho : Only (fun b => b = e.rb + 1 ∨ b = e.rb + 1 + 1) W2 w4)
    (h1 : MapV w4 (e.rb + 1) (pre.length + 1) (fun j => if j = y.x.p then some (.int .i64 (pre.length : Int)) else plS pre j)) (h2 : MapV w4 (e.rb + 1 + 1) (pre.length + 1) (fun j => if j = y.x.p then some y.hv else wiS pre j))
    (hno : y.x.p ∉ ptsY pre) (hok : eachErr e.n e.R [] (pre.map Yd.key ++ [y.key]) = 0) (hy : HeadsAt O W2 y.hv y.hs) (hOl : ∀ b, O b → b < W2.heap.size) :
    KeepsFrom (e.rb + 1 + 1 + 1 + 1 + 1 + 1) W2 w4 ∧ (∀ b, O b → w4.heap[b]? = W2.heap[b]?) ∧ CIn e (pre ++ [y]) O w4 := by
  have hlo := h.lo
  have hbl : Below e.rb W2 w4 := ho.below (by have := h.br.lt; omega) (fun b hb hs => by omega)
  have hty : ∀ b, Typed W2 b 3 → w4.heap[b]? = W2.heap[b]? := fun b hb => ho.block b hb.lt (fun hs => hs.elim (fun e' => h.m1.untyped hb e') (fun e' => h.m2.untyped hb e'))
  refine ⟨⟨ho.size, fun k o hk hko _ => (ho.block k (lt_of_block hko) (by omega)).trans hko⟩, fun b hb => ?_, ?_⟩
  · have ha := h.ap b hb
    exact ho.block b (hOl b hb) (fun hs => hs.elim ha.1 ha.2)
  · refine ⟨h.bg.only ho (by omega), h.be.only ho (by omega), h.br.only ho (by omega), h.rd.below hbl, h.b1.only ho (by omega), h.b2.only ho (by omega), ?_, ?_, by rw [List.map_append]; exact hok, fun z hz => ?_, h.ap, h.bel.trans (hbl.mono (by omega)), hlo⟩
    · rw [plS_snoc hno, List.length_append, List.length_singleton]; exact h1
    · rw [wiS_snoc hno, List.length_append, List.length_singleton]; exact h2
    · rcases List.mem_append.1 hz with hz | hz
      · exact (h.hd z hz).typed hty
      · rw [List.mem_singleton] at hz; subst hz; exact hy.typed hty
theorem COut.own {α : Type} {e : CE} {B : Nat} (hB : e.w.heap.size + 1 < B) (Q : α → Int → Prop) : OwnFrom B (fun (s : α) W => ∃ er, Q s er ∧ COut e er W) := by
  rintro s A A' row ⟨er, hq, h1, h4⟩ hg hr
  exact ⟨er, hq, blk_keep hg hr h1, h4.grown hg (by have := h1.lt; omega) (fun k e' => by have := (hr k e').1; omega)⟩

set_option maxRecDepth 100000 in
set_option maxHeartbeats 8000000 in
theorem check_ok (B : Nat) {P : Nat → Prop} (w : World) (v lv : Value) (n : Nat) (exit : Int) (E : List (Nat × Nat)) (l : List El) (hv : Edges B w v (castE E)) (hB : B ≤ w.heap.size) (hg : GOk n exit E) (R : List Bool) (hR : R.length = n)
    (hreach : ∀ w1, Below w.heap.size w w1 → Calls Tryz.prog 37 #[.agg #[.int .i64 (n : Int), .int .i64 exit, v], .int .i64 0] w1 fun en w' => ∃ vo, en = .returned (.tuple #[vo, .int .i64 0]) ∧ Bools w'.heap.size w' vo R ∧ Below w1.heap.size w1 w')
    (h : Els P w lv l) (hP : ∀ b, P b → b < w.heap.size) (hlen : (ptsL l).length ≤ 1000000) :
    Calls Tryz.prog 16 #[.agg #[.int .i64 (n : Int), .int .i64 exit, v], lv] w fun en w' => en = .returned (.int .i64 (chkV n E R l)) ∧ Below w.heap.size w w' := by
  obtain ⟨Ag, cg, rfl, hlc, -, hm, hes⟩ := id hv.shape
  obtain ⟨A, c, rfl, hc1, hc2, -, -⟩ := id h.shape
  have hlen0 : (castE E).length = E.length := castE_length E
  rw [hlen0] at hlc hm hreach
  have hb0 : Below w.heap.size w ((w.alloc (.cells #[.int .i64 (n : Int), .int .i64 exit, .slice Ag E.length cg] 24)).alloc (.cells #[.int .i64 0] 28)) := ((Below.refl _ w).alloc (Nat.le_refl _) _).alloc (by simp) _
  have hbg := (Blk.newAt w 24 #[.int .i64 (n : Int), .int .i64 exit, .slice Ag E.length cg] rfl).alloc (.cells #[.int .i64 0] 28)
  have hbe := Blk.newAt (N := w.heap.size + 1) (w.alloc (.cells #[.int .i64 (n : Int), .int .i64 exit, .slice Ag E.length cg] 24)) 28 #[.int .i64 0] (by simp)
  have hmm := @run_makeMap Tryz.prog
  have HR := Lib.hid hreach
  have HE := Lib.hid h
  have HP := Lib.hid hP
  have HV := Lib.hid hv
  have HG := Lib.hid hg
  have HLR := Lib.hid hR
  rw [hlen0]
  clear hreach hes hv h hP hg hR hlen0
  refine (callsIn_wide (n := 5)).1 (callsIn_of_wp_marks Tryz.func16 rfl trivial (wpIn_wide.2 ?_) rfl)
  simp only [Tryz.ntmps16, List.size_toArray, List.length_cons, List.length_nil, Nat.reduceAdd, Nat.reduceSub, Array.replicate_succ, Array.replicate_zero, List.push_toArray, List.append_toArray, List.nil_append, List.cons_append]
  go_wp2_with (first | (go_at_call 37; refine (HR.out _ hb0).mono ?_; rintro en w1 ⟨vo, rfl, hrd, hb1⟩; obtain ⟨Ar, cr, rfl, hcr, -⟩ := id hrd.shape; have hz1 := hb1.size) | (go_at_call 30; refine (all_any _ _ _ _).mono ?_; rintro en w2 ⟨rfl, rfl⟩))
  refine wpIn_wide (n := 5).1 ?_
  obtain ⟨e, he⟩ : ∃ e : CE, e = ⟨w, n, exit, .slice Ag E.length cg, R, .slice Ar R.length cr, w1.heap.size⟩ := ⟨_, rfl⟩
  obtain ⟨W0, hW0⟩ : ∃ W0, W0 = (((((w1.alloc (.cells #[.slice Ar R.length cr] 93)).alloc (.map #[] 0)).alloc (.map #[] 0)).alloc (.cells #[.map (some (w1.heap.size + 1))] 96)).alloc (.cells #[.map (some (w1.heap.size + 1 + 1))] 97)).alloc (.cells #[.slice A l.length c] 27) := ⟨_, rfl⟩
  have hs0 : W0.heap.size = w1.heap.size + 1 + 1 + 1 + 1 + 1 + 1 := by rw [hW0]; simp
  have hz1' : w.heap.size + 1 + 1 ≤ w1.heap.size := by simpa using hz1
  have hbt : Blk W0 (w1.heap.size + 1 + 1 + 1 + 1 + 1) 27 [.slice A l.length c] := by rw [hW0]; exact Blk.newAt _ 27 #[.slice A l.length c] (by simp)
  have hb10 : Below w1.heap.size w1 W0 := by rw [hW0]; exact ((((((Below.refl _ w1).alloc (Nat.le_refl _) _).alloc (by simp) _).alloc (by simp; omega) _).alloc (by simp; omega) _).alloc (by simp; omega) _).alloc (by simp; omega) _
  have hbel : Below w.heap.size w W0 := (hb0.trans (hb1.mono hb0.size)).trans (hb10.mono (by omega))
  have hels : Els P W0 (.slice A l.length c) l := HE.out.under hbel HP.out
  have hin : CIn e [] P W0 := by
    subst he
    refine ⟨(hbg.below hb1 (by simp <;> omega)).below hb10 (by omega), (hbe.below hb1 (by simp)).below hb10 (by omega), ?_, hrd.below hb10, ?_, ?_, ?_, ?_, rfl, fun y hy => by simp at hy, fun b hb => by have := HP.out b hb; simp only; omega, hbel, by simp only; omega⟩
    · rw [hW0]; exact (((((Blk.newAt w1 93 #[.slice Ar R.length cr] rfl).alloc _).alloc _).alloc _).alloc _).alloc _
    · rw [hW0]; exact ((Blk.newAt (N := w1.heap.size + 1 + 1 + 1) _ 96 #[.map (some (w1.heap.size + 1))] (by simp)).alloc _).alloc _
    · rw [hW0]; exact (Blk.newAt (N := w1.heap.size + 1 + 1 + 1 + 1) _ 97 #[.map (some (w1.heap.size + 1 + 1))] (by simp)).alloc _
    · have h1 := MapV.made (w1.alloc (.cells #[.slice Ar R.length cr] 93))
      rw [World.size_alloc] at h1
      refine MapV.same h1 ?_
      rw [hW0]
      rw [Below.heap_alloc _ _ _ (by simp <;> omega), Below.heap_alloc _ _ _ (by simp <;> omega), Below.heap_alloc _ _ _ (by simp <;> omega), Below.heap_alloc _ _ _ (by simp <;> omega)]
    · have h1 := MapV.made ((w1.alloc (.cells #[.slice Ar R.length cr] 93)).alloc (.map #[] 0))
      rw [World.size_alloc, World.size_alloc] at h1
      refine MapV.same h1 ?_
      rw [hW0]
      rw [Below.heap_alloc _ _ _ (by simp <;> omega), Below.heap_alloc _ _ _ (by simp <;> omega), Below.heap_alloc _ _ _ (by simp <;> omega)]
  rw [← hW0]
  have HIN := Lib.hid hin
  clear hW0 hin hbg hbe hrd hz1 hmm
  have hgn : n ≤ 512 := HG.out.n512
  refine wpIn_range_ghost rfl (by omega) rfl trivial (enters_of Tryz.func49 (by kernel_rfl) rfl) (all_seq 4 hbt hels (fun b hb => by have := HP.out b hb; omega) hlen) (Below.refl _ _) (fun _ => rfl) (fun b hb => by have := HP.out b hb; omega)
    (fun pre O W => CIn e pre O W) (fun cd _ W => ∃ er, (cd = .ret ∧ er = eachErr n R [] (walkL l []) ∧ er ≠ 0) ∧ COut e er W) (by rw [hs0]; subst he; exact CIn.own) (fun cd => by rw [hs0]; subst he; exact COut.own (by simp only; omega) (fun _ er => cd = .ret ∧ er = eachErr n R [] (walkL l []) ∧ er ≠ 0))
    HIN.out ?round ?done ?stop
  case round =>
    intro lr pre y O W hlr hrec hO hI hN K hK
    have hlW : lr < W.heap.size := by obtain ⟨r, hr⟩ := hrec; exact lt_of_block hr
    have hok := hI.ok
    have HO := Lib.hid hO
    have HOK := Lib.hid hok
    obtain ⟨⟨p, cc, bb⟩, hs, bv, hv⟩ := y
    obtain ⟨⟨post, hG⟩, hN2, hN3, hN6, -⟩ := hN
    obtain ⟨Ah, ch, hN5, -⟩ := id hN3
    obtain ⟨Ab, cb, hN4, -⟩ := hN2.shape
    simp only at hN3 hN4 hN5
    subst hN5
    subst hN4
    have hplen : pre.length < 1000000 := by
      have := congrArg List.length hG
      rw [walkL_length] at this
      simp at this
      omega
    have HGG := Lib.hid hG
    have HN3 := Lib.hid hN3
    have HN6 := Lib.hid (show InI64 p from hN6)
    clear hI hN2 hN3 hN6 hrec hO hok hG
    simp only [Yd.encs, El.p, El.c, El.body]
    gi_wp2
    refine hK _ _ (World.grownBy_alloc _ _ _) ?_
    intro W2 ho2 hs2 hl2 hi2
    clear hK
    obtain ⟨r2, hr2⟩ := hl2
    have hbx : Blk W2 W.heap.size 36 [.int .i64 p, .bool cc, .slice Ab bb.length cb] := (Blk.newAt W 36 #[.int .i64 p, .bool cc, .slice Ab bb.length cb] rfl).only ho2 (fun e => by omega)
    have hh2 : HeadsAt O W2 (.slice Ah hs.length ch) hs := HN3.out.keep (fun _ h => h) (fun b hb => (ho2.block b (by have := (HO.out b hb).2; simp; omega) (fun e => (HO.out b hb).1 e)).trans (Below.heap_alloc _ _ _ (HO.out b hb).2))
    have hs2' : W.heap.size + 1 = W2.heap.size := by rw [hs2]; simp
    have HS2 := Lib.hid hs2'
    have HI2 := Lib.hid hi2
    have HH2 := Lib.hid hh2
    subst he
    have qg := hi2.bg.cellAt (i := 0) rfl
    have qe := hi2.be.cellAt (i := 0) rfl
    have fe := hi2.be.frozen 0
    have qr := hi2.br.cellAt (i := 0) rfl
    have q1 := hi2.b1.cellAt (i := 0) rfl
    have q2 := hi2.b2.cellAt (i := 0) rfl
    have x0 := hbx.cellAt (i := 0) rfl
    have x1 := hbx.cellAt (i := 1) rfl
    have x2 := hbx.cellAt (i := 2) rfl
    have hlk := hi2.m1.look2 (t := 96) Tryz.underlying96 (z := .int .i64 0) (fun w => by kernel_rfl) HN6.out
    simp only at qg qe fe qr q1 q2 hlk
    have hi3 := hi2
    have HBX := Lib.hid hbx
    clear hs2 hs2' hi2 hh2 hbx
    have hok' : eachErr n R [] (pre.map Yd.key) = 0 := HOK.out
    have one : ∀ er : Int, eltErr n R (ptsY pre) (.mk p cc bb) = er → er ≠ 0 → er = eachErr n R [] (walkL l []) ∧ er ≠ 0 := fun er h1 h2 => by
      rw [HGG.out]
      refine ⟨?_, h2⟩
      show er = eachErr n R [] (pre.map Yd.key ++ (El.mk p cc bb, hs) :: post)
      rw [eachErr_one (z := (El.mk p cc bb, hs)) hok' (by rw [ptsY_key, h1]; exact h2), ptsY_key, h1]
    have HONE := Lib.hid one
    have HOK' := Lib.hid hok'
    clear one hok'
    by_cases hform : cc = false ∧ bb ≠ []
    · obtain ⟨rfl, hbb⟩ := hform
      have hbn : 0 < bb.length := by cases bb with
        | nil => exact absurd rfl hbb
        | cons _ _ => simp
      have hbi : (0 : Int) < (bb.length : Int) := by omega
      have h3 : eltErr n R (ptsY pre) (.mk p false bb) = 3 := elt3 rfl hbb
      have H3 := Lib.hid h3
      clear hbb h3
      gi_wp2
      exact ⟨(KeepsOthers.setCell _ _ _).from _, 3, ⟨rfl, (HONE.out 3 H3.out (by decide))⟩, by simpa using HI2.out.be.set 0 (.int .i64 3), HI2.out.bel.setCell (by show w.heap.size ≤ w.heap.size + 1; omega) _⟩
    have hform' : cc = true ∨ (cc = false ∧ bb = []) := by
      cases cc
      · exact .inr ⟨rfl, Classical.byContradiction fun e => hform ⟨rfl, e⟩⟩
      · exact .inl rfl
    by_cases hneg : p < 0
    · have h6 : eltErr n R (ptsY pre) (.mk p cc bb) = 6 := elt6 hform (.inl hneg)
      have H6 := Lib.hid h6
      clear h6 hform
      rcases hform' with rfl | ⟨rfl, rfl⟩
      all_goals
        gi_wp2
        exact ⟨(KeepsOthers.setCell _ _ _).from _, 6, ⟨rfl, (HONE.out 6 H6.out (by decide))⟩, by simpa using HI2.out.be.set 0 (.int .i64 6), HI2.out.bel.setCell (by show w.heap.size ≤ w.heap.size + 1; omega) _⟩
    obtain ⟨q, rfl⟩ : ∃ q : Nat, p = (q : Int) := ⟨p.toNat, by omega⟩
    clear hneg
    have hq0 : (0 : Int) ≤ (q : Int) := by omega
    by_cases hge : n ≤ q
    · have hgi : (n : Int) ≤ (q : Int) := by omega
      have h6 : eltErr n R (ptsY pre) (.mk (q : Int) cc bb) = 6 := elt6 hform (.inr (.inl hgi))
      have H6 := Lib.hid h6
      clear h6 hform
      rcases hform' with rfl | ⟨rfl, rfl⟩
      all_goals
        gi_wp2
        exact ⟨(KeepsOthers.setCell _ _ _).from _, 6, ⟨rfl, (HONE.out 6 H6.out (by decide))⟩, by simpa using HI2.out.be.set 0 (.int .i64 6), HI2.out.bel.setCell (by show w.heap.size ≤ w.heap.size + 1; omega) _⟩
    have hqn : q < n := by omega
    have hqi : (q : Int) < (n : Int) := by omega
    clear hge
    have hRq : q < R.length := by rw [HLR.out]; exact hqn
    have hRi : (q : Int) < (R.length : Int) := by omega
    obtain ⟨Ar', cr', hre, -, -, -, hra⟩ := HI2.out.rd.shape
    simp only at hre
    obtain ⟨ar, u, hA', -, hcq, hu⟩ := hra q R[q] (List.getElem?_eq_getElem hRq)
    cases hre
    subst hA'
    obtain rfl : u = .bool R[q] := hu
    have hgd : R.getD q false = R[q] := by rw [List.getD_eq_getElem?_getD, List.getElem?_eq_getElem hRq]; rfl
    obtain ⟨rq, hrq⟩ : ∃ rq, rq = R[q] := ⟨_, rfl⟩
    rw [← hrq] at hcq hgd
    clear hra hrq
    cases rq with
    | false =>
      have h6 : eltErr n R (ptsY pre) (.mk (q : Int) cc bb) = 6 := elt6 hform (.inr (.inr hgd))
      have H6 := Lib.hid h6
      clear h6 hform hgd
      rcases hform' with rfl | ⟨rfl, rfl⟩
      all_goals
        gi_wp2
        exact ⟨(KeepsOthers.setCell _ _ _).from _, 6, ⟨rfl, (HONE.out 6 H6.out (by decide))⟩, by simpa using HI2.out.be.set 0 (.int .i64 6), HI2.out.bel.setCell (by show w.heap.size ≤ w.heap.size + 1; omega) _⟩
    | true =>
      have hnot : ¬ ((q : Int) < 0 ∨ (n : Int) ≤ (q : Int) ∨ R.getD ((q : Int)).toNat false = false) := by
        rw [Int.toNat_natCast, hgd]
        simp
        omega
      clear hgd
      by_cases hin : (q : Int) ∈ ptsY pre
      · have hse : (plS pre (q : Int)).isSome = true := by rw [plS_some]; exact decide_eq_true hin
        rw [hse] at hlk
        have h7 : eltErr n R (ptsY pre) (.mk (q : Int) cc bb) = 7 := elt7 hform hnot hin
        have H7 := Lib.hid h7
        clear hin hse h7 hform hnot
        rcases hform' with rfl | ⟨rfl, rfl⟩
        all_goals
          gi_wp2
          exact ⟨(KeepsOthers.setCell _ _ _).from _, 7, ⟨rfl, (HONE.out 7 H7.out (by decide))⟩, by simpa using HI2.out.be.set 0 (.int .i64 7), HI2.out.bel.setCell (by show w.heap.size ≤ w.heap.size + 1; omega) _⟩
      · have hse : (plS pre (q : Int)).isSome = false := by rw [plS_some]; exact decide_eq_false hin
        rw [hse] at hlk
        have hnext := eachErr_next (z := (El.mk (q : Int) cc bb, hs)) HOK'.out (by rw [ptsY_key]; exact elt0 hform hnot hin)
        have hlen2 := (hi3.m1.same (w' := W2.drew) rfl).len (t := 96) Tryz.underlying96
        have hpn := plS_none hin
        have hwn := wiS_none hin
        have HNX := Lib.hid hnext
        have HI3 := Lib.hid hi3
        obtain ⟨yd, hyd⟩ : ∃ yd : Yd, yd = ⟨.mk (q : Int) cc bb, hs, .slice Ab (El.mk (q : Int) cc bb).body.length cb, .slice Ah hs.length ch⟩ := ⟨_, rfl⟩
        have HYD := Lib.hid hyd
        clear hyd
        have HIN3 := Lib.hid hin
        have HPN := Lib.hid hpn
        have HWN := Lib.hid hwn
        clear hin hse hform hnot hnext hpn hwn hi3
        simp only at hlen2
        rcases hform' with rfl | ⟨rfl, rfl⟩
        all_goals
          gi_wp2
          refine wpIn_region_front (S := fun w' => w'.cell? ⟨w1.heap.size + 1 + 1 + 1, 0, none⟩ = some (.map (some (w1.heap.size + 1))) ∧ w'.cell? ⟨w1.heap.size + 1 + 1 + 1 + 1, 0, none⟩ = some (.map (some (w1.heap.size + 1 + 1))) ∧ w'.cell? ⟨W.heap.size, 0, none⟩ = some (.int .i64 (q : Int))) 8 10 (by kernel_rfl) (by rintro ⟨a, w, h⟩; exact h) (by kernel_rfl) (by kernel_rfl) (by decide) rfl (by kernel_rfl) (by kernel_rfl) (fun _ _ _ h => h) (.inl ⟨by rfl, fun w' => by rfl⟩) ?_
          simp only [Act.put, List.setIfInBounds_toArray, List.set_cons_zero, List.set_cons_succ]
          have hHeld : W2.drew.cell? ⟨w1.heap.size + 1 + 1 + 1, 0, none⟩ = some (.map (some (w1.heap.size + 1))) ∧ W2.drew.cell? ⟨w1.heap.size + 1 + 1 + 1 + 1, 0, none⟩ = some (.map (some (w1.heap.size + 1 + 1))) ∧ W2.drew.cell? ⟨W.heap.size, 0, none⟩ = some (.int .i64 (q : Int)) := ⟨q1, q2, x0⟩
          clear qg qe fe qr q1 q2 x0 x1 x2 hlk
          refine Front.take 0 (v := ?_) rfl (by decide) (by kernel_rfl) (by kernel_rfl) (fun _ _ _ h => h) rfl hHeld ?_ ?_
          case refine_2 => intro w' hSw; obtain ⟨q1, q2, q3⟩ := hSw; go_simp <;> with_reducible rfl
          simp only [Act.put, List.setIfInBounds_toArray, List.set_cons_zero, List.set_cons_succ]
          refine Front.take 1 (v := ?_) rfl (by decide) (by kernel_rfl) (by kernel_rfl) (fun _ _ _ h => h) rfl hHeld ?_ ?_
          case refine_2 => intro w' hSw; obtain ⟨q1, q2, q3⟩ := hSw; go_simp <;> with_reducible rfl
          simp only [Act.put, List.setIfInBounds_toArray, List.set_cons_zero, List.set_cons_succ]
          refine Front.take 2 (v := ?_) rfl (by decide) (by kernel_rfl) (by kernel_rfl) (fun _ _ _ h => h) rfl hHeld ?_ ?_
          case refine_2 => intro w' hSw; obtain ⟨q1, q2, q3⟩ := hSw; go_simp <;> with_reducible rfl
          simp only [Act.put, List.setIfInBounds_toArray, List.set_cons_zero, List.set_cons_succ]
          refine Front.take 3 (v := ?_) rfl (by decide) (by kernel_rfl) (by kernel_rfl) (fun _ _ _ h => h) rfl hHeld ?_ ?_
          case refine_2 => intro w' hSw; obtain ⟨q1, q2, q3⟩ := hSw; go_simp <;> with_reducible rfl
          simp only [Act.put, List.setIfInBounds_toArray, List.set_cons_zero, List.set_cons_succ]
          refine Front.take 4 (v := ?_) rfl (by decide) (by kernel_rfl) (by kernel_rfl) (fun _ _ _ h => h) rfl hHeld ?_ ?_
          case refine_2 => intro w' hSw; obtain ⟨q1, q2, q3⟩ := hSw; go_simp <;> with_reducible rfl
          simp only [Act.put, List.setIfInBounds_toArray, List.set_cons_zero, List.set_cons_succ]
          refine Front.take 5 (v := ?_) rfl (by decide) (by kernel_rfl) (by kernel_rfl) (fun _ _ _ h => h) rfl hHeld ?_ ?_
          case refine_2 => intro w' hSw; obtain ⟨q1, q2, q3⟩ := hSw; go_simp <;> with_reducible rfl
          simp only [Act.put, List.setIfInBounds_toArray, List.set_cons_zero, List.set_cons_succ]
          refine Front.take 6 (v := ?_) rfl (by decide) (by kernel_rfl) (by kernel_rfl) (fun _ _ _ h => h) rfl hHeld ?_ ?_
          case refine_2 => intro w' hSw; obtain ⟨q1, q2, q3⟩ := hSw; go_simp <;> with_reducible rfl
          simp only [Act.put, List.setIfInBounds_toArray, List.set_cons_zero, List.set_cons_succ]
          refine Front.one (i := 7) (by kernel_rfl) (by decide) ?_
          refine FrontStep.of rfl (fun K hK => ?_)
          go_simp
          refine hK _ _ hHeld ?_
          clear K hK
          refine Front.one (i := 9) (by kernel_rfl) (by decide) ?_
          refine FrontStep.of rfl (fun K hK => ?_)
          rw [if_pos (by rfl)]
          refine oper_put_mapV (.tmp 71) (.tmp 73) (.tmp 78) 96 3 rfl Tryz.underlying96 rfl (HI3.out.m1.same (w' := W2.drew) rfl) (by unfold maxLen; omega) rfl HN6.out HPN.out rfl ?_
          intro w3 hm3 hg3
          have hkp3 : ∀ {g : Nat} {t : TypeId} {cs : List Value}, Blk W2 g t cs → Blk w3 g t cs := fun hb => hb.same (hg3.block _ hb.lt (fun e' => by cases e'; exact HI3.out.m1.untyped (Typed.blk hb) rfl))
          refine hK _ w3 ⟨(hkp3 HI3.out.b1).cellAt (i := 0) rfl, (hkp3 HI3.out.b2).cellAt (i := 0) rfl, (hkp3 HBX.out).cellAt (i := 0) rfl⟩ ?_
          clear K hK
          refine Front.done (by kernel_rfl) ?_
          simp only [List.drop_succ_cons, List.drop_zero, Act.put]
          refine wpList_put_mapV rfl (.tmp 74) (.tmp 76) (.tmp 79) 97 31 rfl Tryz.underlying97 rfl (HI3.out.m2.same (w' := w3) (hg3.block _ HI3.out.m2.lt (fun e' => by simp at e'))) (by unfold maxLen; omega) rfl HN6.out HWN.out rfl ?_
          intro w4 hm4 hg4
          have hon0 : Only (fun b => b = w1.heap.size + 1 ∨ b = w1.heap.size + 1 + 1) W2.drew w4 := (Only.of_grown (S := fun b => b = w1.heap.size + 1) (w := W2.drew) hg3 (fun b e' => by cases e'; rfl) |>.mono (T := fun b => b = w1.heap.size + 1 ∨ b = w1.heap.size + 1 + 1) (fun b _ e' => .inl e')).trans (Only.of_grown (S := fun b => b = w1.heap.size + 1 + 1) hg4 (fun b e' => by cases e'; rfl)) (fun b _ e' => .inr e')
          have hon : Only (fun b => b = w1.heap.size + 1 ∨ b = w1.heap.size + 1 + 1) W2 w4 := ⟨hon0.os, hon0.tape, hon0.output, hon0.size, hon0.block⟩
          have hst := CIn.step (y := yd) HI3.out hon (by rw [HYD.out]; exact hm3.same (hg4.block _ hm3.lt (fun e' => by simp at e'))) (by rw [HYD.out]; exact hm4) (by rw [HYD.out]; exact HIN3.out) (by rw [HYD.out]; exact HNX.out) (by rw [HYD.out]; exact HH2.out) (fun b hb => by have := (HO.out b hb).2; have := HS2.out; omega)
          clear hm3 hg3 hm4 hg4 hon hon0 hkp3
          rw [HYD.out] at hst
          have hfin := And.intro (show KeepsFrom W0.heap.size W2 w4 by rw [hs0]; exact hst.1) hst.2
          exact hfin
  case done =>
    rintro D ys W hD hE hI hdef
    subst he
    have hpts : ptsY ys = ptsL l := by rw [← walkL_pts l [], ← hE]; exact (ptsY_key ys).symm
    have hok : eachErr n R [] (walkL l []) = 0 := by rw [← hE]; exact hI.ok
    have qr := hI.br.cellAt (i := 0) rfl
    have q1 := hI.b1.cellAt (i := 0) rfl
    have qe := hI.be.cellAt (i := 0) rfl
    have fe := hI.be.frozen 0
    have qg := hI.bg.cellAt (i := 2) rfl
    simp only at qr q1 qe fe qg
    have hRl : R.length ≤ 512 := by rw [HLR.out]; exact hgn
    have hDb : w.heap.size + 1 < D := by omega
    have HI := Lib.hid hI
    have HPT := Lib.hid hpts
    have HOK := Lib.hid hok
    have HEE := Lib.hid hE
    have HDF := Lib.hid hdef
    clear hI hpts hok hE hdef
    go_wp2
    go_loop [82] (fun i => ∃ m : Nat, m ≤ R.length ∧ i = .int .i64 m ∧ Hid (∀ j, j < m → R.getD j false = true → ((j : Nat) : Int) ∈ ptsL l)) (fun i => R.length - (intOf i).toNat)
    case atStart => exact ⟨0, Nat.zero_le _, rfl, Lib.hid (fun j hj => absurd hj (Nat.not_lt_zero j))⟩
    case round =>
      obtain ⟨m, hm, rfl, HM⟩ := hrel
      by_cases hlt : m < R.length
      · obtain ⟨Ar', cr', hre, -, -, -, hra⟩ := HI.out.rd.shape
        simp only at hre
        obtain ⟨ar, u, hA', -, hcq, hu⟩ := hra m R[m] (List.getElem?_eq_getElem hlt)
        cases hre
        subst hA'
        obtain rfl : u = .bool R[m] := hu
        have hgd : R.getD m false = R[m] := by rw [List.getD_eq_getElem?_getD, List.getElem?_eq_getElem hlt]; rfl
        obtain ⟨rq, hrq⟩ : ∃ rq, rq = R[m] := ⟨_, rfl⟩
        rw [← hrq] at hcq hgd
        have hlk := HI.out.m1.look2 (t := 96) Tryz.underlying96 (z := .int .i64 0) (fun w => by kernel_rfl) (k := (m : Int)) (by unfold InI64; omega)
        rw [plS_some, HPT.out] at hlk
        simp only at hlk
        have hlt1 : (m : Int) < (R.length : Int) := by omega
        clear hra hrq
        have hstep : (R.getD m false = true → ((m : Nat) : Int) ∈ ptsL l) → ∀ j, j < m + 1 → R.getD j false = true → ((j : Nat) : Int) ∈ ptsL l := fun h j hj hr => by
          by_cases e : j = m
          · subst e; exact h hr
          · exact HM.out j (by omega) hr
        cases rq with
        | false =>
          have hnx := hstep (fun e => by rw [hgd] at e; cases e)
          have HNX := Lib.hid hnx
          clear hnx hstep hgd
          go_wp2
          go_round
          case rel => exact ⟨m + 1, by omega, by go_num, HNX⟩
          case measure => simp [intOf]; omega
        | true =>
          by_cases hin : (m : Int) ∈ ptsL l
          · rw [decide_eq_true hin] at hlk
            have hnx := hstep (fun _ => hin)
            have HNX := Lib.hid hnx
            clear hnx hstep hgd hin
            go_wp2
            go_round
            case rel => exact ⟨m + 1, by omega, by go_num, HNX⟩
            case measure => simp [intOf]; omega
          · rw [decide_eq_false hin] at hlk
            have hgp := chkV_gap (E := E) HOK.out (gap_some (n := n) (by have := HLR.out; omega) hgd hin)
            have HGP := Lib.hid hgp
            clear hgp hstep hgd hin
            go_wp2
            have d20 := ((HI.out.be.set 0 (.int .i64 20)).far' D (by show w.heap.size + 1 ≠ D; omega) (o := .deferred none)).cellAt (i := 0) rfl
            try simp only at d20
            refine ⟨by simp, .inl ⟨_, _, rfl, run_takeDeferred ((Below.heap_setCell _ ⟨w.heap.size + 1, 0, none⟩ _ D (by show D ≠ w.heap.size + 1; omega)).trans HDF.out), ?_⟩⟩
            refine ⟨.int .i64 20, by simp [results, Tryz.results16, go_sem, d20], ?_⟩
            have hbb := HI.out.bel.setCell (p := ⟨w.heap.size + 1, 0, none⟩) (by show w.heap.size ≤ w.heap.size + 1; omega) (.int .i64 20)
            exact ⟨by rw [HGP.out], hbb.grown (grownBy_putObj' _ D _) hbb.size (fun k e => by cases e; show w.heap.size ≤ D; omega)⟩
      · obtain rfl : m = R.length := by omega
        have hgn0 : gapB n R (ptsL l) = false := gap_none (fun j hj hr => HM.out j (by rw [HLR.out]; exact hj) hr)
        have HGN := Lib.hid hgn0
        clear HM hgn0 qr q1
        go_wp2
        obtain ⟨_, _, hve, -, -, -, hes⟩ := HV.out.shape
        cases hve
        have HES := Lib.hid (Edges.nat hes)
        clear hes qe fe qg
        go_loopw [102] (fun i wr => ∃ m : Nat, m ≤ E.length ∧ i = .int .i64 m ∧ Hid ((E.take m).any (badEdge' R (ptsL l) (walkL l [])) = false) ∧ Only (fun _ => False) W wr) (fun i _ => E.length - (intOf i).toNat)
        case atStart => exact ⟨0, Nat.zero_le _, rfl, Lib.hid rfl, Only.refl _ _⟩
        case round =>
          obtain ⟨m, hm, rfl, HM, how⟩ := hrel
          by_cases hlt : m < E.length
          · have hek : E[m]? = some E[m] := List.getElem?_eq_getElem hlt
            have hx := HG.out.lt _ (List.getElem_mem hlt)
            have hme : E[m] ∈ E := List.getElem_mem hlt
            have htk : (E.take (m + 1)).any (badEdge' R (ptsL l) (walkL l [])) = badEdge' R (ptsL l) (walkL l []) E[m] := by
              rw [List.take_succ_eq_append_getElem hlt, List.any_append, HM.out]; simp
            have htb : badEdge' R (ptsL l) (walkL l []) E[m] = true → E.any (badEdge' R (ptsL l) (walkL l [])) = true := fun h => List.any_eq_true.2 ⟨_, hme, h⟩
            revert hek hx htk htb
            clear hme
            generalize E[m] = x
            intro hek hx htk htb
            obtain ⟨p, q⟩ := x
            obtain ⟨hp, hq⟩ := hx
            obtain ⟨ad, cs, rfl, hab, hcl, hcc, hc0, hc1, hone⟩ := HES.out m _ hek
            have hbw : Below w.heap.size w W := HI.out.bel
            have hww : Below w.heap.size w wr := hbw.trans (how.below hbw.size (fun _ _ f => f))
            have hcr : ∀ j v, cs[j]? = some v → wr.cell? ((ad.add (m * 21)).add j) = some v := fun j v hj => (hww.cell (by rw [block_add, block_add]; omega)).trans (hcc j v hj)
            have how1 := how.alloc (.cells cs.toArray 61)
            have hbx : Blk (wr.alloc (.cells cs.toArray 61)) wr.heap.size 61 cs := by
              have := Blk.newAt wr 61 cs.toArray rfl
              simpa using this
            have x0 := hbx.cellAt (i := 0) hc0
            have x1 := hbx.cellAt (i := 1) hc1
            have qr := (HI.out.br.only how1 (fun f => f)).cellAt (i := 0) rfl
            have q1 := (HI.out.b1.only how1 (fun f => f)).cellAt (i := 0) rfl
            have q2 := (HI.out.b2.only how1 (fun f => f)).cellAt (i := 0) rfl
            have hpR : p < R.length := by rw [HLR.out]; exact hp
            have hlt1 : (m : Int) < (E.length : Int) := by omega
            have hpR1 : (p : Int) < (R.length : Int) := by omega
            obtain ⟨Ar', cr', hre, -, -, -, hra⟩ := HI.out.rd.shape
            simp only at hre
            obtain ⟨ar, u, hA', -, hcq, hu⟩ := hra p R[p] (List.getElem?_eq_getElem hpR)
            cases hre
            subst hA'
            obtain rfl : u = .bool R[p] := hu
            have hgd : R.getD p false = R[p] := by rw [List.getD_eq_getElem?_getD, List.getElem?_eq_getElem hpR]; rfl
            obtain ⟨rq, hrq⟩ : ∃ rq, rq = R[p] := ⟨_, rfl⟩
            rw [← hrq] at hcq hgd
            have hcq' : (wr.alloc (.cells cs.toArray 61)).cell? (ar.add p) = some (.bool rq) := (World.cell?_of_block (how1.block _ (by
              have h0 := cells_of_cell hcq
              obtain ⟨o, ho, -⟩ := h0
              exact lt_of_block ho) (fun f => f))).trans hcq
            simp only at qr q1 q2
            have HC := Lib.hid hcr
            have HL := Lib.hid hcl
            have H1 := Lib.hid hone
            have HTK := Lib.hid htk
            have HTB := Lib.hid htb
            have HOW1 := Lib.hid how1
            have hlP : InI64 (p : Int) := by unfold InI64; have := HG.out.n512; omega
            have hlQ : InI64 (q : Int) := by unfold InI64; have := HG.out.n512; omega
            have hm1 : MapV (wr.alloc (.cells cs.toArray 61)) _ _ _ := HI.out.m1.same (how1.block _ HI.out.m1.lt (fun f => f))
            have hm2 : MapV (wr.alloc (.cells cs.toArray 61)) _ _ _ := HI.out.m2.same (how1.block _ HI.out.m2.lt (fun f => f))
            have hl1 := hm1.look (t := 96) Tryz.underlying96 (z := .int .i64 0) (fun w => by kernel_rfl) hlP
            have hl2 := hm1.look (t := 96) Tryz.underlying96 (z := .int .i64 0) (fun w => by kernel_rfl) hlQ
            have hl3 := hm2.look (t := 97) Tryz.underlying97 (z := .slice none 0 0) (fun w => by kernel_rfl) hlP
            rw [plS_get, HPT.out] at hl1 hl2
            simp only at hl1 hl2 hl3
            have hhd := (wiS_get HEE.out (w := wr.alloc (.cells cs.toArray 61)) (fun y hy => (HI.out.hd y hy).typed (fun b hb => how1.block b hb.lt (fun f => f))) (p : Int)).ints
            obtain ⟨Ah, ch, hvh, -⟩ := id hhd.shape
            rw [hvh] at hl3 hhd
            have hcon := contains_any _ _ _ _ (q : Int) hhd
            have HCON := Lib.hid hcon
            clear hcc hcr hcl hone hek htk htb hra hrq hcq how1 hbx how hc0 hc1 hm1 hm2 hvh hhd hcon hww hbw hlP hlQ hp hq
            cases rq with
            | false =>
              have hnb : badEdge' R (ptsL l) (walkL l []) (p, q) = false := by unfold badEdge'; simp only; rw [hgd]; simp
              have HNB := Lib.hid hnb
              clear hnb hgd
              go_wp2_with (first
                | ((with_reducible show wpList _ _ _ (⟨some 105, .load 61 (.tmp 104), _, _, _, _⟩ :: _) _ _); refine wpList_load_list rfl _ _ rfl (ad.add (m * 21)) rfl cs _ HC.out Tryz.underlying61 rfl (by rw [HL.out]; exact size_edge) ?_)
                | ((with_reducible show wpList _ _ _ (⟨none, .store 61 (.tmp 18) (.tmp 105), _, _, _, _⟩ :: _) _ _); refine wpList_store_new rfl _ _ _ rfl _ _ cs rfl rfl (by rw [HL.out]; exact size_edge) (by rw [HL.out]; rfl) H1.out ?_))
              go_roundw
              case rel => exact ⟨m + 1, by omega, by go_num, Lib.hid (HTK.out.trans HNB.out), HOW1.out⟩
              case measure => simp [intOf]; omega
            | true =>
              by_cases hab2 : placeI (ptsL l) (q : Int) ≤ placeI (ptsL l) (p : Int)
              · obtain ⟨bc, hbc⟩ : ∃ bc, bc = (insW (walkL l []) (p : Int)).contains (q : Int) := ⟨_, rfl⟩
                have hedg : badEdge' R (ptsL l) (walkL l []) (p, q) = !bc := by unfold badEdge'; simp only; rw [hgd, decide_eq_true hab2, hbc]; simp
                have HED := Lib.hid hedg
                have HBC := Lib.hid hbc
                clear hgd hedg hbc
                cases bc with
                | true =>
                  go_wp2_with (first
                    | ((with_reducible show wpList _ _ _ (⟨some 105, .load 61 (.tmp 104), _, _, _, _⟩ :: _) _ _); refine wpList_load_list rfl _ _ rfl (ad.add (m * 21)) rfl cs _ HC.out Tryz.underlying61 rfl (by rw [HL.out]; exact size_edge) ?_)
                    | ((with_reducible show wpList _ _ _ (⟨none, .store 61 (.tmp 18) (.tmp 105), _, _, _, _⟩ :: _) _ _); refine wpList_store_new rfl _ _ _ rfl _ _ cs rfl rfl (by rw [HL.out]; exact size_edge) (by rw [HL.out]; rfl) H1.out ?_)
                    | (go_at_call 38; refine HCON.out.mono ?_; rintro en w5 ⟨rfl, ho5⟩; rw [← HBC.out]))
                  go_roundw
                  case rel => exact ⟨m + 1, by omega, by go_num, Lib.hid (HTK.out.trans HED.out), HOW1.out.trans ho5 (fun _ _ f => f)⟩
                  case measure => simp [intOf]; omega
                | false =>
                  have hck := chkV_edge HOK.out HGN.out (HTB.out HED.out)
                  have HCK := Lib.hid hck
                  clear hck
                  go_wp2_with (first
                    | ((with_reducible show wpList _ _ _ (⟨some 105, .load 61 (.tmp 104), _, _, _, _⟩ :: _) _ _); refine wpList_load_list rfl _ _ rfl (ad.add (m * 21)) rfl cs _ HC.out Tryz.underlying61 rfl (by rw [HL.out]; exact size_edge) ?_)
                    | ((with_reducible show wpList _ _ _ (⟨none, .store 61 (.tmp 18) (.tmp 105), _, _, _, _⟩ :: _) _ _); refine wpList_store_new rfl _ _ _ rfl _ _ cs rfl rfl (by rw [HL.out]; exact size_edge) (by rw [HL.out]; rfl) H1.out ?_)
                    | (go_at_call 38; refine HCON.out.mono ?_; rintro en w5 ⟨rfl, ho5⟩; rw [← HBC.out]; have how5 := HOW1.out.trans ho5 (fun _ _ f => f); have hbe' := HI.out.be.only how5 (fun f => f); have qe := hbe'.cellAt (i := 0) rfl; have fe := hbe'.frozen 0))
                  have HOW := Lib.hid how5
                  have HBE := Lib.hid hbe'
                  have d14 := ((HBE.out.set 0 (.int .i64 14)).far' D (by show w.heap.size + 1 ≠ D; omega) (o := .deferred none)).cellAt (i := 0) rfl
                  try simp only at d14
                  refine ⟨by simp, .inl ⟨_, _, rfl, run_takeDeferred ((Below.heap_setCell _ ⟨w.heap.size + 1, 0, none⟩ _ D (by show D ≠ w.heap.size + 1; omega)).trans ((HOW.out.block D (lt_of_block HDF.out) (fun f => f)).trans HDF.out)), ?_⟩⟩
                  refine ⟨.int .i64 14, by simp [results, Tryz.results16, go_sem, d14], ?_⟩
                  have hbb := (HI.out.bel.trans (HOW.out.below HI.out.bel.size (fun _ _ f => f))).setCell (p := ⟨w.heap.size + 1, 0, none⟩) (by show w.heap.size ≤ w.heap.size + 1; omega) (.int .i64 14)
                  exact ⟨by rw [HCK.out], hbb.grown (grownBy_putObj' _ D _) hbb.size (fun k e => by cases e; show w.heap.size ≤ D; omega)⟩
              · have hnb : badEdge' R (ptsL l) (walkL l []) (p, q) = false := by unfold badEdge'; simp only; rw [decide_eq_false hab2]; simp
                have HNB := Lib.hid hnb
                have hab3 : decide (placeI (ptsL l) (q : Int) ≤ placeI (ptsL l) (p : Int)) = false := decide_eq_false hab2
                clear hnb hgd
                go_wp2_with (first
                  | ((with_reducible show wpList _ _ _ (⟨some 105, .load 61 (.tmp 104), _, _, _, _⟩ :: _) _ _); refine wpList_load_list rfl _ _ rfl (ad.add (m * 21)) rfl cs _ HC.out Tryz.underlying61 rfl (by rw [HL.out]; exact size_edge) ?_)
                  | ((with_reducible show wpList _ _ _ (⟨none, .store 61 (.tmp 18) (.tmp 105), _, _, _, _⟩ :: _) _ _); refine wpList_store_new rfl _ _ _ rfl _ _ cs rfl rfl (by rw [HL.out]; exact size_edge) (by rw [HL.out]; rfl) H1.out ?_))
                go_roundw
                case rel => exact ⟨m + 1, by omega, by go_num, Lib.hid (HTK.out.trans HNB.out), HOW1.out⟩
                case measure => simp [intOf]; omega
          · obtain rfl : m = E.length := by omega
            have hbd := HM.out
            rw [List.take_length] at hbd
            have hck := chkV_ok HOK.out HGN.out hbd
            have HCK := Lib.hid hck
            have HOW := Lib.hid how
            have hbe' := HI.out.be.only how (fun f => f)
            have qe := hbe'.cellAt (i := 0) rfl
            have fe := hbe'.frozen 0
            have HBE := Lib.hid hbe'
            try simp only at qe fe
            clear hbd hck how hbe'
            go_wp2
            have d0 := ((HBE.out.set 0 (.int .i64 0)).far' D (by show w.heap.size + 1 ≠ D; omega) (o := .deferred none)).cellAt (i := 0) rfl
            try simp only at d0
            refine ⟨by simp, .inl ⟨_, _, rfl, run_takeDeferred ((Below.heap_setCell _ ⟨w.heap.size + 1, 0, none⟩ _ D (by show D ≠ w.heap.size + 1; omega)).trans ((HOW.out.block D (lt_of_block HDF.out) (fun f => f)).trans HDF.out)), ?_⟩⟩
            refine ⟨.int .i64 0, by simp [results, Tryz.results16, go_sem, d0], ?_⟩
            have hbb := (HI.out.bel.trans (HOW.out.below HI.out.bel.size (fun _ _ f => f))).setCell (p := ⟨w.heap.size + 1, 0, none⟩) (by show w.heap.size ≤ w.heap.size + 1; omega) (.int .i64 0)
            exact ⟨by rw [HCK.out], hbb.grown (grownBy_putObj' _ D _) hbb.size (fun k e => by cases e; show w.heap.size ≤ D; omega)⟩
  case stop =>
    rintro D cd pre W hD ⟨er, ⟨rfl, her, hne⟩, h1, h4⟩ hdef
    subst he
    have hck : chkV n E R l = er := (chkV_err (E := E) (by rw [← her]; exact hne)).trans her.symm
    have HCK := Lib.hid hck
    have HDF := Lib.hid hdef
    have H4 := Lib.hid h4
    simp only at h1
    have d1 := (h1.far' D (by show w.heap.size + 1 ≠ D; omega) (o := .deferred none)).cellAt (i := 0) rfl
    clear hck hdef h4 her hne h1
    gi_wp2
    refine ⟨by simp, .inl ⟨_, _, rfl, run_takeDeferred HDF.out, ?_⟩⟩
    refine ⟨.int .i64 er, by simp [results, Tryz.results16, go_sem, d1], ?_⟩
    exact ⟨by rw [HCK.out], H4.out.grown (grownBy_putObj' _ D _) H4.out.size (fun k e => by cases e; show w.heap.size ≤ D; omega)⟩
end Go.Proofs.YthaampinmelgaaaGreatDoor
