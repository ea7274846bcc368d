/- A range over a function whose iterator keeps blocks of its own between the rounds (a set that grows and shrinks as it goes): the body may know what it is handed, and leaves those blocks as they lay. -/
import Derived.Test.YthaampinmelgaaaGreatDoorRange
namespace Go.Proofs.YthaampinmelgaaaGreatDoor
open Go.RowKit

/-- What the caller says between two rounds, O being the iterator's own blocks: it abides new blocks, turns of what is no cells from B on, and another set O of old ones and new ones. -/
def OwnG {β : Type} (B : Nat) (I : β → (Nat → Prop) → World → Prop) : Prop :=
  ∀ s O O' A A' row, I s O A → A.grownBy A' row → (∀ r, row = some r → B ≤ r ∧ ∃ o : Obj, A.heap[r]? = some o ∧ o.isCells = false) → (∀ b, O' b → (O b ∨ A.heap.size ≤ b) ∧ b < A'.heap.size) → I s O' A'
/-- The same, of what the iterator does: it lays new blocks alone. -/
def AbG {β : Type} (J : β → (Nat → Prop) → World → Prop) : Prop :=
  ∀ s O O' A A', J s O A → A.grownBy A' none → (∀ b, O' b → (O b ∨ A.heap.size ≤ b) ∧ b < A'.heap.size) → J s O' A'
def SeqG {α : Type} (F : Fence) (n : Nat) (P : Program) (g : Nat) (lb : Array Value) (encs : α → Array Value) (Nx : List α → α → (Nat → Prop) → World → Prop) (End : List α → Prop) (O0 : Nat → Prop) (w : World) : Prop :=
  ∀ (l : Nat) (J : List α → (Nat → Prop) → World → Prop) (Jx : List α → World → Prop) (W : World), Below w.heap.size w W → AbG J → (∀ s A A', Jx s A → A.grownBy A' none → Jx s A') →
    (∀ pre x O W1, J pre O W1 → Nx pre x O W1 → YieldAt F (n - 1) P l (encs x) W1 fun e W' =>
      (e = .returned (.bool true) ∧ J (pre ++ [x]) O W' ∧ (∀ b, O b → W'.heap[b]? = W1.heap[b]?) ∧ W1.heap.size ≤ W'.heap.size) ∨ (e = .returned (.bool false) ∧ Jx (pre ++ [x]) W')) →
    J [] O0 W →
    CallsIn F n P g (#[.func (.yield l) #[] #[]] ++ lb) W fun e W' => (∃ v, e = .returned v) ∧ ((∃ ys, End ys ∧ J ys O0 W') ∨ ∃ pre, Jx pre W')

/-- How the body of a round may be left. -/
def postG {α : Type} (B : Nat) (I : List α → (Nat → Prop) → World → Prop) (Ix : Code → List α → World → Prop) (xs : List α) (O : Nat → Prop) (W : World) : Exit → Act → World → Prop
  | .normal, _, W' => KeepsFrom B W W' ∧ (∀ b, O b → W'.heap[b]? = W.heap[b]?) ∧ I xs O W'
  | .ret, _, W' => KeepsFrom B W W' ∧ Ix .ret xs W'
  | .exit id, _, W' => KeepsFrom B W W' ∧ Ix (.exit id) xs W'
  | .goto t, _, W' => KeepsFrom B W W' ∧ Ix (.goto t) xs W'
  | .panic _, _, _ => False
  | .outgrown, _, _ => False

variable {F : Fence} {n : Nat} {P : Program}

theorem wpIn_range_ghost {α : Type} {g : Operand} {ps : Array Tmp} {assign body : Code} {Q : Exit → Act → World → Prop} {a : Act} {w : World}
    (hro : F.round = none) (h1 : 1 ≤ n) {gf : Nat} {lb : Array Value} (hg : a.eval g = .func (.func gf) #[] lb) (hFg : F.fn gf) (eg : ∀ args w, (callFunc gf args).run P w = .ok (.enter gf args) w)
    {encs : α → Array Value} {Nx : List α → α → (Nat → Prop) → World → Prop} {End : List α → Prop} {O0 : Nat → Prop} {w0 : World} (hseq : SeqG F (n - 1) P gf lb encs Nx End O0 w0)
    (hb0 : Below w0.heap.size w0 w) (hps : ∀ x, (encs x).size = ps.size) (hO0 : ∀ b, O0 b → b < w.heap.size)
    (I : List α → (Nat → Prop) → World → Prop) (Ix : Code → List α → World → Prop) (hI : OwnG w.heap.size I) (hIx : ∀ c, OwnFrom w.heap.size (Ix c)) (h0 : I [] O0 w)
    (hround : ∀ (l : Nat) (pre : List α) (x : α) (O : Nat → Prop) (W : World), w.heap.size ≤ l → (∃ r, W.heap[l]? = some (.loop r)) → (∀ b, O b → b ≠ l ∧ b < W.heap.size) → I pre O W → Nx pre x O W →
      ∀ K : Act → World → Prop, (∀ a' W1, W.grownBy W1 none → (∀ W2, Only (fun b => b = l) W1 W2 → W2.heap.size = W1.heap.size → (∃ r, W2.heap[l]? = some (.loop r)) → I pre O W2 → body.wpIn (F.inRound l) (n - 1 - 1) P (postG w.heap.size I Ix (pre ++ [x]) O W2) a' W2) → K a' W1) →
      assign.wpIn (F.inRound l) (n - 1 - 1) P (Exit.then K (fun _ _ _ => False)) { tmps := (ps.zip (encs x)).foldl (fun t (p, v) => t.setIfInBounds p v) a.tmps, defers := [] } W)
    (hdone : ∀ (D : Nat) (ys : List α) (W : World), w.heap.size ≤ D → End ys → I ys O0 W → W.heap[D]? = some (.deferred (some [])) → Q .normal { a with defers := { target := .collected D, args := #[] } :: a.defers } W)
    (hstop : ∀ (D : Nat) (c : Code) (pre : List α) (W : World), w.heap.size ≤ D → Ix c pre W → W.heap[D]? = some (.deferred (some [])) → c.wpIn F n P Q { a with defers := { target := .collected D, args := #[] } :: a.defers } W) :
    (Code.rangeFunc g ps assign body).wpIn F n P Q a w := by
  refine wpIn_rangeFunc ?_
  intro fn hfn
  rw [hro]
  obtain ⟨rec, hrec⟩ : ∃ rec : LoopState → Option Code → Loop, rec = fun st pe => { state := st, pending := pe, fn, tmps := a.tmps, params := ps, assign, body, defers := w.heap.size } := ⟨_, rfl⟩
  have hst : ∀ s p, (rec s p).state = s := by rw [hrec]; intros; rfl
  obtain ⟨W1, hW1⟩ : ∃ W1, (w.alloc (.deferred (some []))).alloc (.loop (rec .ready none)) = W1 := ⟨_, rfl⟩
  have hL1 : W1.heap[w.heap.size + 1]? = some (.loop (rec .ready none)) := by
    have h := World.alloc_heap_new (w.alloc (.deferred (some []))) (.loop (rec .ready none))
    rw [World.size_alloc] at h
    rw [← hW1]; exact h
  have hD1 : W1.heap[w.heap.size]? = some (.deferred (some [])) := by
    rw [← hW1]; exact (Below.heap_alloc _ _ _ (by simp)).trans (World.alloc_heap_new w _)
  have hsz1 : W1.heap.size = w.heap.size + 2 := by rw [← hW1]; simp
  have hne : w.heap.size ≠ w.heap.size + 1 := by omega
  let J : List α → (Nat → Prop) → World → Prop := fun pre O W => I pre O W ∧ W.heap[w.heap.size + 1]? = some (.loop (rec .ready none)) ∧ W.heap[w.heap.size]? = some (.deferred (some [])) ∧ ∀ b, O b → b ≠ w.heap.size + 1 ∧ b < W.heap.size
  let Jx : List α → World → Prop := fun pre W => ∃ c, Ix c pre W ∧ W.heap[w.heap.size + 1]? = some (.loop (rec .done (some c))) ∧ W.heap[w.heap.size]? = some (.deferred (some []))
  have far : ∀ {A B : World}, A.grownBy B none → ∀ (b : Nat) (o : Obj), A.heap[b]? = some o → B.heap[b]? = some o := fun hgr b o ho =>
    (hgr.block b (Array.getElem?_eq_some_iff.1 ho).1 (fun e => by cases e)).trans ho
  have hJ : AbG J := fun s O O' A B hs hgr hO => ⟨hI s O O' A B none hs.1 hgr (fun r e => by cases e) hO, far hgr _ _ hs.2.1, far hgr _ _ hs.2.2.1, fun b hb => by
    obtain ⟨h1, h2⟩ := hO b hb
    refine ⟨?_, h2⟩
    rcases h1 with h1 | h1
    · exact (hs.2.2.2 b h1).1
    · have := (Array.getElem?_eq_some_iff.1 hs.2.1).1; omega⟩
  have hJx : ∀ s A A', Jx s A → A.grownBy A' none → Jx s A' := fun s A B hs hgr => by
    obtain ⟨c, hc, hl, hd⟩ := hs
    exact ⟨c, hIx c s A B none hc hgr (fun r e => by cases e), far hgr _ _ hl, far hgr _ _ hd⟩
  have hJ0 : J [] O0 W1 := by
    have hg1 : w.grownBy W1 none := by
      rw [← hW1]
      have h1 := World.grownBy_alloc w (.deferred (some [])) none
      have h2 := World.grownBy_alloc (w.alloc (.deferred (some []))) (.loop (rec .ready none)) none
      exact ⟨h2.os.trans h1.os, h2.tape.trans h1.tape, h2.output.trans h1.output, Nat.le_trans h1.size h2.size, fun k hk hr => (h2.block k (Nat.lt_of_lt_of_le hk h1.size) hr).trans (h1.block k hk hr)⟩
    exact ⟨hI [] O0 O0 w W1 none h0 hg1 (fun r e => by cases e) (fun b hb => ⟨.inl hb, by have := hO0 b hb; omega⟩), hL1, hD1, fun b hb => by have := hO0 b hb; omega⟩
  have hb1 : Below w0.heap.size w0 W1 := by
    rw [← hW1]; exact (hb0.alloc hb0.size _).alloc (by simp; have := hb0.size; omega) _
  refine ⟨w.heap.size + 1, [{ target := .collected w.heap.size, args := #[] }], W1, { target := .fn (.func gf) lb, args := #[.func (.yield (w.heap.size + 1)) #[] #[]] }, W1, gf,
    #[.func (.yield (w.heap.size + 1)) #[] #[]] ++ lb, W1, ?_, ?_, ?_, ?_, fun _ => h1, ?_⟩
  · rw [← hW1, hrec]; exact run_enterLoop_outer _ _ _ _ _
  · simp only [resolve, hg]; simp [go_sem]
  · intro f' hf'; simp [Target.leads] at hf'; subst hf'; exact hFg
  · simp [invoke, go_sem, eg]
  refine (hseq (w.heap.size + 1) J Jx W1 hb1 hJ hJx ?_ hJ0).mono ?_
  · -- one round
    rintro pre x O W ⟨hi, hl, hk, hO⟩ hnx
    have hy := run_yield (P := P) (args := encs x) hl (by rw [hrec]; exact hps x)
    have hlW : w.heap.size + 1 < W.heap.size := (Array.getElem?_eq_some_iff.1 hl).1
    rw [hrec] at hy
    refine ⟨fn, _, assign, body, hy, roundIn_of_wpIn hfn (hround _ pre x O W (by omega) ⟨_, hl⟩ hO hi hnx _ ?_)⟩
    intro a' W' hgr hb
    have hl' := far hgr _ _ hl
    have hk' := far hgr _ _ hk
    refine ⟨_, run_beginRound hl' (hst _ _), ?_⟩
    have hi' : I pre O W' := hI pre O O W W' none hi hgr (fun r e => by cases e) (fun b hb => ⟨.inl hb, Nat.lt_of_lt_of_le (hO b hb).2 hgr.size⟩)
    obtain ⟨hl2, hk2⟩ := loop_turn hne hl' hk' { rec .ready none with state := .busy }
    have hOW' : ∀ b, O b → b ≠ w.heap.size + 1 ∧ b < W'.heap.size := fun b hb => ⟨(hO b hb).1, Nat.lt_of_lt_of_le (hO b hb).2 hgr.size⟩
    have hi2 : I pre O (W'.putObj (w.heap.size + 1) (.loop { rec .ready none with state := .busy })) := hI pre O O _ _ _ hi' (grownBy_putObj' _ _ _) (fun r e => by cases e; exact ⟨by omega, _, hl', rfl⟩) (fun b hb => ⟨.inl hb, by simp; exact (hOW' b hb).2⟩)
    refine wpIn_mono (hb _ (Only.of_grown (S := fun b => b = w.heap.size + 1) (grownBy_putObj' _ _ _) (fun b e => by cases e; rfl)) (by simp) ⟨_, hl2⟩ hi2) ?_
    have fin : ∀ (jump : Option Code) (W3 : World), KeepsFrom w.heap.size (W'.putObj (w.heap.size + 1) (.loop { rec .ready none with state := .busy })) W3 →
        (Instr.endRound (w.heap.size + 1) jump).run P W3 = .ok (.bool jump.isNone) (W3.putObj (w.heap.size + 1) (.loop (rec (if jump.isNone then .ready else .done) jump))) ∧
        W3.heap[w.heap.size + 1]? = some (.loop { rec .ready none with state := .busy }) ∧
        (W3.putObj (w.heap.size + 1) (.loop (rec (if jump.isNone then .ready else .done) jump))).heap[w.heap.size + 1]? = some (.loop (rec (if jump.isNone then .ready else .done) jump)) ∧
        (W3.putObj (w.heap.size + 1) (.loop (rec (if jump.isNone then .ready else .done) jump))).heap[w.heap.size]? = some (.deferred (some [])) := fun jump W3 hk3 => by
      have hl3 := hk3.same _ _ (by omega) hl2 rfl
      have hd3 := hk3.same _ _ (Nat.le_refl _) hk2 rfl
      refine ⟨?_, hl3, loop_turn hne hl3 hd3 _⟩
      have h := run_endRound (P := P) jump hl3
      rw [hrec] at h ⊢
      exact h
    have putI : ∀ {c : Code} {xs : List α} {W3 : World} (o' : Obj), Ix c xs W3 → W3.heap[w.heap.size + 1]? = some (.loop { rec .ready none with state := .busy }) → Ix c xs (W3.putObj (w.heap.size + 1) o') := fun o' h hl3 =>
      (hIx _).putObj _ h (by omega) hl3 rfl
    rintro e a3 W3 hp
    cases e with
    | normal =>
      obtain ⟨hk3, hkO, hi3⟩ := hp
      obtain ⟨hr, hl3, hl4, hk4⟩ := fin none W3 hk3
      have hs3 := hk3.size
      simp at hs3
      refine ⟨_, _, hr, .inl ⟨rfl, ⟨hI _ O O _ _ _ hi3 (grownBy_putObj' _ _ _) (fun r e => by cases e; exact ⟨by omega, _, hl3, rfl⟩) (fun b hb => ⟨.inl hb, by simp; have := (hOW' b hb).2; omega⟩), hl4, hk4, fun b hb => ⟨(hO b hb).1, by simp; have := (hOW' b hb).2; omega⟩⟩, fun b hb => ?_, by simp; have := hgr.size; omega⟩⟩
      have hbl := (hO b hb).1
      exact (World.putObj_heap_other hbl).trans ((hkO b hb).trans ((World.putObj_heap_other hbl).trans (hgr.block b (hO b hb).2 (fun e => by cases e))))
    | ret =>
      obtain ⟨hr, hl3, hl4, hk4⟩ := fin (some .ret) W3 hp.1
      exact ⟨_, _, hr, .inr ⟨rfl, .ret, putI _ hp.2 hl3, hl4, hk4⟩⟩
    | exit id =>
      obtain ⟨hr, hl3, hl4, hk4⟩ := fin (some (.exit id)) W3 hp.1
      exact ⟨_, _, hr, .inr ⟨rfl, .exit id, putI _ hp.2 hl3, hl4, hk4⟩⟩
    | goto t =>
      obtain ⟨hr, hl3, hl4, hk4⟩ := fin (some (.goto t)) W3 hp.1
      exact ⟨_, _, hr, .inr ⟨rfl, .goto t, putI _ hp.2 hl3, hl4, hk4⟩⟩
    | panic ch => exact hp.elim
    | outgrown => exact hp.elim
  · -- behind the iterator
    rintro e W2 ⟨⟨v, rfl⟩, ⟨ys, hE, hi, hl, hk, hO⟩ | ⟨pre, c, hi, hl, hk⟩⟩
    · exact ⟨none, _, by have h := run_endLoop (P := P) hl (by rw [hst]; simp); rw [hrec] at h; exact h, hdone _ ys _ (Nat.le_refl _) hE (hI _ O0 O0 _ _ _ hi (grownBy_putObj' _ _ _) (fun r e => by cases e; exact ⟨by omega, _, hl, rfl⟩) (fun b hb => ⟨.inl hb, by simp; exact (hO b hb).2⟩)) (loop_turn hne hl hk _).2⟩
    · exact ⟨some c, _, by have h := run_endLoop (P := P) hl (by rw [hst]; simp); rw [hrec] at h; exact h, hstop _ c pre _ (Nat.le_refl _) ((hIx c).putObj _ hi (by omega) hl rfl) (loop_turn hne hl hk _).2⟩

#print axioms wpIn_range_ghost
end Go.Proofs.YthaampinmelgaaaGreatDoor
