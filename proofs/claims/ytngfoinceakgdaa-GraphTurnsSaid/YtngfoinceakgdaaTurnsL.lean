/- The law GraphTurns, walked. -/
import Derived.Test.YtngfoinceakgdaaCutsL
namespace Go.Proofs.Ytngfoinceakgdaa
open Go.RowKit Go.Shelf

/-- Entry and exit exchanged. -/
def swp (x p : Nat) : Nat := if p = 0 then x else if p = x then 0 else p
theorem swp_swp (x p : Nat) : swp x (swp x p) = p := by
  unfold swp
  by_cases h0 : p = 0
  · subst h0
    rw [if_pos rfl]
    by_cases hx : x = 0
    · rw [if_pos hx, hx]
    · rw [if_neg hx, if_pos rfl]
  · rw [if_neg h0]
    by_cases hx : p = x
    · rw [if_pos hx, if_pos rfl, hx]
    · rw [if_neg hx, if_neg h0, if_neg hx]
theorem swp_lt {n x p : Nat} (hx : x < n) (hp : p < n) : swp x p < n := by
  unfold swp; split
  · exact hx
  · split <;> omega
theorem swp_inj {x p q : Nat} (h : swp x p = swp x q) : p = q := by rw [← swp_swp x p, h, swp_swp]

set_option maxRecDepth 100000 in
set_option maxHeartbeats 1000000 in
theorem swap_any (w : World) (g x p : Nat) (hc : w.cell? ⟨g, 1, none⟩ = some (.int .i64 (x : Int))) :
    Calls Try.prog 29 #[.int .i64 (p : Int), .pointer (some ⟨g, 0, none⟩)] w fun en w' => en = .returned (.int .i64 (swp x p : Nat)) ∧ w' = w := by
  by_cases h0 : p = 0
  · subst h0
    have hr : swp x 0 = x := by unfold swp; rw [if_pos rfl]
    rw [hr]
    clear hr
    go_enter Try.func29, Try.ntmps29
    go_wp2
    go_ret
    exact ⟨rfl, rfl⟩
  · have h1 : ((p : Int) == 0) = false := by simpa using h0
    have h2 : (p == 0) = false := by simpa using h0
    by_cases hx : p = x
    · subst hx
      have hr : swp p p = 0 := by unfold swp; rw [if_neg h0, if_pos rfl]
      rw [hr]
      clear hr h0
      go_enter Try.func29, Try.ntmps29
      go_wp2
      go_ret
      exact ⟨rfl, rfl⟩
    · have hr : swp x p = p := by unfold swp; rw [if_neg h0, if_neg hx]
      have h3 : ((p : Int) == (x : Int)) = false := by rw [beq_eq_false_iff_ne]; omega
      have h4 : (p == x) = false := by simpa using hx
      rw [hr]
      clear hr h0 hx
      go_enter Try.func29, Try.ntmps29
      go_wp2
      go_ret
      exact ⟨rfl, rfl⟩

theorem swap0_any (w : World) (g x : Nat) (hc : w.cell? ⟨g, 1, none⟩ = some (.int .i64 (x : Int))) :
    Calls Try.prog 29 #[.int .i64 0, .pointer (some ⟨g, 0, none⟩)] w fun en w' => en = .returned (.int .i64 (x : Int)) ∧ w' = w := by
  have h := swap_any w g x 0 hc
  have hr : swp x 0 = x := by unfold swp; rw [if_pos rfl]
  rw [hr] at h
  exact h

/-- The edges turned, their ends exchanged. -/
def turnE (x : Nat) (E : List (Nat × Nat)) : List (Nat × Nat) := E.map fun e => (swp x e.2, swp x e.1)
theorem turnE_succ {x : Nat} {E : List (Nat × Nat)} {k : Nat} {e : Nat × Nat} (h : E[k]? = some e) : turnE x (E.take (k + 1)) = turnE x (E.take k) ++ [(swp x e.2, swp x e.1)] := by
  obtain ⟨hk, rfl⟩ := List.getElem?_eq_some_iff.1 h
  unfold turnE
  rw [List.take_succ_eq_append_getElem hk, List.map_append]; rfl
theorem turnE_length (x : Nat) (E : List (Nat × Nat)) : (turnE x E).length = E.length := by simp [turnE]
theorem mem_turnE {x p q : Nat} {E : List (Nat × Nat)} : (swp x q, swp x p) ∈ turnE x E ↔ (p, q) ∈ E := by
  unfold turnE
  rw [List.mem_map]
  constructor
  · rintro ⟨⟨a, b⟩, h, e⟩
    injection e with e1 e2
    rw [← swp_inj e1, ← swp_inj e2]
    exact h
  · intro h; exact ⟨(p, q), h, rfl⟩
theorem GOk.turn {n x : Nat} {E : List (Nat × Nat)} (hg : GOk n (x : Int) E) : GOk n (x : Int) (turnE x E) := by
  have hx : x < n := by have := hg.xn; omega
  refine ⟨hg.n1, hg.n512, hg.x0, hg.xn, by rw [turnE_length]; exact hg.len, fun e he => ?_⟩
  unfold turnE at he
  obtain ⟨a, ha, rfl⟩ := List.mem_map.1 he
  have := hg.lt a ha
  exact ⟨swp_lt hx this.2, swp_lt hx this.1⟩

theorem swp_exit (x : Nat) : swp x x = 0 := by
  unfold swp
  by_cases h : x = 0
  · rw [if_pos h, h]
  · rw [if_neg h, if_pos rfl]
theorem turn_rch {n x : Nat} {E : List (Nat × Nat)} (hg : GOk n (x : Int) E) {ok ok' : Nat → Prop} (hok : ∀ q, ok q → ok' (swp x q)) {a b : Nat} (h : Rch ((shapeOf n E).rev x).next ok a b) : Rch (nx n (turnE x E)) ok' (swp x a) (swp x b) := by
  induction h with
  | refl h => exact .refl (hok _ h)
  | @step b c hr hc hk ih => exact .step ih (hg.turn.mem_nx.2 (mem_turnE.2 (hg.mem_rv.1 hc))) (hok _ hk)
theorem rch_turn {n x : Nat} {E : List (Nat × Nat)} (hg : GOk n (x : Int) E) {ok ok' : Nat → Prop} (hok : ∀ q, ok' q → ok (swp x q)) {a b : Nat} (h : Rch (nx n (turnE x E)) ok' a b) : Rch ((shapeOf n E).rev x).next ok (swp x a) (swp x b) := by
  induction h with
  | refl h => exact .refl (hok _ h)
  | @step b c hr hc hk ih =>
    have h1 := hg.turn.mem_nx.1 hc
    rw [← swp_swp x b, ← swp_swp x c] at h1
    exact .step ih (hg.mem_rv.2 (mem_turnE.1 h1)) (hok _ hk)
theorem turn_iff {n x : Nat} {E : List (Nat × Nat)} (hg : GOk n (x : Int) E) {p : Nat} : Rch (nx n (turnE x E)) (fun _ => True) 0 (swp x p) ↔ Rch ((shapeOf n E).rev x).next (fun _ => True) x p := by
  constructor
  · intro h
    have := rch_turn hg (ok := fun _ => True) (fun _ _ => trivial) h
    rw [swp_swp] at this
    have h0 : swp x 0 = x := by unfold swp; rw [if_pos rfl]
    rwa [h0] at this
  · intro h
    have := turn_rch hg (ok' := fun _ => True) (fun _ _ => trivial) h
    rwa [swp_exit] at this
theorem turn_avoid {n x : Nat} {E : List (Nat × Nat)} (hg : GOk n (x : Int) E) {p d : Nat} : Rch (nx n (turnE x E)) (fun q => q ≠ swp x d) 0 (swp x p) ↔ Rch ((shapeOf n E).rev x).next (fun q => q ≠ d) x p := by
  constructor
  · intro h
    have := rch_turn hg (ok := fun q => q ≠ d) (fun q hq e => hq (by rw [← e, swp_swp])) h
    rw [swp_swp] at this
    have h0 : swp x 0 = x := by unfold swp; rw [if_pos rfl]
    rwa [h0] at this
  · intro h
    have := turn_rch hg (ok' := fun q => q ≠ swp x d) (fun q hq e => hq (swp_inj e)) h
    rwa [swp_exit] at this
theorem idom_unique {succ : Nat → List Nat} {ent n : Nat} {res : List Int} (h : IsIdom succ ent n res) {p a b : Nat} (hp : Rch succ (fun _ => True) ent p) (he : p ≠ ent) (ha : getI res p = (a : Int)) (hb : Rch succ (fun _ => True) ent b) (hbp : b ≠ p) (hiff : ∀ d, ¬ Rch succ (fun q => q ≠ d) ent p ↔ d = p ∨ ¬ Rch succ (fun q => q ≠ d) ent b) : b = a := by
  obtain ⟨a', ha', hra, hne, hi⟩ := h.up p hp he
  have : a' = a := by rw [ha'] at ha; omega
  subst this
  obtain ⟨R, hR, hlt⟩ := h.rank
  have h1 : ¬ Rch succ (fun q => q ≠ a') ent b := by
    rcases (hiff a').1 ((hi a').2 (.inr fun k => k.ok_right rfl)) with h2 | h2
    · exact absurd h2 hne
    · exact h2
  have h2 : ¬ Rch succ (fun q => q ≠ b) ent a' := by
    rcases (hi b).1 ((hiff b).2 (.inr fun k => k.ok_right rfl)) with h3 | h3
    · exact absurd h3 hbp
    · exact h3
  rcases dom_rank h hR hlt n b (by omega) hb a' h1 with h3 | h3
  · exact h3
  · rcases dom_rank h hR hlt n a' (by omega) hra b h2 with h4 | h4
    · exact h4.symm
    · omega
/-- The dominators of the turned graph. -/
theorem turn_key {n x : Nat} {E : List (Nat × Nat)} (hg : GOk n (x : Int) E) {r1 r2 : List Int} (h1 : IsIdom ((shapeOf n E).rev x).next x n r1) (h2 : IsIdom (nx n (turnE x E)) 0 n r2) (p : Nat) :
    (getI r1 p = -1 ∧ getI r2 (swp x p) = -1) ∨ ∃ q : Nat, q < n ∧ getI r1 p = (q : Int) ∧ getI r2 (swp x p) = (swp x q : Nat) := by
  have hxn : x < n := by have := hg.xn; omega
  by_cases hp : Rch ((shapeOf n E).rev x).next (fun _ => True) x p
  · have hp2 := (turn_iff hg).2 hp
    by_cases he : p = x
    · subst he
      rw [swp_exit]
      exact .inl ⟨h1.entR, h2.entR⟩
    · right
      obtain ⟨a, ha, hra, hne, hi⟩ := h1.up p hp he
      have he2 : swp x p ≠ 0 := fun e => he (swp_inj (e.trans (swp_exit x).symm))
      obtain ⟨b, hb, hrb, hneb, hib⟩ := h2.up (swp x p) hp2 he2
      refine ⟨a, hra.lt (hg.next_rev_lt x) hxn, ha, ?_⟩
      have hrb' : Rch ((shapeOf n E).rev x).next (fun _ => True) x (swp x b) := by
        rw [← turn_iff hg, swp_swp]; exact hrb
      have := idom_unique h1 hp he ha hrb' (fun e => hneb (by rw [← e, swp_swp])) (fun d => by
        rw [← turn_avoid hg, ← turn_avoid hg (p := swp x b), swp_swp, hib (swp x d)]
        constructor
        · rintro (h3 | h3)
          · exact .inl (swp_inj h3)
          · exact .inr h3
        · rintro (h3 | h3)
          · exact .inl (by rw [h3])
          · exact .inr h3)
      rw [hb, ← this, swp_swp]
  · exact .inl ⟨h1.no p hp, h2.no _ fun h => hp ((turn_iff hg).1 h)⟩

structure TurnS (w W : World) (n x : Nat) (v : Value) (lb fb : Nat) (vr : Value) (E : List (Nat × Nat)) : Prop where
  gv : GV w W n x v
  l : Blk W lb 24 [.int .i64 (n : Int), .int .i64 (x : Int), vr]
  own : W.ownsRow (lb + 1) 58 21 vr E.length (E.map edgeRow).flatten
  lo : w.heap.size < lb
  f : fb = fb
section
variable {w W W' : World} {n x : Nat} {v : Value} {lb fb : Nat} {vr : Value} {E : List (Nat × Nat)}
theorem TurnS.alloc (h : TurnS w W n x v lb fb vr E) (o : Obj) : TurnS w (W.alloc o) n x v lb fb vr E := ⟨h.gv.alloc o, h.l.alloc o, h.own.alloc o, h.lo, rfl⟩
theorem TurnS.drew (h : TurnS w W n x v lb fb vr E) : TurnS w W.drew n x v lb fb vr E := ⟨h.gv.drew, h.l.drew, h.own, h.lo, rfl⟩
theorem TurnS.step (h : TurnS w W n x v lb fb vr E) (hb : Below W.heap.size W W') : TurnS w W' n x v lb fb vr E := ⟨h.gv.step hb, h.l.below hb h.l.lt, own_below h.own hb, h.lo, rfl⟩
end

set_option maxRecDepth 100000 in
set_option maxHeartbeats 4000000 in
theorem turnsL_any (w : World) (v : Value) (n exit : Int) (es : List (Int × Int)) (hv : Edges w.heap.size w v es) :
    Calls Try.prog 6 #[.agg #[.int .i64 n, .int .i64 exit, v]] w fun en w' => en = .returned (.bool true) ∧ Below w.heap.size w w' := by
  have hgo := fun (W : World) (h : GV w W n exit v) => good_any W v n exit es (h.edges hv)
  have hg0 := GV.start w n exit v
  obtain ⟨A, c, rfl, hlc, -, hm, hes⟩ := id hv.shape
  have HGO := Lib.hid hgo
  clear hgo
  by_cases hgood : (few n es && decide (chk n exit es = 0)) = true
  · rw [hgood] at HGO
    rw [Bool.and_eq_true, decide_eq_true_eq] at hgood
    obtain ⟨hfew, hc⟩ := hgood
    obtain ⟨N, E, rfl, rfl, hg⟩ := chk_ok hc
    have hn1 := hg.n1
    have hn512 := hg.n512
    have hlE := hg.len
    obtain ⟨x, rfl⟩ : ∃ x : Nat, exit = x := ⟨exit.toNat, by have := hg.x0; omega⟩
    have hxN : x < N := by have := hg.xn; omega
    have hlen0 : (castE E).length = E.length := castE_length E
    rw [hlen0] at hlc hm hg0 HGO hv ⊢
    have HE := Lib.hid (Edges.nat hes)
    have hd1 := fun (W : World) (h : GV w W N x (.slice A E.length c)) => pdom_sem W.heap.size W _ (h.edges hv) (Nat.le_refl _) hg x rfl
    have hd2 := fun (W : World) (vr : Value) (h : Edges W.heap.size W vr (castE (turnE x E))) => dom_sem W.heap.size W vr h (Nat.le_refl _) hg.turn
    have HD1 := Lib.hid hd1
    have HD2 := Lib.hid hd2
    obtain ⟨ie, hi, hz0, hz1, hz2⟩ := info_parts info_edge
    have HG := Lib.hid hg
    have hmf : ∀ (fn : Fn) (first cap : Array Value) (w : World), (Instr.makeFunc fn first cap).run Try.prog w = .ok (.func fn first cap) w := fun _ _ _ _ => rfl
    clear hd1 hd2 hv hes hlen0 hfew hc hg
    go_enter Try.func6, Try.ntmps6
    go_upto_region 4 with (go_at_call 28; refine (HGO.out _ hg0).mono ?_; rintro en w1 ⟨rfl, hw1⟩; have hg1 := hg0.step hw1; obtain ⟨c0, c1, c2⟩ := hg1.cells)
    clear hmf hw1 hg0
    have hgd := hg1.drew
    go_region_held3 (fun w' => w'.cell? ⟨w.heap.size, 0, none⟩ = some (.int .i64 (N : Int)) ∧ w'.cell? ⟨w.heap.size, 1, none⟩ = some (.int .i64 (x : Int)))
      (first | exact ⟨c0, c1⟩ | exact ⟨(hgd.alloc _).cells.1, (hgd.alloc _).cells.2.1⟩)
      ((go_at_call 29; refine (swap0_any _ w.heap.size x (by first | exact c1 | exact (hgd.alloc _).cells.2.1)).mono ?_; rintro en w2 ⟨rfl, rfl⟩))
    all_goals
      have hts : TurnS w (w1.alloc (.cells #[.int .i64 (N : Int), .int .i64 (x : Int), .slice none 0 0] 24)).drew N x (.slice A E.length c) w1.heap.size 0 (.slice none 0 0) [] :=
        ⟨(hg1.alloc _).drew, (Blk.newAt w1 24 #[.int .i64 (N : Int), .int .i64 (x : Int), .slice none 0 0] rfl).drew, World.ownsRow_nil _ _ _ _, by have := hg1.g.lt; omega, rfl⟩
      obtain ⟨d0, d1, d2⟩ := hts.gv.cells
      clear c0 c1 c2 hgd hg1
      revert hts d0 d1 d2
      generalize (w1.alloc (.cells #[.int .i64 (N : Int), .int .i64 (x : Int), .slice none 0 0] 24)).drew = w2
      generalize w1.heap.size = lb
      intro hts d0 d1 d2
      go_wp2
      clear d0 d1 d2
      go_loopw [25] (fun y wr => ∃ (k : Nat) (vr : Value), k ≤ E.length ∧ y = .int .i64 k ∧ TurnS w wr N x (.slice A E.length c) lb 0 vr (turnE x (E.take k))) (fun y _ => E.length - (intOf y).toNat)
      case atStart => exact ⟨0, .slice none 0 0, Nat.zero_le _, rfl, hts⟩
      case round =>
        obtain ⟨k, vr, hk, rfl, hp⟩ := hrel
        clear hts
        by_cases hlt : k < E.length
        · have hlt1 : (k : Int) < (E.length : Int) := by omega
          have hek : E[k]? = some E[k] := List.getElem?_eq_getElem hlt
          have hts := turnE_succ (x := x) hek
          revert hek hts
          generalize E[k] = e
          intro hek hts
          obtain ⟨f, t⟩ := e
          obtain ⟨ad, cs, rfl, hab, hcl, hcc, hc0, hc1, hone⟩ := HE.out k _ hek
          have hcr : ∀ j v, cs[j]? = some v → wr.cell? ((ad.add (k * 21)).add j) = some v := fun j v hj => (hp.gv.bel.cell (by rw [block_add, block_add]; omega)).trans (hcc j v hj)
          have hpa := hp.alloc (.cells cs.toArray 58)
          have hbe := Blk.new wr 58 cs
          have g0 : (wr.alloc (.cells cs.toArray 58)).cell? ⟨wr.heap.size, 0, none⟩ = some (.int .i64 (f : Int)) := hbe.cellAt hc0
          have g1 : (wr.alloc (.cells cs.toArray 58)).cell? ⟨wr.heap.size, 1, none⟩ = some (.int .i64 (t : Int)) := hbe.cellAt hc1
          have hpl : (turnE x (E.take k)).length = k := by rw [turnE_length, List.length_take]; omega
          have HC := Lib.hid hcr
          have HL := Lib.hid hcl
          have H1 := Lib.hid hone
          have HTS := Lib.hid hts
          have HPL := Lib.hid hpl
          clear hcc hcr hcl hone hek hts hc0 hc1 hp hpl
          go_upto_region 8 with (first
            | ((with_reducible show wpList _ _ _ (⟨some 28, .load 58 (.tmp 27), _, _, _, _⟩ :: _) _ _); refine wpList_load_list rfl _ _ rfl (ad.add (k * 21)) rfl cs _ HC.out Try.underlying58 rfl (by rw [HL.out]; exact size_edge) ?_)
            | ((with_reducible show wpList _ _ _ (⟨none, .store 58 (.tmp 6) (.tmp 28), _, _, _, _⟩ :: _) _ _); refine wpList_store_new rfl _ _ _ rfl _ _ cs rfl rfl (by rw [HL.out]; exact size_edge) (by rw [HL.out]; rfl) H1.out ?_))
          revert hpa g0 g1 hbe
          generalize wr.alloc (.cells cs.toArray 58) = wa
          generalize wr.heap.size = eb
          intro hpa hbe g0 g1
          have hq := hpa.drew
          have hHeld : wa.drew.cell? ⟨lb, 2, none⟩ = some vr ∧ wa.drew.cell? ⟨eb, 0, none⟩ = some (.int .i64 (f : Int)) ∧ wa.drew.cell? ⟨eb, 1, none⟩ = some (.int .i64 (t : Int)) ∧ wa.drew.cell? ⟨w.heap.size, 1, none⟩ = some (.int .i64 (x : Int)) := ⟨hq.l.cellAt rfl, g0, g1, hq.gv.cells.2.1⟩
          clear hpa g0 g1 hbe
          refine wp_region_front (S := fun w' => w'.cell? ⟨lb, 2, none⟩ = some vr ∧ w'.cell? ⟨eb, 0, none⟩ = some (.int .i64 (f : Int)) ∧ w'.cell? ⟨eb, 1, none⟩ = some (.int .i64 (t : Int)) ∧ w'.cell? ⟨w.heap.size, 1, none⟩ = some (.int .i64 (x : Int))) 0 12 (by kernel_rfl) (by kernel_rfl) (by decide) rfl (by kernel_rfl) (by kernel_rfl) (fun _ _ _ h => h) (.inl ⟨by rfl, fun w' => by rfl⟩) ?_
          simp only [Act.put, List.setIfInBounds_toArray, List.set_cons_zero, List.set_cons_succ]
          revert hq hHeld
          generalize wa.drew = wz
          intro hq hHeld
          refine Front.take 1 (v := ?_) rfl (by decide) (by kernel_rfl) (by kernel_rfl) (fun _ _ _ h => h) rfl hHeld ?_ ?_
          case refine_2 => intro w' hSw; obtain ⟨q1, q2, q3, q4⟩ := hSw; go_simp <;> with_reducible rfl
          simp only [Act.put, List.setIfInBounds_toArray, List.set_cons_zero, List.set_cons_succ]
          refine Front.take 2 (v := ?_) rfl (by decide) (by kernel_rfl) (by kernel_rfl) (fun _ _ _ h => h) rfl hHeld ?_ ?_
          case refine_2 => intro w' hSw; obtain ⟨q1, q2, q3, q4⟩ := hSw; go_simp <;> with_reducible rfl
          simp only [Act.put, List.setIfInBounds_toArray, List.set_cons_zero, List.set_cons_succ]
          refine Front.take 3 (v := ?_) rfl (by decide) (by kernel_rfl) (by kernel_rfl) (fun _ _ _ h => h) rfl hHeld ?_ ?_
          case refine_2 => intro w' hSw; obtain ⟨q1, q2, q3, q4⟩ := hSw; go_simp <;> with_reducible rfl
          simp only [Act.put, List.setIfInBounds_toArray, List.set_cons_zero, List.set_cons_succ]
          refine Front.take 4 (v := ?_) rfl (by decide) (by kernel_rfl) (by kernel_rfl) (fun _ _ _ h => h) rfl hHeld ?_ ?_
          case refine_2 => intro w' hSw; obtain ⟨q1, q2, q3, q4⟩ := hSw; go_simp <;> with_reducible rfl
          simp only [Act.put, List.setIfInBounds_toArray, List.set_cons_zero, List.set_cons_succ]
          refine Front.take 6 (v := ?_) rfl (by decide) (by kernel_rfl) (by kernel_rfl) (fun _ _ _ h => h) rfl hHeld ?_ ?_
          case refine_2 => intro w' hSw; obtain ⟨q1, q2, q3, q4⟩ := hSw; go_simp <;> with_reducible rfl
          simp only [Act.put, List.setIfInBounds_toArray, List.set_cons_zero, List.set_cons_succ]
          refine Front.take 7 (v := ?_) rfl (by decide) (by kernel_rfl) (by kernel_rfl) (fun _ _ _ h => h) rfl hHeld ?_ ?_
          case refine_2 => intro w' hSw; obtain ⟨q1, q2, q3, q4⟩ := hSw; go_simp <;> with_reducible rfl
          simp only [Act.put, List.setIfInBounds_toArray, List.set_cons_zero, List.set_cons_succ]
          refine Front.take 8 (v := ?_) rfl (by decide) (by kernel_rfl) (by kernel_rfl) (fun _ _ _ h => h) rfl hHeld ?_ ?_
          case refine_2 => intro w' hSw; obtain ⟨q1, q2, q3, q4⟩ := hSw; go_simp <;> with_reducible rfl
          simp only [Act.put, List.setIfInBounds_toArray, List.set_cons_zero, List.set_cons_succ]
          refine Front.one (i := 5) (by kernel_rfl) (by decide) ?_
          refine FrontStep.of rfl (fun K hK => ?_)
          go_simp
          refine (swap_any wz w.heap.size x t hHeld.2.2.2).mono ?_
          rintro en w' ⟨rfl, hw'⟩
          obtain rfl : wz = w' := hw'.symm
          refine hK _ wz hHeld ?_
          clear K hK hw'
          refine Front.one (i := 9) (by kernel_rfl) (by decide) ?_
          refine FrontStep.of rfl (fun K hK => ?_)
          go_simp
          refine (swap_any wz w.heap.size x f hHeld.2.2.2).mono ?_
          rintro en w' ⟨rfl, hw'⟩
          obtain rfl : wz = w' := hw'.symm
          refine hK _ wz hHeld ?_
          clear K hK hw'
          refine Front.take 10 (v := ?_) rfl (by decide) (by kernel_rfl) (by kernel_rfl) (fun _ _ _ h => h) rfl hHeld ?_ ?_
          case refine_2 => intro w' hSw; obtain ⟨q1, q2, q3, q4⟩ := hSw; go_simp <;> with_reducible rfl
          simp only [Act.put, List.setIfInBounds_toArray, List.set_cons_zero, List.set_cons_succ]
          refine Front.one (i := 11) (by kernel_rfl) (by decide) ?_
          refine FrontStep.of rfl (fun K hK => ?_)
          go_simp
          have hm1 := hq.alloc (.cells (edgeRow (swp x t, swp x f)).toArray 58)
          have hb1 := Blk.new wz 58 (edgeRow (swp x t, swp x f))
          refine hK _ (wz.alloc (.cells (edgeRow (swp x t, swp x f)).toArray 58)) ?_ ?_
          case refine_1 => exact ⟨hm1.l.cellAt rfl, by simp [World.cell?_alloc_some, hHeld.2.1], by simp [World.cell?_alloc_some, hHeld.2.2.1], hm1.gv.cells.2.1⟩
          clear K hK
          revert hm1 hb1
          generalize wz.alloc (.cells (edgeRow (swp x t, swp x f)).toArray 58) = w3
          generalize wz.heap.size = nb
          intro hm1 hb1
          have hO := hm1.own
          rw [HPL.out] at hO
          have c2 := hm1.l.cellAt (i := 2) rfl
          have hsz : lb + 1 ≤ w3.heap.size := hm1.l.lt
          refine Front.done (by kernel_rfl) ?_
          simp only [List.drop_succ_cons, List.drop_zero]
          clear hHeld hq
          go_wp2_with (at_builtin; refine wpList_append_own_at _ rfl (.tmp 30) (.tmp 40) 22 rfl (lb + 1) 58 ie edge0 21 280 Try.underlying22 hi hz0 hz1 hz2 rfl (by decide) vr k _ rfl hO ⟨nb, 0, none⟩ 1 1 (edgeRow (swp x t, swp x f)) rfl rfl ?c1 ?c2 ?c3 ?c4 hsz ?_)
          case c1 =>
            intro j u hj
            exact hb1.cellAt hj
          case c2 => exact edgeRow_one _
          case c3 => simp only [maxLen]; omega
          case c4 => omega
          intro v' w4 hown' hgrow _ _
          obtain ⟨g, cap, rfl⟩ := ownsRow_succ hown'
          have hG := hm1.gv.g.keptOwn hgrow hO (by decide)
          have hL := hm1.l.keptOwn hgrow hO (by decide)
          have hlo := hm1.lo
          have hbx : Below w.heap.size w w4 := hm1.gv.bel.grown hgrow (by omega) (fun j hj => by have := (hO.lt j hj).1; omega)
          have d2 := hL.cellAt (i := 2) rfl
          have f2 := hL.frozen 2
          have hfin : TurnS w (w4.setCell ⟨lb, 2, none⟩ (.slice (some ⟨g, 0, none⟩) (k + 1) cap)) N x (.slice (some ad) E.length c) lb 0 (.slice (some ⟨g, 0, none⟩) (k + 1) cap) (turnE x (E.take (k + 1))) := by
            refine ⟨⟨hG.far (by show w.heap.size ≠ lb; omega) _, hbx.setCell (by show w.heap.size ≤ lb; omega) _⟩, hL.set 2 _, ?_, hlo, rfl⟩
            have h := ownsRow_setCell_below (a := ⟨lb, 2, none⟩) hown' (by show lb < _; omega) (.slice (some ⟨g, 0, none⟩) (k + 1) cap)
            rw [HTS.out, List.length_append, HPL.out, List.map_append, List.flatten_append]
            simpa using h
          have HFIN := Lib.hid hfin
          clear hG hL hbx hfin hown' hgrow hO hm1 hb1 c2
          go_wp2
          go_roundw
          case rel => exact ⟨k + 1, _, by omega, by go_num, HFIN.out⟩
          case measure => simp [intOf]; omega
        · obtain rfl : k = E.length := by omega
          rw [List.take_length] at hp
          have hvr := Edges.of_edgeRows hp.own
          obtain ⟨c0, c1, c2⟩ := hp.gv.cells
          clear hi hz0 hz1 hz2 hk hlt
          go_upto_region 11 with (go_at_call 20; refine (HD1.out _ hp.gv).mono ?_; rintro en w5 ⟨va, r1, rfl, hva, hi1, hw5⟩)
          have hp5 := hp.step hw5
          have hvr5 := (hvr.below hw5).more hw5.size
          clear c0 c1 c2 hp hvr
          have l0 := hp5.l.cellAt (i := 0) rfl
          have l1 := hp5.l.cellAt (i := 1) rfl
          have l2 := hp5.l.cellAt (i := 2) rfl
          go_upto_region 12 with (go_at_call 18; refine (HD2.out _ vr hvr5).mono ?_; rintro en w6 ⟨vb, r2, rfl, hvb, hi2, hw6⟩)
          have hp6 := hp5.step hw6
          have hva6 := (Ints.below hva hw6).more hw6.size
          clear l0 l1 l2 hp5 hvr5 hva
          obtain ⟨c0, c1, c2⟩ := hp6.gv.cells
          obtain ⟨Aa, ca, rfl, hca⟩ := Ints.shapeN hva6 hi1.len
          obtain ⟨Ab, cb, rfl, hcb⟩ := Ints.shapeN hvb hi2.len
          have hgv := hp6.gv
          have hkey := fun p => turn_key HG.out hi1 hi2 p
          have HCA := Lib.hid hca
          have HCB := Lib.hid hcb
          have HKEY := Lib.hid hkey
          clear hca hcb hkey hi1 hi2 hp6 hva6 hvb HD1 HD2 hw5 hw6
          go_wp2
          clear c0 c1 c2
          go_loopw [74] (fun y wr => ∃ p : Nat, p ≤ N ∧ y = .int .i64 p ∧ Below w6.heap.size w6 wr) (fun y _ => N - (intOf y).toNat)
          case atStart => exact ⟨0, Nat.zero_le _, rfl, Below.refl _ _⟩
          case round =>
            obtain ⟨p, hpN, rfl, hbl⟩ := hrel
            have hga := hgv.step hbl
            by_cases hpn : p < N
            · have hpn1 : (p : Int) < (N : Int) := by omega
              have hsn : swp x p < N := swp_lt hxN hpn
              have hsn1 : ((swp x p : Nat) : Int) < (N : Int) := by omega
              obtain ⟨ad1, rfl, hb1, e1⟩ := HCA.out p hpn
              obtain ⟨ad2, rfl, hb2, e2⟩ := HCB.out (swp x p) hsn
              have d1 := (hbl.cell (p := ad1.add p) (by rw [block_add]; exact hb1)).trans e1
              have d2 := (hbl.cell (p := ad2.add (swp x p)) (by rw [block_add]; exact hb2)).trans e2
              obtain ⟨c0, c1, -⟩ := hga.cells
              have hsw := fun (m q : Nat) => swap_any (wr.drewN m) w.heap.size x q c1
              have HSW := Lib.hid hsw
              clear e1 e2 hsw hga
              rcases HKEY.out p with ⟨k1, k2⟩ | ⟨q, hqN, k1, k2⟩
              · rw [k1] at d1
                rw [k2] at d2
                clear k1 k2
                go_wp2
                go_quiet ((go_at_call 29; exact Calls.quiet_of_same (HSW.out _ _)))
                go_wp2
                go_roundw
                case rel => exact ⟨p + 1, by omega, by go_num, below_drewN' hbl _⟩
                case measure => simp [intOf]; omega
              · rw [k1] at d1
                rw [k2] at d2
                clear k1 k2
                have hq1 : decide ((q : Int) < 0) = false := by rw [decide_eq_false_iff_not]; omega
                have hq2 : decide ((N : Int) ≤ (q : Int)) = false := by rw [decide_eq_false_iff_not]; omega
                have hq3 : decide (N ≤ q) = false := by rw [decide_eq_false_iff_not]; omega
                go_wp2
                go_quiet ((go_at_call 29; exact Calls.quiet_of_same (HSW.out _ _)))
                go_wp2
                go_roundw
                case rel => exact ⟨p + 1, by omega, by go_num, below_drewN' hbl _⟩
                case measure => simp [intOf]; omega
            · obtain rfl : p = N := by omega
              go_wp2_with (go_at_call 14; refine (awake_any wr).mono ?_; rintro en w8 ⟨rfl, hw8⟩; have hg8 := hga.step hw8)
              go_ret
              exact ⟨rfl, hg8.bel⟩
  · have hgood' : (few n es && decide (chk n exit es = 0)) = false := by simpa using hgood
    rw [hgood'] at HGO
    clear hgood hgood' hes hv
    go_enter Try.func6, Try.ntmps6
    go_wp2_with (first
      | (go_at_call 28; refine (HGO.out _ hg0).mono ?_; rintro en w1 ⟨rfl, hw1⟩; have hg1 := hg0.step hw1)
      | (go_at_call 14; refine (awake_any w1).mono ?_; rintro en w2 ⟨rfl, hw2⟩; have hg2 := hg1.step hw2))
    go_ret
    exact ⟨rfl, hg2.bel⟩
end Go.Proofs.Ytngfoinceakgdaa
