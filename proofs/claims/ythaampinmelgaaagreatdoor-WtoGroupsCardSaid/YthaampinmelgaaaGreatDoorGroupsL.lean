/- The law WtoGroups: plain and walked. -/
import Derived.Test.YthaampinmelgaaaGreatDoorNest
import Derived.Test.YthaampinmelgaaaGreatDoorNumW
namespace Go.Proofs.YthaampinmelgaaaGreatDoor
open Go.RowKit Go.Shelf

/-- A point lies in an outermost element. -/
def AtL (L : List El) (a : Nat) (u : Int) : Prop := ∃ x, L[a]? = some x ∧ u ∈ x.pts
theorem AtL.mem {L : List El} {a : Nat} {u : Int} (h : AtL L a u) : u ∈ ptsL L := by
  obtain ⟨x, hx, hu⟩ := h
  exact pts_sub (List.mem_of_getElem? hx) u hu
theorem AtL.of {u : Int} : ∀ {L : List El}, u ∈ ptsL L → ∃ a, AtL L a u
  | [], h => by rw [ptsL_nil] at h; cases h
  | x :: l, h => by
    rw [ptsL_cons] at h
    rcases List.mem_append.1 h with h | h
    · exact ⟨0, x, rfl, h⟩
    · obtain ⟨a, y, hy, hu⟩ := AtL.of h
      exact ⟨a + 1, y, hy, hu⟩
theorem at_unique : ∀ {L : List El}, (ptsL L).Nodup → ∀ {a b : Nat} {u : Int}, AtL L a u → AtL L b u → a = b
  | [], _, a, b, u, ⟨x, hx, _⟩, _ => by simp at hx
  | x :: l, hn, a, b, u, ha, hb => by
    rw [ptsL_cons, List.nodup_append] at hn
    obtain ⟨y, hy, huy⟩ := ha
    obtain ⟨z, hz, huz⟩ := hb
    cases a with
    | zero =>
      cases b with
      | zero => rfl
      | succ b =>
        cases hy
        exact absurd rfl (hn.2.2 u huy u (pts_sub (List.mem_of_getElem? (show l[b]? = some z from hz)) u huz))
    | succ a =>
      cases b with
      | zero =>
        cases hz
        exact absurd rfl (hn.2.2 u huz u (pts_sub (List.mem_of_getElem? (show l[a]? = some y from hy)) u huy))
      | succ b => exact congrArg (· + 1) (at_unique hn.2.1 ⟨y, hy, huy⟩ ⟨z, hz, huz⟩)
theorem bef_right {A B : List Int} {u v : Int} (h : Bef (A ++ B) u v) (hu : u ∉ A) : Bef B u v := by
  obtain ⟨a1, b1, c1, he⟩ := h
  rcases List.append_eq_append_iff.1 he with ⟨bs, h1, h2⟩ | ⟨bs, h1, h2⟩
  · exact ⟨bs, b1, c1, h2⟩
  · cases bs with
    | nil => exact ⟨[], b1, c1, by simpa using h2.symm⟩
    | cons z bs =>
      rw [List.cons_append] at h2
      injection h2 with h3 h4
      subst h3
      exact absurd (by rw [h1]; simp) hu
theorem bef_at : ∀ {L : List El}, (ptsL L).Nodup → ∀ {a b : Nat} {u v : Int}, Bef (ptsL L) u v → AtL L a u → AtL L b v → a ≤ b
  | [], _, a, b, u, v, _, ⟨x, hx, _⟩, _ => by simp at hx
  | x :: l, hn, a, b, u, v, h, ha, hb => by
    have hn' := hn
    rw [ptsL_cons, List.nodup_append] at hn
    rw [ptsL_cons] at h
    cases a with
    | zero => omega
    | succ a =>
      obtain ⟨y, hy, huy⟩ := ha
      have hul : u ∈ ptsL l := pts_sub (List.mem_of_getElem? (show l[a]? = some y from hy)) u huy
      have h2 := bef_right h (fun hx => hn.2.2 u hx u hul rfl)
      cases b with
      | zero =>
        obtain ⟨z, hz, hvz⟩ := hb
        cases hz
        obtain ⟨a1, b1, c1, he⟩ := h2
        exact absurd rfl (hn.2.2 v hvz v (by rw [he]; simp))
      | succ b =>
        obtain ⟨z, hz, hvz⟩ := hb
        have := bef_at hn.2.1 h2 ⟨y, hy, huy⟩ ⟨z, hz, hvz⟩
        omega
mutual
theorem insE_sub : ∀ (x : El) (q : Int) (r : List Int), insE x q = some r → ∀ h ∈ r, h ∈ x.pts
  | .mk p c b, q, r, h, z, hz => by
    rw [insE_mk] at h
    rw [El.pts_mk]
    split at h
    · cases h
      cases c
      · simp at hz
      · simp at hz
        rw [hz]
        exact List.mem_cons_self
    · obtain ⟨s, hs, rfl⟩ := Option.map_eq_some_iff.1 h
      rcases List.mem_append.1 hz with hz | hz
      · cases c
        · simp at hz
        · simp at hz
          rw [hz]
          exact List.mem_cons_self
      · exact List.mem_cons_of_mem _ (insL_sub b q s hs z hz)
theorem insL_sub : ∀ (l : List El) (q : Int) (r : List Int), insL l q = some r → ∀ h ∈ r, h ∈ ptsL l
  | [], q, r, h, z, hz => by rw [insL_nil] at h; cases h
  | x :: l, q, r, h, z, hz => by
    rw [insL_cons] at h
    rw [ptsL_cons]
    cases hx : insE x q with
    | some s =>
      rw [hx] at h
      obtain rfl := Option.some.inj h
      exact List.mem_append_left _ (insE_sub x q _ hx z hz)
    | none =>
      rw [hx] at h
      exact List.mem_append_right _ (insL_sub l q r h z hz)
end
theorem heads_at : ∀ {L : List El}, (ptsL L).Nodup → ∀ {a : Nat} {u v : Int} {hs : List Int}, insL L u = some hs → v ∈ hs → AtL L a u → AtL L a v
  | [], _, a, u, v, hs, _, _, ⟨x, hx, _⟩ => by simp at hx
  | x :: l, hn, a, u, v, hs, hi, hv, ha => by
    rw [ptsL_cons, List.nodup_append] at hn
    rw [insL_cons] at hi
    obtain ⟨y, hy, huy⟩ := ha
    cases hx : insE x u with
    | some s =>
      rw [hx] at hi
      obtain rfl := Option.some.inj hi
      have hux : u ∈ x.pts := by
        by_cases h : u ∈ x.pts
        · exact h
        · rw [(insE_none x u).2 h] at hx; cases hx
      cases a with
      | zero => exact ⟨x, rfl, insE_sub x u _ hx v hv⟩
      | succ a => exact absurd rfl (hn.2.2 u hux u (pts_sub (List.mem_of_getElem? (show l[a]? = some y from hy)) u huy))
    | none =>
      rw [hx] at hi
      have hux := (insE_none x u).1 hx
      cases a with
      | zero => cases hy; exact absurd huy hux
      | succ a =>
        obtain ⟨z, hz, hvz⟩ := heads_at hn.2.1 hi hv ⟨y, hy, huy⟩
        exact ⟨z, hz, hvz⟩
section
variable {n : Nat} {E : List (Nat × Nat)} {L : List El}
theorem path_at (hI : IsWto E L) {u v : Nat} (h : Rch (sE E) (fun _ => True) u v) (hu : Rch (sE E) (fun _ => True) 0 u) : ∀ {a b : Nat}, AtL L a (u : Int) → AtL L b (v : Int) → a ≤ b := by
  induction h with
  | refl _ => intro a b ha hb; rw [at_unique hI.nodup ha hb]; exact Nat.le_refl _
  | @step m c h1 h2 _ ih =>
    intro a b ha hb
    have hm : Rch (sE E) (fun _ => True) 0 m := hu.trans h1
    have hmL : (m : Int) ∈ ptsL L := (hI.mem _).2 ⟨m, rfl, hm⟩
    obtain ⟨d, hd⟩ := AtL.of hmL
    have h3 := ih ha hd
    rcases hI.good m c (mem_sE.1 h2) hmL hb.mem with hbf | ⟨hs, h4, h5⟩
    · exact Nat.le_trans h3 (bef_at hI.nodup hbf hd hb)
    · rw [at_unique hI.nodup hb (heads_at hI.nodup h4 h5 hd)]
      exact h3
theorem GOk.nx_sE' {exit : Int} (h : GOk n exit E) {a x : Nat} : Rch (nx n E) (fun _ => True) a x ↔ Rch (sE E) (fun _ => True) a x := by
  constructor
  · intro hr
    induction hr with
    | refl _ => exact .refl trivial
    | step _ h1 _ ih => exact .step ih (mem_sE.2 (h.mem_nx.1 h1)) trivial
  · intro hr
    induction hr with
    | refl _ => exact .refl trivial
    | step _ h1 _ ih => exact .step ih (h.mem_nx.2 (mem_sE.1 h1)) trivial
/-- Two points lie in one outermost element exactly if each can be reached from the other. -/
theorem same_group {exit : Int} (hg : GOk n exit E) (hI : IsWto E L) {i k p q : Nat} {x y : El} (hx : L[i]? = some x) (hy : L[k]? = some y) (hp : (p : Int) ∈ x.pts) (hq : (q : Int) ∈ y.pts) : Mut (nx n E) p q ↔ i = k := by
  have hpL : AtL L i (p : Int) := ⟨x, hx, hp⟩
  have hqL : AtL L k (q : Int) := ⟨y, hy, hq⟩
  have hp0 : Rch (sE E) (fun _ => True) 0 p := by
    obtain ⟨z, hz, h⟩ := (hI.mem _).1 hpL.mem
    obtain rfl : p = z := by omega
    exact h
  have hq0 : Rch (sE E) (fun _ => True) 0 q := by
    obtain ⟨z, hz, h⟩ := (hI.mem _).1 hqL.mem
    obtain rfl : q = z := by omega
    exact h
  constructor
  · rintro ⟨h1, h2⟩
    have h3 := path_at hI (hg.nx_sE'.1 h1) hp0 hpL hqL
    have h4 := path_at hI (hg.nx_sE'.1 h2) hq0 hqL hpL
    omega
  · rintro rfl
    rw [hx] at hy
    cases hy
    obtain ⟨v, z, h1, h2, h3, h4⟩ := hI.tied x (List.mem_of_getElem? hx) p hp
    obtain ⟨v', z', h1', h2', h3', h4'⟩ := hI.tied x (List.mem_of_getElem? hx) q hq
    obtain rfl : p = z := by omega
    obtain rfl : q = z' := by omega
    obtain rfl : v = v' := by omega
    exact ⟨hg.nx_sE'.2 (h4.trans h3'), hg.nx_sE'.2 (h4'.trans h3)⟩
end

section
variable {n : Nat} {E : List (Nat × Nat)} {L : List El}
/-- The numbers of two points of the order are the same exactly in one outermost element. -/
theorem grp_key {exit : Int} {num : List Int} (hg : GOk n exit E) (hI : IsWto E L) (hp : ∀ p ∈ ptsL L, 0 ≤ p ∧ p < (n : Int)) (h5 : ∀ x y, x < n → y < n → (getI num x = getI num y ↔ Mut (nx n E) x y)) :
    ∀ (i k : Nat) (x y : El) (p q : Int), L[i]? = some x → L[k]? = some y → p ∈ x.pts → q ∈ y.pts → ∃ a b : Nat, p = a ∧ q = b ∧ a < n ∧ b < n ∧ (getI num a = getI num b ↔ i = k) := by
  intro i k x y p q hx hy hpx hqy
  have h1 := hp p (pts_sub (List.mem_of_getElem? hx) p hpx)
  have h2 := hp q (pts_sub (List.mem_of_getElem? hy) q hqy)
  obtain ⟨a, rfl⟩ : ∃ a : Nat, p = a := ⟨p.toNat, by omega⟩
  obtain ⟨b, rfl⟩ : ∃ b : Nat, q = b := ⟨q.toNat, by omega⟩
  exact ⟨a, b, rfl, rfl, by omega, by omega, (h5 a b (by omega) (by omega)).trans (same_group hg hI hx hy hpx hqy)⟩
end
section
variable {w w' : World} {base s n : Nat} {e : TypeId} {v : Value} {xs : List Value}
theorem own_und2 (h : w.ownsRow base e s v n xs) (hb : Below w.heap.size w w') : w'.ownsRow base e s v n xs := by
  rcases h with ⟨hl, ⟨rfl, hn⟩ | ⟨g, cap, cur, rfl, h0, hh, h1, h2, h3, h4⟩⟩
  · exact ⟨hl, .inl ⟨rfl, hn⟩⟩
  · exact ⟨hl, .inr ⟨g, cap, cur, rfl, h0, (hb.block g (lt_of_block hh)).trans hh, h1, h2, h3, h4⟩⟩
theorem own_lower {base' : Nat} (h : w.ownsRow base e s v n xs) (hb : base' ≤ base) : w.ownsRow base' e s v n xs := by
  rcases h with ⟨hl, ⟨rfl, hn⟩ | ⟨g, cap, cur, rfl, h0, hh, h1, h2, h3, h4⟩⟩
  · exact ⟨hl, .inl ⟨rfl, hn⟩⟩
  · exact ⟨hl, .inr ⟨g, cap, cur, rfl, Nat.le_trans hb h0, hh, h1, h2, h3, h4⟩⟩
theorem own_cat {A : Option Addr} {c : Nat} (h : w.ownsRow base e 1 (.slice A n c) n xs) : 0 < n → ∃ ad, A = some ad ∧ ∀ j u, xs[j]? = some u → w.cell? (ad.add j) = some u := fun hp => by
  obtain ⟨g, c, he, -, -⟩ := ownsRow_pos h hp
  cases he
  exact ⟨_, rfl, fun j u hj => h.cells (g := g) rfl j u hj⟩
end
abbrev iV : Int → Value := Value.int .i64
theorem iV_one (l : List Int) : ∀ u ∈ l.map iV, u.oneCell' = true := by
  intro u hu
  obtain ⟨x, -, rfl⟩ := List.mem_map.1 hu
  rfl
theorem El.pts_eq (x : El) : x.pts = x.p :: ptsL x.body := by cases x; rw [El.pts_mk]; rfl
theorem pts_len_le {l : List El} {i : Nat} {x : El} (h : l[i]? = some x) : (ptsL x.body).length ≤ (ptsL l).length := by
  have h1 := List.mem_of_getElem? h
  clear h
  induction l with
  | nil => cases h1
  | cons y l ih =>
    rw [ptsL_cons, List.length_append]
    rcases List.mem_cons.1 h1 with rfl | h1
    · rw [El.pts_eq]; simp; omega
    · have := ih h1; omega
theorem blk_past {w w' : World} {N g : Nat} {T : TypeId} {cs : List Value} {v : Value} (h : Blk w g T cs) (hg : w.grownBy w' v.ownBlock) (hv : ∀ b, v.ownBlock = some b → N ≤ b) (hN : g < N) : Blk w' g T cs :=
  h.same (hg.block g h.lt (fun e => by have := hv g e.symm; omega))
/-- The points of an element, laid by 'append([]int{x.Point}, Flat(x.Body)...)'. -/
theorem pts_row {w : World} {base : Nat} {x : El} {v : Value} (h : w.ownsRow base 3 1 v (1 + (ptsL x.body).length) ([.int .i64 x.p] ++ (ptsL x.body).map iV)) : ∃ Ao co, v = .slice Ao x.pts.length co ∧ Ints w.heap.size w (.slice Ao x.pts.length co) x.pts := by
  have h' : w.ownsRow base 3 1 v x.pts.length (x.pts.map (Value.int .i64)) := by
    rw [El.pts_eq, List.length_cons, List.map_cons, Nat.add_comm]
    exact h
  obtain ⟨Ao, co, rfl⟩ := own_slice h'
  exact ⟨Ao, co, rfl, Ints.ofOwn h'⟩
section
variable {P : Program} {w : World}
theorem run_append_zero (t ty e : TypeId) (i : TypeInfo) (ht : P.underlying t = some (.slice e)) (hi : P.info? e = some i) {base size n : Nat} {v : Value} {xs : List Value} (hown : w.ownsRow base e size v n xs) (A : Option Addr) (c : Nat) :
    (Builtin.append_ #[t, t] ty #[v, .slice A 0 c]).run P w = .ok v w := by
  have hl : ∀ (x : Addr), (loadCells x 0).run P w = .ok #[] w := fun x => by simpa using run_loadCells_list (P := P) w x [] (by simp)
  rcases hown.2 with ⟨rfl, rfl⟩ | ⟨g, cap, cur, rfl, -, -, hnc, -⟩
  · cases A <;> simp [Builtin.append_, run_underlying ht, sizeOf, typeInfo, hi, Builtin.lenOf, Builtin.firstCells, hl]
  · cases A <;> simp [Builtin.append_, run_underlying ht, sizeOf, typeInfo, hi, Builtin.lenOf, Builtin.firstCells, hl, hnc, storeCells]
end
/-- append of all elements of a slice, nil, empty or not: one step of a drawn region. -/
theorem step_append_cat {P : Program} {w : World} {ops : Array Oper} {o : Oper} {a : Act} {K : Act → World → Prop} {Q : Exit → Act → World → Prop} {E : Prop} (hgd : o.guard = none) (s x : Operand) (t : TypeId)
    (ho : o.op = .call { callee := .builtin .append, args := #[s, x], argTypes := #[t, t] })
    (base : Nat) (e : TypeId) (i : TypeInfo) (z : Value) (size bytes : Nat) (ht : P.underlying t = some (.slice e)) (hi : P.info? e = some i) (hz : i.zero = some z)
    (hsize : i.size = size) (hby : i.bytes = bytes) (hzs : z.cells.size = size) (hsz : 0 < size)
    (v : Value) (n : Nat) (xs : List Value) (hs : a.eval s = v) (hown : w.ownsRow base e size v n xs)
    (A : Option Addr) (m c : Nat) (news : List Value) (hx : a.eval x = .slice A m c) (hl : news.length = m * size) (hnews : 0 < m → ∃ ad, A = some ad ∧ ∀ j u, news[j]? = some u → w.cell? (ad.add j) = some u) (h1 : ∀ u ∈ news, u.oneCell' = true)
    (h63 : n + m ≤ maxLen) (hbytes : (n + m) * bytes ≤ 140737488355328) (hbase : base ≤ w.heap.size)
    (h : ∀ v' w', w'.ownsRow base e size v' (n + m) (xs ++ news) → w.grownBy w' v.ownBlock → (v.ownBlock = v'.ownBlock ∨ ∃ b, v'.ownBlock = some b ∧ w.heap.size ≤ b) → K (a.put o.dst v') w') :
    if Region.wanted o (yielded ops a.tmps) = true then Oper.wp P o a w K Q else E := by
  by_cases hm : m = 0
  · subst hm
    have hn0 : news = [] := List.eq_nil_of_length_eq_zero (by simpa using hl)
    subst hn0
    have hw : Region.wanted o (yielded ops a.tmps) = true := by simp [Region.wanted, hgd]
    rw [if_pos hw]
    have hrun := run_append_zero (P := P) (w := w) t o.type e i ht hi hown A c
    unfold Oper.wp
    simp [execOp, ho, resolve, invoke, builtin, hs, hx, hrun, Result.andThen]
    exact h v w (by simpa using hown) ⟨rfl, rfl, rfl, Nat.le_refl _, fun _ _ _ => rfl⟩ (.inl rfl)
  · obtain ⟨ad, rfl, hc⟩ := hnews (by omega)
    refine step_append_lies w hgd s x t ho base e i z size bytes ht hi hz hsize hby hzs hsz v n xs hs hown ad m c news hx hl hc h1 (by omega) h63 hbytes hbase w.heap.size rfl ?_
    intro g cap w' h2 h3 h4 _
    refine h _ w' h2 h3 ?_
    rcases h4 with h4 | h4
    · exact .inl (by rw [h4]; rfl)
    · exact .inr ⟨g, rfl, by omega⟩

theorem Ints.stp {W W' : World} {v : Value} {xs : List Int} (h : Ints W.heap.size W v xs) (hb : Below W.heap.size W W') : Ints W'.heap.size W' v xs := (Ints.below h hb).more hb.size
/-- What the law leans on. -/
structure GSt (w W : World) (n exit : Int) (v va vn : Value) (num : List Int) (L : List El) : Prop where
  g : GV w W n exit v
  el : EL W va L
  nu : Ints W.heap.size W vn num
theorem GSt.step {w W W' : World} {n exit : Int} {v va vn : Value} {num : List Int} {L : List El} (h : GSt w W n exit v va vn num L) (hb : Below W.heap.size W W') : GSt w W' n exit v va vn num L :=
  ⟨h.g.step hb, h.el.step hb, (Ints.below h.nu hb).more hb.size⟩

/-- What the inner loops lean on: besides, the points of the outer element, the variable of the inner one. -/
structure GS3 (w W : World) (n exit : Int) (v va vn : Value) (num : List Int) (L : List El) (vo : Value) (ps : List Int) (yb : Nat) (cs : List Value) (vy : Value) (bl : List El) : Prop where
  s : GSt w W n exit v va vn num L
  o : Ints W.heap.size W vo ps
  b : Blk W yb 36 cs
  e : EL W vy bl
theorem GS3.step {w W W' : World} {n exit : Int} {v va vn : Value} {num : List Int} {L : List El} {vo : Value} {ps : List Int} {yb : Nat} {cs : List Value} {vy : Value} {bl : List El} (h : GS3 w W n exit v va vn num L vo ps yb cs vy bl) (hb : Below W.heap.size W W') : GS3 w W' n exit v va vn num L vo ps yb cs vy bl :=
  ⟨h.s.step hb, (Ints.below h.o hb).more hb.size, h.b.below hb h.b.lt, EL.step h.e hb⟩

set_option maxRecDepth 100000 in
set_option maxHeartbeats 4000000 in
theorem groupsL_any (w : World) (v : Value) (n exit : Int) (es : List (Int × Int)) (hv : Edges w.heap.size w v es) :
    Calls Tryz.prog 3 #[.agg #[.int .i64 n, .int .i64 exit, v]] w fun en w' => en = .returned (.bool true) ∧ Below w.heap.size w w' := by
  have hright := fun (W : World) (h : GV w W n exit v) => right_any W v n exit es (h.edges hv)
  have hg0 := GV.start w n exit v
  by_cases hb : (few n es && decide (chk n exit es = 0)) = true
  · simp only [Bool.and_eq_true, decide_eq_true_eq] at hb
    obtain ⟨hfew, hc⟩ := hb
    have hfe : (few n es && decide (chk n exit es = 0)) = true := by simp [hfew, hc]
    rw [hfe] at hright
    obtain ⟨N, E, rfl, rfl, hg⟩ := chk_ok hc
    obtain ⟨k, r, hr, -, hI, hlen, hpts⟩ := order_plain hg.lt hg.n1 hg.n512
    have hord : ∀ (W : World), GV w W (N : Int) exit v → Calls Tryz.prog 6 #[.agg #[.int .i64 (N : Int), .int .i64 exit, v]] W fun en w' => ∃ vo, en = .returned (.tuple #[vo, .int .i64 0]) ∧ EL w' vo r.2.1 ∧ Below W.heap.size W w' := fun W h =>
      (order_ok W.heap.size W v N exit E (h.edges hv) (Nat.le_refl _) hg k r hr (by omega)).mono (fun en w' ⟨vo, he, h1, h2⟩ => ⟨vo, he, h1.mono (fun b hb => hb.2), h2⟩)
    have hN : N ≤ 16 := by
      unfold few at hfew
      simp at hfew
      omega
    have hpl : (ptsL r.2.1).length ≤ 60 := by
      have := len_of_range hI.nodup hpts
      omega
    have hcomp := fun (W : World) (h : GV w W (N : Int) exit v) => comp_sem W.heap.size W v (h.edges hv) (Nat.le_refl _) hg
    revert hord hpl hI hpts
    clear hr hlen
    generalize r.2.1 = L
    intro hI hpts hord hpl
    have HF := Lib.hid hright
    have HO := Lib.hid hord
    have HC := Lib.hid hcomp
    have HK := Lib.hid (fun num h => grp_key (num := num) hg hI hpts h)
    have hdl : decide ((ptsL L).length ≤ 60) = true := decide_eq_true hpl
    have HPL := Lib.hid hpl
    have HDL := Lib.hid hdl
    obtain ⟨A, c, rfl, hlc, -, hm, hes⟩ := hv.shape
    have hlen0 : (castE E).length = E.length := castE_length E
    rw [hlen0] at hlc hm hg0 HF HO HC ⊢
    have HG := Lib.hid hg
    clear hright hord hcomp hpl hdl hv hfew hc hfe hg hes hlen0 hI hpts
    go_enter Tryz.func3, Tryz.ntmps3
    go_upto_region 5 with (first
      | (go_at_call 4; refine (HF.out _ hg0).mono ?_; rintro en w1 ⟨rfl, hw1⟩; have hg1 := hg0.step hw1; obtain ⟨c0, c1, c2⟩ := hg1.cells)
      | (go_at_call 6; refine (HO.out _ hg1).mono ?_; rintro en w2 ⟨va, rfl, hva, hw2⟩; have hg2 := hg1.step hw2; clear c0 c1 c2; obtain ⟨c0, c1, c2⟩ := hg2.cells)
      | (go_at_call 7; refine (HC.out _ hg2).mono ?_; rintro en w3 ⟨vn, gs, rfl, hvn, hgs, hw3⟩; have hg3 := hg2.step hw3; clear c0 c1 c2; obtain ⟨c0, c1, c2⟩ := hg3.cells; have hva3 := EL.step hva hw3; obtain ⟨An, cn, rfl, -, -, -, -⟩ := id hvn.shape; obtain ⟨Al, cl, rfl, -, -, -, -⟩ := id hva3.shape))
    obtain ⟨hn1, -, -, -, hn5⟩ := comp_ord HG.out hgs
    have hkey := HK.out _ hn5
    clear hg0 hg1 hg2 hw1 hw2 hw3 hva HK HG hgs hn5 HF HO HC
    revert hkey hvn hn1
    generalize compF (shapeOf N E) gs = num
    intro hvn hn1 hkey
    subst hn1
    have HKEY := Lib.hid hkey
    clear hkey
    have hsn : (num.length : Int) = num.length := rfl
    go_upto_region 7 with (go_at_call 8; refine (few_el hva3 (fun _ h => h)).mono ?_; rintro en w5 ⟨rfl, hw5⟩; rw [HDL.out])
    have hs5 : GSt w w5 (num.length : Int) exit (.slice A E.length c) (.slice Al L.length cl) (.slice An num.length cn) num L := ⟨hg3.step hw5, EL.step hva3 hw5, (Ints.below hvn hw5).more hw5.size⟩
    clear hg3 hva3 hvn hw5 c0 c1 c2 hsn
    have HS := Lib.hid hs5
    clear hs5
    go_upto_region 8 with fail
    go_loopg [50] L.length (fun g y wr => ∃ i : Nat, i ≤ L.length ∧ g = L.length - i ∧ y = .int .i64 i ∧ GSt w wr (num.length : Int) exit (.slice A E.length c) (.slice Al L.length cl) (.slice An num.length cn) num L)
    case atStart => exact ⟨0, Nat.zero_le _, rfl, rfl, HS.out⟩
    case round =>
      obtain ⟨i, hi', hgi, rfl, hs⟩ := hrel
      clear HS
      by_cases hlt : i < L.length
      · obtain ⟨x, hx⟩ : ∃ x, L[i]? = some x := ⟨_, List.getElem?_eq_getElem hlt⟩
        obtain ⟨_, _, he, -, -, hz40, hat⟩ := id hs.el.shape
        have hL63 : L.length ≤ 9223372036854775807 := by omega
        clear hz40
        cases he
        obtain ⟨ad, u, hA, hP, c0, c1, c2, -, hEx⟩ := hat i x hx
        obtain ⟨Au, cu, rfl, -⟩ := id hEx.shape
        rw [← add_add', addrOne] at c1
        rw [← add_add', addrTwo] at c2
        subst hA
        have hlx : (ptsL x.body).length ≤ 60 := by
          have h1 := pts_len_le hx
          have h2 := HPL.out
          omega
        have hlt1 : (i : Int) < (L.length : Int) := by omega
        have HX := Lib.hid hx
        have HEX := Lib.hid hEx
        have HS := Lib.hid hs
        clear hx hEx hs hat hP
        go_upto_region 10 with fail
        have hsa := HS.out.step ((Below.refl wr.heap.size wr).alloc (Nat.le_refl _) (.cells #[.int .i64 x.p, .bool x.c, .slice Au x.body.length cu] 36))
        have hea : EL (wr.alloc (.cells #[.int .i64 x.p, .bool x.c, .slice Au x.body.length cu] 36)) (.slice Au x.body.length cu) x.body := EL.step HEX.out ((Below.refl wr.heap.size wr).alloc (Nat.le_refl _) _)
        have hbx := Blk.newAt wr 36 #[.int .i64 x.p, .bool x.c, .slice Au x.body.length cu] rfl
        clear c0 c1 c2
        revert hsa hea hbx
        generalize wr.alloc (.cells #[.int .i64 x.p, .bool x.c, .slice Au x.body.length cu] 36) = wa
        generalize wr.heap.size = xb
        intro hsa hea hbx
        have HSA := Lib.hid hsa
        clear HS hsa
        go_cut [9] from 55 to 61 (fun s9 wx => ∃ (Ao : Option Addr) (co : Nat), s9 = .slice Ao x.pts.length co ∧ Ints wx.heap.size wx (.slice Ao x.pts.length co) x.pts ∧ Below wa.heap.size wa wx)
        case first =>
          have hbxlt : xb < wa.heap.size := Blk.lt hbx
          have hbd : Blk wa.drew xb 36 [.int .i64 x.p, .bool x.c, .slice Au x.body.length cu] := hbx
          have hld : EL wa.drew (.slice Au x.body.length cu) x.body := EL.step hea ((Below.refl _ _).drew)
          have hb1 : Below wa.heap.size wa (wa.alloc (.cells #[.int .i64 x.p] 3)).drew := ((Below.refl _ _).alloc (Nat.le_refl _) _).drew
          have hl1 := EL.step hea hb1
          have HFA := Lib.hid (flat_any (P := fun b => b < wa.drew.heap.size) hld (fun _ h => h) (by omega))
          have HFB := Lib.hid (flat_any (P := fun b => b < (wa.alloc (.cells #[.int .i64 x.p] 3)).drew.heap.size) hl1 (fun _ h => h) (by omega))
          clear hld hl1
          have hbl0 : Below wa.heap.size wa wa.drew := (Below.refl _ _).drew
          obtain ⟨ie, hi, hz0, hz1, hz2⟩ := info_parts info_int
          have HBD := Lib.hid hbd
          have HBE : Hid (Blk (wa.alloc (.cells #[.int .i64 x.p] 3)).drew xb 36 [.int .i64 x.p, .bool x.c, .slice Au x.body.length cu]) := Lib.hid ((hbx.alloc _).drew)
          have HB1 := Lib.hid hb1
          have HBL0 := Lib.hid hbl0
          clear hbd hb1 hbl0
          go_region_held3 (fun w' => w'.cell? ⟨xb, 0, none⟩ = some (.int .i64 x.p) ∧ w'.cell? ⟨xb, 2, none⟩ = some (.slice Au x.body.length cu))
            (first
              | exact ⟨HX8.out.cellAt (i := 0) rfl, HX8.out.cellAt (i := 2) rfl⟩
              | exact ⟨(HX8.out.alloc _).cellAt (i := 0) rfl, (HX8.out.alloc _).cellAt (i := 2) rfl⟩
              | exact ⟨HBD.out.cellAt (i := 0) rfl, HBD.out.cellAt (i := 2) rfl⟩
              | exact ⟨HBE.out.cellAt (i := 0) rfl, HBE.out.cellAt (i := 2) rfl⟩
              | exact ⟨HX9.out.cellAt (i := 0) rfl, HX9.out.cellAt (i := 2) rfl⟩)
            (first
              | (go_at_call 9; (with_reducible refine HFA.out.mono ?_); rintro en w8 ⟨vb, rfl, hob, hb8⟩; have HX8 := Lib.hid (HBD.out.below hb8 HBD.out.lt); have hbl8 := HBL0.out.trans (hb8.mono HBL0.out.size); have hownB : (w8.alloc (.cells #[.int .i64 x.p] 3)).ownsRow wa.heap.size 3 1 (.slice (some ⟨w8.heap.size, 0, none⟩) 1 1) 1 [.int .i64 x.p] := own_lower (World.ownsRow_lit w8 #[.int .i64 x.p] 1 (Nat.le_refl _) (by simp [maxLen]) rfl) hbl8.size; obtain ⟨Ab, cb, rfl⟩ := own_slice hob; have hcatB := own_cat (own_und2 hob ((Below.refl w8.heap.size w8).alloc (Nat.le_refl _) (.cells #[.int .i64 x.p] 3))); have hblR := hbl8.alloc hbl8.size (.cells #[.int .i64 x.p] 3); have HXR := Lib.hid (HX8.out.alloc (.cells #[.int .i64 x.p] 3)); clear hob hb8)
              | (go_at_call 9; (with_reducible refine HFB.out.mono ?_); rintro en w8 ⟨vb, rfl, hob, hb8⟩; have HX8 := Lib.hid (HBE.out.below hb8 HBE.out.lt); have hblR := HB1.out.trans (hb8.mono HB1.out.size); have hownA : w8.ownsRow wa.heap.size 3 1 (.slice (some ⟨wa.heap.size, 0, none⟩) 1 1) 1 [.int .i64 x.p] := own_und2 (own_lower (World.ownsRow_lit wa #[.int .i64 x.p] 1 (Nat.le_refl _) (by simp [maxLen]) rfl) (Nat.le_refl _)).drew hb8; obtain ⟨Ab, cb, rfl⟩ := own_slice hob; have hcatA := own_cat hob; have HXR := HX8; clear hob hb8)
              | (refine step_append_cat rfl (.tmp 57) (.tmp 60) 31 rfl wa.heap.size 3 ie (.int .i64 0) 1 8 Tryz.underlying31 hi hz0 hz1 hz2 rfl (by decide) (.slice (some ⟨wa.heap.size, 0, none⟩) 1 1) 1 [.int .i64 x.p] rfl hownA Ab (ptsL x.body).length cb ((ptsL x.body).map iV) rfl (by simp) hcatA (iV_one _) (by unfold maxLen; omega) (by omega) hblR.size ?_; intro v9 w9 hown9 hgr9 hat9; obtain ⟨A9, c9, rfl, hio⟩ := pts_row hown9; have hbl9 := hblR.grown hgr9 hblR.size (fun k hk => (hownA.lt k hk).1); have HX9 := Lib.hid (blk_past HXR.out hgr9 (fun k hk => (hownA.lt k hk).1) hbxlt); clear hownA hcatA hgr9 hat9 hown9)
              | (refine step_append_cat rfl (.tmp 57) (.tmp 60) 31 rfl wa.heap.size 3 ie (.int .i64 0) 1 8 Tryz.underlying31 hi hz0 hz1 hz2 rfl (by decide) (.slice (some ⟨w8.heap.size, 0, none⟩) 1 1) 1 [.int .i64 x.p] rfl hownB Ab (ptsL x.body).length cb ((ptsL x.body).map iV) rfl (by simp) hcatB (iV_one _) (by unfold maxLen; omega) (by omega) hblR.size ?_; intro v9 w9 hown9 hgr9 hat9; obtain ⟨A9, c9, rfl, hio⟩ := pts_row hown9; have hbl9 := hblR.grown hgr9 hblR.size (fun k hk => (hownB.lt k hk).1); have HX9 := Lib.hid (blk_past HXR.out hgr9 (fun k hk => (hownB.lt k hk).1) hbxlt); clear hownB hcatB hgr9 hat9 hown9))
          all_goals
            go_wp2_with fail
            go_meet
            exact ⟨_, _, rfl, hio, hbl9⟩
        case rest =>
          obtain ⟨Ao, co, rfl, hio, hbc⟩ := hcut
          have hs1 := HSA.out.step hbc
          have HS1 := Lib.hid hs1
          have HIO := Lib.hid hio
          clear hs1 hio hbc hbx hea HSA HEX
          go_upto_region 12 with fail
          go_loopg [64] L.length (fun g y wr => ∃ k : Nat, k ≤ L.length ∧ g = L.length - k ∧ y = .int .i64 k ∧ GSt w wr (num.length : Int) exit (.slice A E.length c) (.slice (some ad) L.length cl) (.slice An num.length cn) num L ∧ Ints wr.heap.size wr (.slice Ao x.pts.length co) x.pts)
          case atStart => exact ⟨0, Nat.zero_le _, rfl, rfl, HS1.out, HIO.out⟩
          case round =>
            obtain ⟨k2, hk', hgk2, rfl, hs, hio⟩ := hrel
            clear HS1 HIO
            by_cases hlk : k2 < L.length
            · obtain ⟨y, hy⟩ : ∃ y, L[k2]? = some y := ⟨_, List.getElem?_eq_getElem hlk⟩
              obtain ⟨_, _, he, -, -, -, hat⟩ := id hs.el.shape
              cases he
              obtain ⟨ad2, u, hA, hP, c0, c1, c2, -, hEy⟩ := hat k2 y hy
              obtain ⟨Av, cv, rfl, -⟩ := id hEy.shape
              rw [← add_add', addrOne] at c1
              rw [← add_add', addrTwo] at c2
              cases hA
              have hly : (ptsL y.body).length ≤ 60 := by
                have h1 := pts_len_le hy
                have h2 := HPL.out
                omega
              have hlk1 : (k2 : Int) < (L.length : Int) := by omega
              have HY := Lib.hid hy
              have hsa : GS3 w (wr.alloc (.cells #[.int .i64 y.p, .bool y.c, .slice Av y.body.length cv] 36)) (num.length : Int) exit (.slice A E.length c) (.slice (some ad) L.length cl) (.slice An num.length cn) num L (.slice Ao x.pts.length co) x.pts wr.heap.size [.int .i64 y.p, .bool y.c, .slice Av y.body.length cv] (.slice Av y.body.length cv) y.body := ⟨hs.step ((Below.refl wr.heap.size wr).alloc (Nat.le_refl _) _), (Ints.below hio ((Below.refl wr.heap.size wr).alloc (Nat.le_refl _) _)).more (by rw [World.size_alloc]; omega), Blk.newAt wr 36 #[.int .i64 y.p, .bool y.c, .slice Av y.body.length cv] rfl, EL.step hEy ((Below.refl wr.heap.size wr).alloc (Nat.le_refl _) _)⟩
              have HSA := Lib.hid hsa
              clear hy hEy hs hat hP hio hsa
              go_upto_region 15 with fail
              clear c0 c1 c2
              revert HSA
              generalize wr.alloc (.cells #[.int .i64 y.p, .bool y.c, .slice Av y.body.length cv] 36) = wb
              generalize wr.heap.size = yb
              intro HSA
              go_loopg [71] x.pts.length (fun g z wr => ∃ m : Nat, m ≤ x.pts.length ∧ g = x.pts.length - m ∧ z = .int .i64 m ∧ GS3 w wr (num.length : Int) exit (.slice A E.length c) (.slice (some ad) L.length cl) (.slice An num.length cn) num L (.slice Ao x.pts.length co) x.pts yb [.int .i64 y.p, .bool y.c, .slice Av y.body.length cv] (.slice Av y.body.length cv) y.body)
              case atStart => exact ⟨0, Nat.zero_le _, rfl, rfl, HSA.out⟩
              case round =>
                obtain ⟨m, hm', hgm, rfl, hs⟩ := hrel
                clear HSA
                by_cases hlm : m < x.pts.length
                · obtain ⟨p, hp⟩ : ∃ p, x.pts[m]? = some p := ⟨_, List.getElem?_eq_getElem hlm⟩
                  have hpx := List.mem_of_getElem? hp
                  obtain ⟨pa, -, hpa, -, hpn, -, -⟩ := HKEY.out i i x x p p HX.out HX.out hpx hpx
                  subst hpa
                  obtain ⟨_, _, he, -, -, hmo, hat⟩ := id hs.o.shape
                  cases he
                  obtain ⟨ao, uo, hAo, hbo, hco, huo⟩ := hat m _ hp
                  obtain rfl : uo = .int .i64 (pa : Int) := huo
                  subst hAo
                  have hlm1 : (m : Int) < (x.pts.length : Int) := by omega
                  have HS := Lib.hid hs
                  have HPX := Lib.hid hpx
                  clear hp hpx hs hat hbo
                  go_upto_region 17 with fail
                  clear hco
                  have hby := HS.out.b
                  have hey := HS.out.e
                  go_cut [81, 82, 83] from 75 to 80 (fun s81 s82 s83 wx => ∃ (Aq : Option Addr) (cq : Nat), s81 = .slice Aq y.pts.length cq ∧ s82 = .int .i64 y.pts.length ∧ s83 = .int .i64 0 ∧ Ints wx.heap.size wx (.slice Aq y.pts.length cq) y.pts ∧ Below wr.heap.size wr wx)
                  case first =>
                    have hbxlt : yb < wr.heap.size := Blk.lt hby
                    have hbd : Blk wr.drew yb 36 [.int .i64 y.p, .bool y.c, .slice Av y.body.length cv] := hby
                    have hld : EL wr.drew (.slice Av y.body.length cv) y.body := EL.step hey ((Below.refl _ _).drew)
                    have hb1 : Below wr.heap.size wr (wr.alloc (.cells #[.int .i64 y.p] 3)).drew := ((Below.refl _ _).alloc (Nat.le_refl _) _).drew
                    have hl1 := EL.step hey hb1
                    have HFA := Lib.hid (flat_any (P := fun b => b < wr.drew.heap.size) hld (fun _ h => h) (by omega))
                    have HFB := Lib.hid (flat_any (P := fun b => b < (wr.alloc (.cells #[.int .i64 y.p] 3)).drew.heap.size) hl1 (fun _ h => h) (by omega))
                    clear hld hl1
                    have hbl0 : Below wr.heap.size wr wr.drew := (Below.refl _ _).drew
                    obtain ⟨ie, hi, hz0, hz1, hz2⟩ := info_parts info_int
                    have HBD := Lib.hid hbd
                    have HBE : Hid (Blk (wr.alloc (.cells #[.int .i64 y.p] 3)).drew yb 36 [.int .i64 y.p, .bool y.c, .slice Av y.body.length cv]) := Lib.hid ((hby.alloc _).drew)
                    have HB1 := Lib.hid hb1
                    have HBL0 := Lib.hid hbl0
                    clear hbd hb1 hbl0
                    go_region_held3 (fun w' => w'.cell? ⟨yb, 0, none⟩ = some (.int .i64 y.p) ∧ w'.cell? ⟨yb, 2, none⟩ = some (.slice Av y.body.length cv))
                      (first
                        | exact ⟨HX8.out.cellAt (i := 0) rfl, HX8.out.cellAt (i := 2) rfl⟩
                        | exact ⟨(HX8.out.alloc _).cellAt (i := 0) rfl, (HX8.out.alloc _).cellAt (i := 2) rfl⟩
                        | exact ⟨HBD.out.cellAt (i := 0) rfl, HBD.out.cellAt (i := 2) rfl⟩
                        | exact ⟨HBE.out.cellAt (i := 0) rfl, HBE.out.cellAt (i := 2) rfl⟩
                        | exact ⟨HX9.out.cellAt (i := 0) rfl, HX9.out.cellAt (i := 2) rfl⟩)
                      (first
                        | (go_at_call 9; (with_reducible refine HFA.out.mono ?_); rintro en w8 ⟨vb, rfl, hob, hb8⟩; have HX8 := Lib.hid (HBD.out.below hb8 HBD.out.lt); have hbl8 := HBL0.out.trans (hb8.mono HBL0.out.size); have hownB : (w8.alloc (.cells #[.int .i64 y.p] 3)).ownsRow wr.heap.size 3 1 (.slice (some ⟨w8.heap.size, 0, none⟩) 1 1) 1 [.int .i64 y.p] := own_lower (World.ownsRow_lit w8 #[.int .i64 y.p] 1 (Nat.le_refl _) (by simp [maxLen]) rfl) hbl8.size; obtain ⟨Ab, cb, rfl⟩ := own_slice hob; have hcatB := own_cat (own_und2 hob ((Below.refl w8.heap.size w8).alloc (Nat.le_refl _) (.cells #[.int .i64 y.p] 3))); have hblR := hbl8.alloc hbl8.size (.cells #[.int .i64 y.p] 3); have HXR := Lib.hid (HX8.out.alloc (.cells #[.int .i64 y.p] 3)); clear hob hb8)
                        | (go_at_call 9; (with_reducible refine HFB.out.mono ?_); rintro en w8 ⟨vb, rfl, hob, hb8⟩; have HX8 := Lib.hid (HBE.out.below hb8 HBE.out.lt); have hblR := HB1.out.trans (hb8.mono HB1.out.size); have hownA : w8.ownsRow wr.heap.size 3 1 (.slice (some ⟨wr.heap.size, 0, none⟩) 1 1) 1 [.int .i64 y.p] := own_und2 (own_lower (World.ownsRow_lit wr #[.int .i64 y.p] 1 (Nat.le_refl _) (by simp [maxLen]) rfl) (Nat.le_refl _)).drew hb8; obtain ⟨Ab, cb, rfl⟩ := own_slice hob; have hcatA := own_cat hob; have HXR := HX8; clear hob hb8)
                        | (refine step_append_cat rfl (.tmp 77) (.tmp 80) 31 rfl wr.heap.size 3 ie (.int .i64 0) 1 8 Tryz.underlying31 hi hz0 hz1 hz2 rfl (by decide) (.slice (some ⟨wr.heap.size, 0, none⟩) 1 1) 1 [.int .i64 y.p] rfl hownA Ab (ptsL y.body).length cb ((ptsL y.body).map iV) rfl (by simp) hcatA (iV_one _) (by unfold maxLen; omega) (by omega) hblR.size ?_; intro v9 w9 hown9 hgr9 hat9; obtain ⟨A9, c9, rfl, hio⟩ := pts_row hown9; have hbl9 := hblR.grown hgr9 hblR.size (fun k hk => (hownA.lt k hk).1); have HX9 := Lib.hid (blk_past HXR.out hgr9 (fun k hk => (hownA.lt k hk).1) hbxlt); clear hownA hcatA hgr9 hat9 hown9)
                        | (refine step_append_cat rfl (.tmp 77) (.tmp 80) 31 rfl wr.heap.size 3 ie (.int .i64 0) 1 8 Tryz.underlying31 hi hz0 hz1 hz2 rfl (by decide) (.slice (some ⟨w8.heap.size, 0, none⟩) 1 1) 1 [.int .i64 y.p] rfl hownB Ab (ptsL y.body).length cb ((ptsL y.body).map iV) rfl (by simp) hcatB (iV_one _) (by unfold maxLen; omega) (by omega) hblR.size ?_; intro v9 w9 hown9 hgr9 hat9; obtain ⟨A9, c9, rfl, hio⟩ := pts_row hown9; have hbl9 := hblR.grown hgr9 hblR.size (fun k hk => (hownB.lt k hk).1); have HX9 := Lib.hid (blk_past HXR.out hgr9 (fun k hk => (hownB.lt k hk).1) hbxlt); clear hownB hcatB hgr9 hat9 hown9))
                    all_goals
                      go_wp2_with fail
                      go_meet
                      exact ⟨_, _, rfl, rfl, rfl, hio, hbl9⟩
                  case rest =>
                    obtain ⟨Aq, cq, rfl, rfl, rfl, hiq, hbq⟩ := hcut
                    have hs2 := HS.out.step hbq
                    have HS2 := Lib.hid hs2
                    have HIQ := Lib.hid hiq
                    clear hs2 hiq hbq hby hey HS
                    go_upto_region 18 with fail
                    go_loopg [83] y.pts.length (fun g z wr => ∃ l : Nat, l ≤ y.pts.length ∧ g = y.pts.length - l ∧ z = .int .i64 l ∧ GS3 w wr (num.length : Int) exit (.slice A E.length c) (.slice (some ad) L.length cl) (.slice An num.length cn) num L (.slice (some ao) x.pts.length co) x.pts yb [.int .i64 y.p, .bool y.c, .slice Av y.body.length cv] (.slice Av y.body.length cv) y.body ∧ Ints wr.heap.size wr (.slice Aq y.pts.length cq) y.pts)
                    case atStart => exact ⟨0, Nat.zero_le _, rfl, rfl, HS2.out, HIQ.out⟩
                    case round =>
                      obtain ⟨l, hl', hgl, rfl, hs, hiq⟩ := hrel
                      clear HS2 HIQ
                      by_cases hll : l < y.pts.length
                      · obtain ⟨q, hq⟩ : ∃ q, y.pts[l]? = some q := ⟨_, List.getElem?_eq_getElem hll⟩
                        obtain ⟨pb, qb, hpb, hqb, -, hqn, hkey⟩ := HKEY.out i k2 x y _ q HX.out HY.out HPX.out (List.mem_of_getElem? hq)
                        obtain rfl : pa = pb := by omega
                        subst hqb
                        obtain ⟨_, _, he, -, -, hmq, hat⟩ := id hiq.shape
                        cases he
                        obtain ⟨aq, uq, hAq, hbq, hcq, huq⟩ := hat l _ hq
                        obtain rfl : uq = .int .i64 (qb : Int) := huq
                        subst hAq
                        obtain ⟨an, rfl, -, hna⟩ := Ints.at hs.s.nu hpn
                        obtain ⟨an2, hAn, -, hnb⟩ := Ints.at hs.s.nu hqn
                        cases hAn
                        obtain ⟨c0, -, -⟩ := hs.s.g.cells
                        have hll1 : (l : Int) < (y.pts.length : Int) := by omega
                        have hp0 : decide ((pa : Int) < 0) = false := by rw [decide_eq_false_iff_not]; omega
                        have hq0 : decide ((qb : Int) < 0) = false := by rw [decide_eq_false_iff_not]; omega
                        have hp1 : decide ((num.length : Int) ≤ (pa : Int)) = false := by rw [decide_eq_false_iff_not]; omega
                        have hq1 : decide ((num.length : Int) ≤ (qb : Int)) = false := by rw [decide_eq_false_iff_not]; omega
                        have hp2 : decide (num.length ≤ pa) = false := by rw [decide_eq_false_iff_not]; omega
                        have hq2 : decide (num.length ≤ qb) = false := by rw [decide_eq_false_iff_not]; omega
                        have hpn1 : (pa : Int) < (num.length : Int) := by omega
                        have hqn1 : (qb : Int) < (num.length : Int) := by omega
                        have HS := Lib.hid hs
                        have HIQ := Lib.hid hiq
                        clear hq hs hiq hat hbq hpb
                        revert hna hnb hkey
                        generalize getI num pa = na
                        generalize getI num qb = nb
                        intro hkey hna hnb
                        go_upto_region 20 with fail
                        clear hcq
                        by_cases hik : i = k2
                        · have hab := hkey.2 hik
                          subst hik
                          subst hab
                          clear hkey
                          have e1 : (na == na) = true := by simp
                          have e2 : ((i : Int) == (i : Int)) = true := by simp
                          go_quiet (fail)
                          go_wp2
                          go_roundg (y.pts.length - (l + 1))
                          case measure => omega
                          case rel => exact ⟨l + 1, by omega, rfl, by go_num, HS.out.step (below_drewN' (Below.refl _ _) _), (Ints.below HIQ.out (below_drewN' (Below.refl _ _) _)).more (Nat.le_refl _)⟩
                        · have hab : ¬ na = nb := fun h => hik (hkey.1 h)
                          clear hkey
                          have e1 : (na == nb) = false := by simpa using hab
                          have e2 : ((i : Int) == (k2 : Int)) = false := by rw [beq_eq_false_iff_ne]; omega
                          have e3 : (i == k2) = false := by simpa using hik
                          clear hik hab
                          go_quiet (fail)
                          go_wp2
                          go_roundg (y.pts.length - (l + 1))
                          case measure => omega
                          case rel => exact ⟨l + 1, by omega, rfl, by go_num, HS.out.step (below_drewN' (Below.refl _ _) _), (Ints.below HIQ.out (below_drewN' (Below.refl _ _) _)).more (Nat.le_refl _)⟩
                      · obtain rfl : l = y.pts.length := by omega
                        have HS := Lib.hid hs
                        clear hs hiq
                        go_wp2
                        go_roundg (x.pts.length - (m + 1))
                        case measure => omega
                        case rel => exact ⟨m + 1, by omega, rfl, by go_num, HS.out⟩
                · obtain rfl : m = x.pts.length := by omega
                  have HS := Lib.hid hs
                  clear hs
                  go_wp2
                  go_roundg (L.length - (k2 + 1))
                  case measure => omega
                  case rel => exact ⟨k2 + 1, by omega, rfl, by go_num, HS.out.s, HS.out.o⟩
            · obtain rfl : k2 = L.length := by omega
              have HS := Lib.hid hs
              clear hs hio
              go_wp2
              go_roundg (L.length - (i + 1))
              case measure => omega
              case rel => exact ⟨i + 1, by omega, rfl, by go_num, HS.out⟩
      · obtain rfl : i = L.length := by omega
        have hbe := hs.g.bel
        clear hs
        go_wp2_with (go_at_call 5; refine (awake_any wr).mono ?_; rintro en w6 ⟨rfl, hw6⟩)
        go_ret
        exact ⟨rfl, hbe.trans (hw6.mono hbe.size)⟩
  · have hfe : (few n es && decide (chk n exit es = 0)) = false := by simpa using hb
    rw [hfe] at hright
    have HF := Lib.hid hright
    obtain ⟨A, c, rfl, hlc, -, hm, -⟩ := hv.shape
    clear hright hv hb hfe
    go_enter Tryz.func3, Tryz.ntmps3
    go_wp2_with (first
      | (go_at_call 4; refine (HF.out _ hg0).mono ?_; rintro en w1 ⟨rfl, hw1⟩; have hg1 := hg0.step hw1)
      | (go_at_call 5; refine (awake_any w1).mono ?_; rintro en w2 ⟨rfl, hw2⟩; have hg2 := hg1.step hw2))
    go_ret
    exact ⟨rfl, hg2.bel⟩
end Go.Proofs.YthaampinmelgaaaGreatDoor
