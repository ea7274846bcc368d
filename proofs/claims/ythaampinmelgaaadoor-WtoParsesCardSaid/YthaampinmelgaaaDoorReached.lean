/- The reference: Reached. -/
import Derived.Test.YthaampinmelgaaaDoorOut
import Derived.Test.YthaampinmelgaaaDoorPlain2
import Derived.Test.YthaampinmelgaaaDoorReach
import Derived.Test.YthaampinmelgaaaDoorBack
import Derived.Deep.LoopGhost
namespace Go.Proofs.YthaampinmelgaaaDoor
open Go.RowKit Go.Shelf

theorem bool_cell {w : World} {g : Nat} {o : List Bool} (h : Blk w g 4 (o.map Value.bool)) {p : Nat} (hp : p < o.length) : w.cell? ⟨g, p, none⟩ = some (.bool (o.getD p false)) :=
  h.cellAt (by rw [List.getElem?_map, List.getElem?_eq_getElem hp, List.getD_eq_getElem?_getD, List.getElem?_eq_getElem hp]; rfl)

/-- The edges of a well-formed graph, as they are read. -/
theorem Edges.nat {B : Nat} {w : World} {A : Option Addr} {E : List (Nat × Nat)} (h : ∀ (j : Nat) (x : Int × Int), (castE E)[j]? = some x →
    ∃ (ad : Addr) (cs : List Value), A = some ad ∧ ad.block < B ∧ cs.length = 21 ∧ (∀ i u, cs[i]? = some u → w.cell? ((ad.add (j * 21)).add i) = some u) ∧ cs[0]? = some (.int .i64 x.1) ∧ cs[1]? = some (.int .i64 x.2) ∧ ∀ u ∈ cs, u.oneCell' = true) :
    ∀ (j : Nat) (x : Nat × Nat), E[j]? = some x → ∃ (ad : Addr) (cs : List Value), A = some ad ∧ ad.block < B ∧ cs.length = 21 ∧ (∀ i u, cs[i]? = some u → w.cell? ((ad.add (j * 21)).add i) = some u) ∧ cs[0]? = some (.int .i64 (x.1 : Int)) ∧ cs[1]? = some (.int .i64 (x.2 : Int)) ∧ ∀ u ∈ cs, u.oneCell' = true :=
  fun j x hx => h j ((x.1 : Int), (x.2 : Int)) (by unfold castE; rw [List.getElem?_map, hx]; rfl)

/-- The graph in its variable, and the points that have been reached. -/
structure RB (w W : World) (gv : List Value) (ob : Nat) (o : List Bool) : Prop where
  g : Blk W w.heap.size 24 gv
  o : Blk W ob 4 (o.map Value.bool)
  bel : Below w.heap.size w W
  ob1 : w.heap.size ≤ ob

theorem RB.alloc {w W : World} {gv : List Value} {ob : Nat} {o : List Bool} (h : RB w W gv ob o) (x : Obj) : RB w (W.alloc x) gv ob o := ⟨h.g.alloc _, h.o.alloc _, h.bel.alloc h.bel.size _, h.ob1⟩
theorem RB.set {w W : World} {gv : List Value} {ob : Nat} {o : List Bool} (h : RB w W gv ob o) (p : Nat) : RB w (W.setCell ⟨ob, p, none⟩ (.bool true)) gv ob (o.set p true) := by
  refine ⟨h.g.far (h.g.ne h.o (by decide)) _, ?_, h.bel.setCell h.ob1 _, h.ob1⟩
  have := h.o.set p (.bool true)
  rw [List.map_set]
  exact this

set_option maxRecDepth 100000 in
set_option maxHeartbeats 4000000 in
theorem reached_any (B : Nat) (w : World) (v : Value) (n : Nat) (exit : Int) (E : List (Nat × Nat)) (hv : Edges B w v (castE E)) (hB : B ≤ w.heap.size) (hn : n ≤ 512) (hE : ∀ x ∈ E, x.1 < n ∧ x.2 < n) (hlE : E.length ≤ 1024) (f : Nat) (hf : f < n) (wo : Int) (k : Nat) (o : List Bool)
    (hr : reachedF n E f wo k = some o) :
    Calls Tryd.prog 45 #[.agg #[.int .i64 (n : Int), .int .i64 exit, v], .int .i64 (f : Int), .int .i64 wo] w fun en w' => ∃ g, en = .returned (.slice (some ⟨g, 0, none⟩) n n) ∧ Blk w' g 4 (o.map Value.bool) ∧ w.heap.size ≤ g ∧ Below w.heap.size w w' := by
  obtain ⟨A, c, rfl, hlc, -, hm, hes⟩ := hv.shape
  have hmb := make_one (P := Tryd.prog) 48 4 (.bool false) 1 Tryd.underlying48 info_bool rfl n (by omega) (by omega)
  have hlen0 : (castE E).length = E.length := castE_length E
  unfold reachedF at hr
  by_cases hw : (f : Int) = wo
  · rw [if_pos hw] at hr
    obtain rfl := Option.some.inj hr
    subst hw
    rw [hlen0]
    clear hr hlen0
    go_enter Tryd.func45, Tryd.ntmps45
    go_wp2
    go_ret
    have h := Blk.newAt (N := w.heap.size + 1) (w.alloc (.cells #[.int .i64 (n : Int), .int .i64 exit, .slice A E.length c] 24)) 4 (Array.replicate n (.bool false)) (by simp)
    rw [Array.toList_replicate] at h
    exact ⟨_, rfl, by rw [List.map_replicate]; exact h, by omega, ((Below.refl _ _).alloc (Nat.le_refl _) _).alloc (by simp) _⟩
  · rw [if_neg hw] at hr
    have hwb : decide ((f : Int) = wo) = false := by simpa using hw
    have hwb2 : ((f : Int) == wo) = false := by simpa using hw
    have HE := Lib.hid hes
    have HR := Lib.hid hr
    have HN := Lib.hid hlen0
    have hfl : (f : Int) < (n : Int) := by omega
    clear hr hw
    rw [hlen0] at hlc ⊢
    have hen := Edges.nat hes
    have HE := Lib.hid hen
    clear hes hen
    have hbase : Blk ((w.alloc (.cells #[.int .i64 (n : Int), .int .i64 exit, .slice A E.length c] 24)).alloc (.cells (List.replicate n (.bool false)).toArray 4)) (w.heap.size + 1) 4 (List.replicate n (.bool false)) := by
      have h := Blk.newAt (N := w.heap.size + 1) (w.alloc (.cells #[.int .i64 (n : Int), .int .i64 exit, .slice A E.length c] 24)) 4 (List.replicate n (.bool false)).toArray (by simp)
      simpa using h
    have c1 := hbase.cellAt (i := f) (u := .bool false) (by simp [hf])
    have f1 := hbase.frozen f
    clear hbase hlen0
    have hstart : RB w ((w.alloc (.cells #[.int .i64 (n : Int), .int .i64 exit, .slice A E.length c] 24)).alloc (.cells ((Array.replicate n (.bool false)).setIfInBounds f (.bool true)) 4)) [.int .i64 (n : Int), .int .i64 exit, .slice A E.length c] (w.heap.size + 1) ((List.replicate n false).set f true) := by
      refine ⟨(Blk.newAt w 24 #[.int .i64 (n : Int), .int .i64 exit, .slice A E.length c] rfl).alloc _, ?_, ((Below.refl _ _).alloc (Nat.le_refl _) _).alloc (by simp) _, by omega⟩
      have h := Blk.newAt (N := w.heap.size + 1) (w.alloc (.cells #[.int .i64 (n : Int), .int .i64 exit, .slice A E.length c] 24)) 4 ((Array.replicate n (.bool false)).setIfInBounds f (.bool true)) (by simp)
      rw [List.map_set, List.map_replicate]
      simpa using h
    go_enter Tryd.func45, Tryd.ntmps45
    go_wp2
    go_loopg [8] k (fun gk x wr => ∃ (b : Bool) (o' : List Bool), x = .bool b ∧ RRel E wo gk b o' o ∧ o'.length = n ∧ RB w wr [.int .i64 (n : Int), .int .i64 exit, .slice A E.length c] (w.heap.size + 1) o')
    case atStart => exact ⟨true, _, rfl, .inl ⟨rfl, HR.out⟩, by simp, hstart⟩
    case round =>
      obtain ⟨b, o', rfl, hrr, hlo, hrb⟩ := hrel
      clear c1 f1 hstart
      rcases hrr with ⟨rfl, hrl⟩ | ⟨rfl, rfl⟩
      · cases gk with
        | zero => simp [rLoop] at hrl
        | succ gk =>
        have hnx := rLoop_next hrl
        have HNX := Lib.hid hnx
        have HLO := Lib.hid hlo
        clear hrl hnx hlo
        go_wp2
        obtain ⟨w3, rfl⟩ : ∃ w3 : World, w3 = wr := ⟨_, rfl⟩
        go_loopw [8, 9] (fun x y wr => ∃ (m : Nat) (s : List Bool × Bool), m ≤ E.length ∧ y = .int .i64 m ∧ x = .bool s.2 ∧ (E.take m).foldl (rEdge wo) (o', false) = s ∧ RB w wr [.int .i64 (n : Int), .int .i64 exit, .slice A E.length c] (w.heap.size + 1) s.1) (fun _ y _ => E.length - (intOf y).toNat)
        case atStart => exact ⟨0, (o', false), Nat.zero_le _, rfl, rfl, rfl, hrb⟩
        case round =>
          obtain ⟨m, ⟨o2, mb⟩, hm', rfl, rfl, hfo, hrb2⟩ := hrel
          clear hrb
          have hl2 : o2.length = n := by
            have h := foldl_rEdge_length wo (E.take m) (o', false)
            rw [hfo] at h
            exact h.trans HLO.out
          have c0 := hrb2.g.cellAt (i := 2) rfl
          by_cases hlt : m < E.length
          · have hlt1 : (m : Int) < (E.length : Int) := by omega
            have hnext := foldl_take_succ (rEdge wo) E m hlt (o', false)
            rw [hfo] at hnext
            have hek : E[m]? = some E[m] := List.getElem?_eq_getElem hlt
            have hx := hE _ (List.getElem_mem hlt)
            revert hnext hek hx
            generalize E[m] = x
            intro hnext hek hx
            obtain ⟨p, q⟩ := x
            obtain ⟨hp, hq⟩ := hx
            obtain ⟨ad, cs, rfl, hab, hcl, hcc, hc0, hc1, hone⟩ := HE.out m _ hek
            have hcr : ∀ j v, cs[j]? = some v → wr.cell? ((ad.add (m * 21)).add j) = some v := fun j v hj => (hrb2.bel.cell (by rw [block_add, block_add]; omega)).trans (hcc j v hj)
            have hbl := hrb2.g.lt
            have hrb3 := hrb2.alloc (.cells cs.toArray 64)
            have d1 := bool_cell hrb3.o (by rw [hl2]; exact hp)
            have d2 := bool_cell hrb3.o (by rw [hl2]; exact hq)
            have d3 := hrb3.o.frozen q
            have hp1 : (p : Int) < (n : Int) := by exact_mod_cast hp
            have hq1 : (q : Int) < (n : Int) := by exact_mod_cast hq
            have HC := Lib.hid hcr
            have HL := Lib.hid hcl
            have H1 := Lib.hid hone
            have HX := Lib.hid hnext
            clear hcc hcr hcl hone hek hfo hnext
            by_cases hs1 : o2.getD p false = true
            · rw [hs1] at d1
              by_cases hs2 : o2.getD q false = true
              · rw [hs2] at d2
                have hres : rEdge wo (o2, mb) (p, q) = (o2, mb) := rEdge_no (.inr (.inl hs2))
                have HRS := Lib.hid hres
                clear hs1 hs2 hl2 hres
                go_wp2_with (first
                  | ((with_reducible show wpList _ _ _ (⟨some 33, .load 64 (.tmp 32), _, _, _, _⟩ :: _) _ _); refine wpList_load_list rfl _ _ rfl (ad.add (m * 21)) rfl cs _ HC.out Tryd.underlying64 rfl (by rw [HL.out]; exact size_edge) ?_)
                  | ((with_reducible show wpList _ _ _ (⟨none, .store 64 (.tmp 10) (.tmp 33), _, _, _, _⟩ :: _) _ _); refine wpList_store_new rfl _ _ _ rfl _ _ cs rfl rfl (by rw [HL.out]; exact size_edge) (by rw [HL.out]; rfl) H1.out ?_))
                go_roundw
                case rel => exact ⟨m + 1, (o2, mb), by omega, by simp, rfl, HX.out.trans HRS.out, hrb3⟩
                case measure => simp [intOf]; omega
              · have hs2' : o2.getD q false = false := by simpa using hs2
                rw [hs2'] at d2
                by_cases hs3 : (q : Int) = wo
                · have hres : rEdge wo (o2, mb) (p, q) = (o2, mb) := rEdge_no (.inr (.inr hs3))
                  have e1 : ((q : Int) == wo) = true := by simpa using hs3
                  have e2 : ((q : Int) != wo) = false := by simp [hs3]
                  have HRS := Lib.hid hres
                  clear hs1 hs2 hs2' hl2 hres hs3
                  go_wp2_with (first
                    | ((with_reducible show wpList _ _ _ (⟨some 33, .load 64 (.tmp 32), _, _, _, _⟩ :: _) _ _); refine wpList_load_list rfl _ _ rfl (ad.add (m * 21)) rfl cs _ HC.out Tryd.underlying64 rfl (by rw [HL.out]; exact size_edge) ?_)
                    | ((with_reducible show wpList _ _ _ (⟨none, .store 64 (.tmp 10) (.tmp 33), _, _, _, _⟩ :: _) _ _); refine wpList_store_new rfl _ _ _ rfl _ _ cs rfl rfl (by rw [HL.out]; exact size_edge) (by rw [HL.out]; rfl) H1.out ?_))
                  go_roundw
                  case rel => exact ⟨m + 1, (o2, mb), by omega, by simp, rfl, HX.out.trans HRS.out, hrb3⟩
                  case measure => simp [intOf]; omega
                · have hres : rEdge wo (o2, mb) (p, q) = (o2.set q true, true) := by
                    unfold rEdge
                    rw [if_pos]
                    simp only [hs1, hs2', Bool.not_false, Bool.true_and]
                    simpa using hs3
                  have e1 : ((q : Int) == wo) = false := by simpa using hs3
                  have e2 : ((q : Int) != wo) = true := by simpa using hs3
                  have hst := hrb3.set q
                  have HRS := Lib.hid hres
                  have HST := Lib.hid hst
                  clear hs1 hs2 hs2' hl2 hres hs3 hst
                  go_wp2_with (first
                    | ((with_reducible show wpList _ _ _ (⟨some 33, .load 64 (.tmp 32), _, _, _, _⟩ :: _) _ _); refine wpList_load_list rfl _ _ rfl (ad.add (m * 21)) rfl cs _ HC.out Tryd.underlying64 rfl (by rw [HL.out]; exact size_edge) ?_)
                    | ((with_reducible show wpList _ _ _ (⟨none, .store 64 (.tmp 10) (.tmp 33), _, _, _, _⟩ :: _) _ _); refine wpList_store_new rfl _ _ _ rfl _ _ cs rfl rfl (by rw [HL.out]; exact size_edge) (by rw [HL.out]; rfl) H1.out ?_))
                  go_roundw
                  case rel => exact ⟨m + 1, (o2.set q true, true), by omega, by simp, rfl, HX.out.trans HRS.out, HST.out⟩
                  case measure => simp [intOf]; omega
            · have hs1' : o2.getD p false = false := by simpa using hs1
              rw [hs1'] at d1
              have hres : rEdge wo (o2, mb) (p, q) = (o2, mb) := rEdge_no (.inl hs1')
              have HRS := Lib.hid hres
              clear hs1 hs1' hl2 hres d2 d3
              go_wp2_with (first
                | ((with_reducible show wpList _ _ _ (⟨some 33, .load 64 (.tmp 32), _, _, _, _⟩ :: _) _ _); refine wpList_load_list rfl _ _ rfl (ad.add (m * 21)) rfl cs _ HC.out Tryd.underlying64 rfl (by rw [HL.out]; exact size_edge) ?_)
                | ((with_reducible show wpList _ _ _ (⟨none, .store 64 (.tmp 10) (.tmp 33), _, _, _, _⟩ :: _) _ _); refine wpList_store_new rfl _ _ _ rfl _ _ cs rfl rfl (by rw [HL.out]; exact size_edge) (by rw [HL.out]; rfl) H1.out ?_))
              go_roundw
              case rel => exact ⟨m + 1, (o2, mb), by omega, by simp, rfl, HX.out.trans HRS.out, hrb3⟩
              case measure => simp [intOf]; omega
          · obtain rfl : m = E.length := by omega
            rw [List.take_length] at hfo
            have hfin : RRel E wo gk mb o2 o := by
              have h := HNX.out
              unfold rSweep at h
              rw [hfo] at h
              exact h
            have HF := Lib.hid hfin
            have HL2 := Lib.hid hl2
            clear hfo hfin hl2
            go_wp2
            go_roundg gk
            case measure => omega
            case rel => exact ⟨mb, o2, rfl, HF.out, HL2.out, hrb2⟩
      · have hfin : o'.length = n := hlo
        clear hlo
        go_wp2
        go_ret
        exact ⟨_, rfl, hrb.o, by omega, hrb.bel⟩

#print axioms reached_any

end Go.Proofs.YthaampinmelgaaaDoor
