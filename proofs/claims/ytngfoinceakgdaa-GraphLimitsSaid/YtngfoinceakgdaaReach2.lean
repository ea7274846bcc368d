/- Package graph: 'reach'. -/
import Derived.Test.YtngfoinceakgdaaReach
import Derived.Laws.EntriesVeiled
namespace Go.Proofs.Ytngfoinceakgdaa
open Go.RowKit Go.Shelf

theorem info_bool : (Try.prog.info? 4).map (fun i => (i.zero, i.size, i.bytes)) = some (some (.bool false), 1, 1) := by kernel_rfl

structure Shp.Ok (s : Shp) : Prop where
  hn : s.out.length = s.n
  hto : ∀ es ∈ s.out, ∀ x ∈ es, x < s.tg.length
  htn : ∀ x ∈ s.tg, x < s.n
  hsz : s.n ≤ 100000

def reachEnv (w : World) (sa : Nat) (s : Shp) (wo : Int) : VEnv :=
  { n₀ := w.heap.size, sa, s, wo, bw := w.heap.size + 1, sv := w.heap.size + 1 + 1 + 1, ss := w.heap.size, vv := w.heap.size + 1 + 1 + 1 + 1 + 1, ov := w.heap.size + 1 + 1 + 1 + 1, sr := w.heap.size + 1 + 1, base := w.heap.size + 1 + 1 + 1 + 1 + 1 + 1 }

theorem reachEnv_ok (w : World) (sa : Nat) (s : Shp) (wo : Int) (h : s.Ok) : (reachEnv w sa s wo).Ok := by
  refine ⟨?_, ?_, ?_, ?_, ?_, ?_, h.hn, h.hto, h.htn, h.hsz⟩ <;> simp only [reachEnv] <;> omega

theorem vs_start (w : World) (sa : Nat) (s : Shp) (wo : Int) (hs : IsShape w.heap.size w sa s) {W : World}
    (hW : W = (((((w.alloc (.cells #[.pointer (some ⟨sa, 0, none⟩)] 88)).alloc (.cells #[.int .i64 wo] 3)).alloc (.cells (Array.replicate s.n (.bool false)) 4)).alloc
      (.cells #[.slice (some ⟨w.heap.size + 1 + 1, 0, none⟩) s.n s.n] 61)).alloc (.cells #[.slice none 0 0] 27)).alloc (.cells #[(reachEnv w sa s wo).fn] 115)) :
    VS (reachEnv w sa s wo) W (List.replicate s.n false) [] (.slice none 0 0) ∧ Below w.heap.size w W ∧ W.heap.size = (reachEnv w sa s wo).base := by
  have hb : Below w.heap.size w W := by
    rw [hW]
    exact ((((((Below.refl _ w).alloc (Nat.le_refl _) _).alloc (by simp) _).alloc (by simp; omega) _).alloc (by simp; omega) _).alloc (by simp; omega) _).alloc (by simp; omega) _
  refine ⟨⟨hs.below hb, ?_, ?_, ?_, by simp [reachEnv], ?_, ?_, ?_, World.ownsRow_nil _ _ _ _⟩, hb, by rw [hW]; simp [reachEnv]⟩ <;> rw [hW]
  · exact ((((Blk.newAt _ _ _ (by simp [reachEnv])).alloc _).alloc _).alloc _).alloc _
  · exact ((Blk.newAt _ _ _ (by simp [reachEnv])).alloc _).alloc _
  · have h := Blk.newAt (N := (reachEnv w sa s wo).sr) ((w.alloc (.cells #[.pointer (some ⟨sa, 0, none⟩)] 88)).alloc (.cells #[.int .i64 wo] 3)) 4 (Array.replicate s.n (.bool false)) (by simp [reachEnv])
    simp only [Array.toList_replicate] at h
    simpa using ((h.alloc _).alloc _).alloc _
  · exact (((((Blk.newAt _ _ _ (by simp [reachEnv])).alloc _).alloc _).alloc _).alloc _).alloc _
  · exact Blk.newAt _ _ _ (by simp [reachEnv])
  · exact (Blk.newAt _ _ _ (by simp [reachEnv])).alloc _

set_option maxRecDepth 100000 in
set_option maxHeartbeats 2000000 in
theorem reach_any (B : Nat) (w : World) (sa : Nat) (s : Shp) (wo : Int) (v : Value) (sts : List Nat) (k : Nat) (t : List Bool × List Nat)
    (hs : IsShape B w sa s) (hB : B ≤ w.heap.size) (hok : s.Ok) (hv : Nats B w v sts) (hlt : ∀ x ∈ sts, x < s.n) (hf : foldO (dfsV s.next wo k) sts (List.replicate s.n false, []) = some t) (hlen : t.2.length ≤ 1000000) :
    Calls Try.prog 58 #[.pointer (some ⟨sa, 0, none⟩), .int .i64 wo, v] w fun en w' =>
      ∃ vr vo, en = .returned (.tuple #[vr, vo]) ∧ Bools w'.heap.size w' vr t.1 ∧ Nats w'.heap.size w' vo t.2 ∧ Below w.heap.size w w' := by
  obtain ⟨hsa, vf, vt, vo, vi, hblk, -, -, -, -⟩ := id hs
  obtain ⟨As, cs, rfl, hcs, -, hms, has⟩ := hv.shape
  have hsz := hok.hsz
  have hmk := make_one (P := Try.prog) 61 4 (.bool false) 1 Try.underlying61 info_bool rfl s.n (by omega) (by omega)
  have hmf : ∀ (fn : Fn) (first cap : Array Value) (w : World), (Instr.makeFunc fn first cap).run Try.prog w = .ok (.func fn first cap) w := fun _ _ _ _ => rfl
  have c0 : ∀ o1 o2, ((w.alloc o1).alloc o2).cell? ⟨sa, 0, none⟩ = some (.int .i64 (s.n : Int)) := fun o1 o2 => ((hblk.alloc o1).alloc o2).cellAt (i := 0) rfl
  have HK := Lib.hid hok
  have HF := Lib.hid hf
  have HL := Lib.hid hlen
  have HA := Lib.hid has
  have HT := Lib.hid hlt
  clear hok hf hlen has hlt
  go_enter Try.func58, Try.ntmps58
  go_wp2
  go_loopw [21] (fun i wr => ∃ (j : Nat) (s1 : List Bool × List Nat) (vo1 : Value), j ≤ sts.length ∧ i = .int .i64 j ∧ foldO (dfsV s.next wo k) (sts.take j) (List.replicate s.n false, []) = some s1 ∧ VS (reachEnv w sa s wo) wr s1.1 s1.2 vo1 ∧ Below w.heap.size w wr ∧ (reachEnv w sa s wo).base ≤ wr.heap.size)
    (fun i _ => sts.length - (intOf i).toNat)
  case atStart =>
    obtain ⟨hvs, hbel, hsz0⟩ := vs_start w sa s wo (hs.more hB) (W := _) rfl
    exact ⟨0, _, _, Nat.zero_le _, rfl, rfl, hvs, hbel, Nat.le_of_eq hsz0.symm⟩
  case round =>
    obtain ⟨j, s1, vo1, hj, rfl, hfj, hvs, hbel, hbs⟩ := hrel
    clear c0 hmk hmf
    by_cases hlj : j < sts.length
    · have hcut : sts = sts.take j ++ sts[j] :: sts.drop (j + 1) := by rw [← List.drop_eq_getElem_cons hlj, List.take_append_drop]
      obtain ⟨s1', s2, hf', hx, hrest⟩ := foldO_part _ _ _ _ _ _ (hcut ▸ HF.out)
      obtain rfl : s1' = s1 := by rw [hfj] at hf'; exact (Option.some.inj hf').symm
      have hfs : foldO (dfsV s.next wo k) (sts.take (j + 1)) (List.replicate s.n false, []) = some s2 := by
        rw [List.take_succ_eq_append_getElem hlj, foldO_snoc _ _ _ _ _ hfj]; exact hx
      obtain ⟨ad, u, rfl, hab, hac, hau⟩ := HA.out j sts[j] (List.getElem?_eq_getElem hlj)
      obtain rfl : u = .int .i64 ((sts[j] : Nat) : Int) := hau
      have hac' := (hbel.cell (p := ad.add j) (by rw [block_add]; omega)).trans hac
      have hok' := reachEnv_ok w sa s wo HK.out
      have hc := visit_any _ hok' k wr s1'.1 s1'.2 vo1 sts[j] s2 hvs (HT.out _ (List.getElem_mem hlj)) hbs hx (by have := dfsF_more _ _ _ _ hrest; have := HL.out; omega)
      have cv := hvs.vv.cellAt (i := 0) rfl
      simp only [VEnv.fn, reachEnv] at cv
      have hbs' : w.heap.size + 1 + 1 + 1 + 1 + 1 + 1 ≤ wr.heap.size := hbs
      have HS := Lib.hid hfs
      clear hcut hfs hf' hx hfj hrest hac
      go_wp2_with (go_at_call 78; refine hc.mono ?_; rintro en w2 ⟨rfl, vo2, hv2, ho2, hr2⟩)
      go_roundw
      case rel =>
        refine ⟨j + 1, s2, vo2, by omega, by simp, HS.out, hv2, hbel.trans (ho2.below (by omega) ?_), by have := ho2.size; omega⟩
        rintro b hb (rfl | rfl | hvw)
        · simp [reachEnv] at hb; omega
        · simp [reachEnv] at hb; omega
        · have := hvs.row.lt _ hvw; simp [reachEnv] at this; omega
      case measure => simp [intOf]; omega
    · obtain rfl : j = sts.length := by omega
      rw [List.take_length] at hfj
      obtain rfl : s1 = t := by rw [HF.out] at hfj; exact (Option.some.inj hfj).symm
      have cs1 := hvs.sv.cellAt (i := 0) rfl
      have co1 := hvs.ov.cellAt (i := 0) rfl
      simp only [reachEnv] at cs1 co1
      clear hfj
      go_wp2
      go_quiet (fail)
      go_wp2
      go_ret2
      refine ⟨_, _, rfl, ?_, ?_, below_drewN' hbel nq⟩
      · have h := Sl.of_blk (R := RBool) (c := s.n) Value.bool (fun _ _ => rfl) hvs.sr (Nat.le_of_eq hvs.len) (by unfold maxLen; omega) hvs.sr.lt
        rw [hvs.len] at h
        exact h
      · exact Sl.of_own (R := RNat) natV (fun _ _ => rfl) hvs.row

#print axioms reach_any

end Go.Proofs.Ytngfoinceakgdaa
