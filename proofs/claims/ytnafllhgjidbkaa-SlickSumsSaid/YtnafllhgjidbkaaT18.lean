import Derived.Test.YtnafllhgjidbkaaT9
import Derived.Test.YtnafllhgjidbkaaT10
import Derived.Test.YtnafllhgjidbkaaT14
namespace Go.Proofs.Ytnafllhgjidbkaa
open Go.RowKit
set_option linter.unusedVariables false
set_option linter.unusedSimpArgs false

/-- Two variables and a place for a result, in three blocks of their own. -/
theorem three_new {w : World} (c0 c1 c2 : Array Value) (t0 t1 t2 : TypeId) :
    Below w.heap.size w (((w.alloc (.cells c0 t0)).alloc (.cells c1 t1)).alloc (.cells c2 t2)) ∧ (((w.alloc (.cells c0 t0)).alloc (.cells c1 t1)).alloc (.cells c2 t2)).heap.size = w.heap.size + 3 ∧
    (((w.alloc (.cells c0 t0)).alloc (.cells c1 t1)).alloc (.cells c2 t2)).heap[w.heap.size]? = some (.cells c0 t0 (0, 0)) ∧
    (((w.alloc (.cells c0 t0)).alloc (.cells c1 t1)).alloc (.cells c2 t2)).heap[w.heap.size + 1]? = some (.cells c1 t1 (0, 0)) ∧
    (((w.alloc (.cells c0 t0)).alloc (.cells c1 t1)).alloc (.cells c2 t2)).heap[w.heap.size + 1 + 1]? = some (.cells c2 t2 (0, 0)) := by
  refine ⟨(((Below.refl _ _).alloc (Nat.le_refl _) _).alloc (by simp) _).alloc (by simp <;> omega) _, by simp, heap_alloc_old (heap_alloc_old (World.alloc_heap_new _ _) _) _, ?_, ?_⟩
  · exact heap_alloc_old (by have := World.alloc_heap_new (w.alloc (.cells c0 t0)) (.cells c1 t1); rwa [World.size_alloc] at this) _
  · have := World.alloc_heap_new ((w.alloc (.cells c0 t0)).alloc (.cells c1 t1)) (.cells c2 t2); rwa [World.size_alloc, World.size_alloc] at this
theorem set3 (a b c x y z : Value) : ((#[a, b, c].setIfInBounds 0 x).setIfInBounds 1 y).setIfInBounds 2 z = #[x, y, z] := by simp

set_option maxHeartbeats 1000000 in
theorem after_any (v sv : Value) (B : Bay) (s : Slk) (n : Nat) (w : World) (hv : BayAt w v B) (hs : SlkAt w sv s) (hval : validP B) (hf : fitsP B s) (hn5 : s.K + n ≤ 5) :
    Calls Try.prog 61 #[v, sv, .int .i64 n] w fun e w' => ∃ rv, e = .returned rv ∧ SlkNew w.heap.size w' rv (mvN B s n) ∧ Below w.heap.size w w' := by
  have hv0 := hv
  obtain ⟨la, lc, sa, sc, rfl, hl, hsh, hll, hsl⟩ := hv
  obtain ⟨ao, c, rfl, hi, hn⟩ := hs
  have hlen := len_share hval hf
  have hn100 : s.Oil.length ≤ 100 := by omega
  have hn5' : n ≤ 5 := by have := hf.1; omega
  have HV := Lib.hid hv0
  have HVAL := Lib.hid hval
  have HF := Lib.hid hf
  clear hv0 hl hsh hval hf hlen
  obtain ⟨f0, f1, f2, f3, f4⟩ := three_new (w := w) #[.int .i64 B.W, .int .i64 B.H, .slice la B.Land.length lc, .slice sa B.Share.length sc] #[.int .i64 s.K, .slice ao s.Oil.length c, .int .i64 s.Away] #[.int .i64 0, .slice none 0 0, .int .i64 0] 25 28 28
  go_enter Try.func61, Try.ntmps61
  go_wp2_with fail
  generalize hW : (((w.alloc _).alloc _).alloc _) = W at *
  clear hW
  refine (clone_any ao c s.Oil W (hi.below (Nat.le_refl _) f0) (by omega)).mono ?_
  rintro e W1 ⟨rv, rfl, hown, hb1⟩
  obtain ⟨ao1, c1, rfl, hi1⟩ := ints_of_own hown
  have hfr : ∀ a, ao1 = some a → W.heap.size ≤ a.block := by
    rintro a rfl
    have := hown.lt a.block rfl; exact this.1
  have g0 := (hb1.block _ (by omega)).trans f2
  have g1 := (hb1.block _ (by omega)).trans f3
  have g2 := (hb1.block _ (by omega)).trans f4
  have t1 := cell_of_heap g1 1
  simp at t1
  have tf := free_of_heap g1 1
  have HB1 : Hid (Below w.heap.size w W1) := f0.trans (hb1.mono f0.size)
  have HG0 := Lib.hid g0
  have HG1 := Lib.hid g1
  have HG2 := Lib.hid g2
  have HF1 := Lib.hid f1
  have HI1 := Lib.hid hi1
  have HFR := Lib.hid hfr
  have HSZ : Hid (W.heap.size ≤ W1.heap.size) := hb1.size
  clear g0 g1 g2 f0 f1 f2 f3 f4 hb1 hown hi1 hfr
  go_wp2_with fail
  go_loopw [12] (fun i wr => ∃ (k : Nat) (ak : Option Addr) (ck : Nat), k ≤ n ∧ i = .int .i64 k ∧ Below w.heap.size w wr ∧ wr.heap[w.heap.size]? = some (.cells #[.int .i64 B.W, .int .i64 B.H, .slice la B.Land.length lc, .slice sa B.Share.length sc] 25 (0, 0)) ∧
      wr.heap[w.heap.size + 1]? = some (.cells #[.int .i64 (mvN B s k).K, .slice ak (mvN B s k).Oil.length ck, .int .i64 (mvN B s k).Away] 28 (0, 0)) ∧ wr.heap[w.heap.size + 1 + 1]? = some (.cells #[.int .i64 0, .slice none 0 0, .int .i64 0] 28 (0, 0)) ∧
      IntsAt wr ak (mvN B s k).Oil ∧ (∀ a, ak = some a → w.heap.size + 3 ≤ a.block)) (fun i _ => n - (intOf i).toNat)
  case atStart =>
    refine ⟨0, ao1, c1, Nat.zero_le _, rfl, HB1.out.setCell (by simp) _, (heap_setCell_other (by simp) _).trans HG0.out, (heap_setCell_same HG1.out _).trans (by simp [mvN]), (heap_setCell_other (by simp) _).trans HG2.out, ?_, ?_⟩
    · exact IntsAt.setCell HI1.out (fun a ha => by have := HFR.out a ha; have := HF1.out; simp; omega) _
    · intro a ha; have := HFR.out a ha; have := HF1.out; omega
  case round =>
    obtain ⟨k, ak, ck, hk, rfl, hb, g0, g1, g2, hik, hfk⟩ := hrel
    have d0 := cell_of_heap g0 0
    have d1 := cell_of_heap g0 1
    have d2 := cell_of_heap g0 2
    have d3 := cell_of_heap g0 3
    have s0 := cell_of_heap g1 0
    have s1 := cell_of_heap g1 1
    have s2 := cell_of_heap g1 2
    simp at d0 d1 d2 d3 s0 s1 s2
    have l1 := heap_lt g1
    have l2 := heap_lt g2
    have HB := Lib.hid hb
    have HG0 := Lib.hid g0
    have HG1 := Lib.hid g1
    have HG2 := Lib.hid g2
    have HIK := Lib.hid hik
    have HFK := Lib.hid hfk
    clear hb g0 g1 g2 hik hfk t1 tf
    by_cases hlt : k < n
    · have hfit := mvN_fits HVAL.out HF.out k (by omega)
      have hpre := move_pre HVAL.out hfit (by rw [mvN_K]; omega)
      have HC := Lib.hid (move_any _ (.agg #[.int .i64 (mvN B s k).K, .slice ak (mvN B s k).Oil.length ck, .int .i64 (mvN B s k).Away]) B (mvN B s k) wr (HV.out.below (Nat.le_refl _) HB.out) ⟨ak, ck, rfl, HIK.out, by rw [mvN_len]; omega⟩ HVAL.out hpre.1 hpre.2.1 hpre.2.2.1 hpre.2.2.2)
      clear hfit hpre
      have hmv : Hid (mvN B s (k + 1) = mv B (mvN B s k)) := rfl
      generalize hsk : mvN B s k = sk at *
      have HSK := Lib.hid hsk
      clear hsk
      go_wp2_with fail
      refine (HC.out).mono ?_
      rintro e w1 ⟨rv, rfl, ⟨a', c', rfl, hi', hn', hf'⟩, hb1⟩
      have e1 := (hb1.block _ l1).trans HG1.out
      have e2 := (hb1.block _ l2).trans HG2.out
      have e0 := (hb1.block _ (heap_lt HG0.out)).trans HG0.out
      have s0' := cell_of_heap e1 0
      have s1' := cell_of_heap e1 1
      have s2' := cell_of_heap e1 2
      simp at s0' s1' s2'
      have z0 := free_of_heap e1 0
      have z1 := free_of_heap e1 1
      have z2 := free_of_heap e1 2
      have HE0 := Lib.hid e0
      have HE1 := Lib.hid e1
      have HE2 := Lib.hid e2
      have HB1' := Lib.hid hb1
      have HI' := Lib.hid hi'
      have HF' := Lib.hid hf'
      clear e0 e1 e2 hb1 hi' hf' s0 s1 s2
      go_wp2
      go_roundw
      case rel =>
        refine ⟨k + 1, a', c', by omega, by go_num, ?_, ?_, ?_, ?_, ?_, ?_⟩
        · exact (((HB.out.trans (HB1'.out.mono HB.out.size)).setCell (by simp) _).setCell (by simp) _).setCell (by simp) _
        · exact (heap_setCell_other (by simp) _).trans ((heap_setCell_other (by simp) _).trans ((heap_setCell_other (by simp) _).trans HE0.out))
        · refine (heap_setCell_same (heap_setCell_same (heap_setCell_same HE1.out _) _) _).trans ?_
          rw [hmv.out, set3]
        · exact (heap_setCell_other (by simp) _).trans ((heap_setCell_other (by simp) _).trans ((heap_setCell_other (by simp) _).trans HE2.out))
        · rw [hmv.out]
          have hne : ∀ a, a' = some a → a.block ≠ w.heap.size + 1 := fun a ha => by have := HF'.out a ha; omega
          exact IntsAt.setCell (IntsAt.setCell (IntsAt.setCell HI'.out hne _) hne _) hne _
        · intro a ha; have := HF'.out a ha; omega
      case measure => simp [intOf]; omega
    · obtain rfl : k = n := by omega
      have r0 := cell_of_heap HG2.out 0
      have r1 := cell_of_heap HG2.out 1
      have r2 := cell_of_heap HG2.out 2
      simp at r0 r1 r2
      have z0 := free_of_heap HG2.out 0
      have z1 := free_of_heap HG2.out 1
      have z2 := free_of_heap HG2.out 2
      have hmk : Hid ((mvN B s k).Oil.length = s.Oil.length) := mvN_len B s k
      have hl2 : w.heap.size + 1 + 1 < wr.heap.size := l2
      have hrr := heap_setCell_same (heap_setCell_same (heap_setCell_same HG2.out (i := 0) (.int .i64 (mvN B s k).K)) (i := 1) (.slice ak (mvN B s k).Oil.length ck)) (i := 2) (.int .i64 (mvN B s k).Away)
      rw [set3] at hrr
      have HRR := Lib.hid hrr
      clear hrr
      go_wp2
      have c0 := cell_of_heap HRR.out 0
      have c1 := cell_of_heap HRR.out 1
      have c2 := cell_of_heap HRR.out 2
      simp at c0 c1 c2
      refine bodyPost_ret (v := .agg #[.int .i64 (mvN B s k).K, .slice ak (mvN B s k).Oil.length ck, .int .i64 (mvN B s k).Away]) (by simp [results, Try.results61, go_sem, c0, c1, c2]) rfl ⟨_, rfl, ⟨ak, ck, rfl, ?_, by rw [hmk.out]; omega, ?_⟩, ?_⟩
      · have hne : ∀ a, ak = some a → a.block ≠ w.heap.size + 1 + 1 := fun a ha => by have := HFK.out a ha; omega
        exact IntsAt.setCell (IntsAt.setCell (IntsAt.setCell HIK.out hne _) hne _) hne _
      · intro a ha; have := HFK.out a ha; omega
      · exact ((HB.out.setCell (by simp; omega) _).setCell (by simp; omega) _).setCell (by simp; omega) _
end Go.Proofs.Ytnafllhgjidbkaa
