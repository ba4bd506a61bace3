/- Texts of the proof, part 6: M3, N6, X4, N15, N7, N8, N16, N17, N10, X3, N11, N12, N18, N19, N13, N14. -/
import Derived.Test.YtijnimgmpocmaaaDoorCC5
import Derived.WalkKit
import Derived.Below
import Derived.Lib.TrailingZeros
import Derived.Laws.OwnMore
import Derived.Maps.AppendAt
import Derived.Laws.IdiomCopy
import Derived.Laws.CopyRow
import Derived.IntWalk
import Derived.StillTail
import Derived.Scope
import Derived.ChangeKeysEq
import Derived.Laws.Small
import Derived.OrdersIn
import Derived.TacticsIn
import Derived.OwnWalkIn
import Derived.RangeFuncNested
import Derived.RangeFuncLeaves
import Derived.RangeFuncRecord
import Derived.Maps.Keyed
import Derived.Maps.RangeRun
import Derived.DeepKeys4
import Derived.Test.YtijnimgmpocmaaaDoorRows
import Derived.KernelRfl
import Derived.Shelf.Spec.TrailingZeros
import Derived.PlainAid
import Derived.StillTailTactics
import Derived.WalkSpells
import Derived.OwnWalk
import Derived.Deep.RegionLaw
import Derived.Lib.SliceRun
import Derived.Deep.OwnRows
import Derived.LoopTactic
import Derived.Lib.Hide
import Derived.ProofKit
import Derived.OpenShut
import Derived.Lib.SmallJoins
import Derived.Deep.Slices
import Derived.Deep.RegionHeld3
import Derived.Shelf.Sort.Plain
import Derived.Shelf.Slices.In.SortNone
import Derived.Shelf.Slices.CompactI
/- Waste: the document's kinds of which the others clash. -/
namespace Go.Proofs.YtijnimgmpocmaaaDoor
open Go.RowKit
set_option linter.unusedVariables false
set_option linter.unusedSimpArgs false
/-- Pairs in ascending order. -/
def plB (f : Nat → Nat → Bool) (a b : Nat) : List (Nat × Nat) := ((List.range b).filter fun b => decide (a < b) && f a b).map fun b => (a, b)
def plA (f : Nat → Nat → Bool) (n a : Nat) : List (Nat × Nat) := (List.range a).flatMap fun a => plB f a n
end Go.Proofs.YtijnimgmpocmaaaDoor

/- Waste: the kinds of a set as a list, lists compared. -/
namespace Go.Proofs.YtijnimgmpocmaaaDoor
open Go.RowKit
set_option linter.unusedVariables false
set_option linter.unusedSimpArgs false
/-- Lists compared. -/
def cmpR : List Nat → List Nat → Int
  | x :: a, y :: b => if x < y then -1 else if y < x then 1 else cmpR a b
  | _, _ => 0
def lexB : List Nat → List Nat → Bool
  | x :: a, y :: b => if x = y then lexB a b else decide (x < y)
  | _, _ => false
def cmpI (x y : Int) : Int := if x < y then -1 else if x > y then 1 else 0
theorem natI_get {l : List Nat} {k : Nat} (h : k < l.length) : (natI l).getD k 0 = (l.getD k 0 : Nat) := by
  simp [natI, List.getD_eq_getElem?_getD, h]
end Go.Proofs.YtijnimgmpocmaaaDoor

/- slices.Sort and slices.Compact at integers: where the library's text lies in this program; the calls. -/
namespace Go.Proofs.YtijnimgmpocmaaaDoor
open Go.RowKit
set_option linter.unusedVariables false
set_option linter.unusedSimpArgs false
def ren189 : Go.Shelf.Ren := ⟨fun x => match x with
  | 189 => 106
  | 125 => 119
  | 257 => 118
  | 128 => 130
  | 129 => 131
  | 294 => 121
  | 295 => 122
  | 296 => 123
  | 297 => 124
  | 298 => 125
  | 299 => 126
  | 216 => 127
  | 300 => 128
  | 301 => 129
  | 328 => 132
  | 329 => 133
  | 330 => 134
  | 331 => 135
  | 332 => 136
  | 215 => 120
  | 343 => 137
  | n => n, fun x => match x with
  | 28 => 25
  | 3 => 3
  | 46 => 74
  | 0 => 0
  | 51 => 110
  | 53 => 112
  | 4 => 4
  | 183 => 123
  | 182 => 122
  | 131 => 127
  | 5 => 5
  | 9 => 9
  | 218 => 129
  | 222 => 133
  | 228 => 135
  | 229 => 136
  | n => n, fun x => x⟩
theorem lays189 : Lays.n189 Tryd.prog ren189 where
  mixed := by kernel_rfl
  f125 := Tryd.func119.trans (congrArg some (by kernel_rfl))
  f128 := Tryd.func130.trans (congrArg some (by kernel_rfl))
  f129 := Tryd.func131.trans (congrArg some (by kernel_rfl))
  f189 := Tryd.func106.trans (congrArg some (by kernel_rfl))
  f215 := Tryd.func120.trans (congrArg some (by kernel_rfl))
  f216 := Tryd.func127.trans (congrArg some (by kernel_rfl))
  f257 := Tryd.func118.trans (congrArg some (by kernel_rfl))
  f294 := Tryd.func121.trans (congrArg some (by kernel_rfl))
  f295 := Tryd.func122.trans (congrArg some (by kernel_rfl))
  f296 := Tryd.func123.trans (congrArg some (by kernel_rfl))
  f297 := Tryd.func124.trans (congrArg some (by kernel_rfl))
  f298 := Tryd.func125.trans (congrArg some (by kernel_rfl))
  f299 := Tryd.func126.trans (congrArg some (by kernel_rfl))
  f300 := Tryd.func128.trans (congrArg some (by kernel_rfl))
  f301 := Tryd.func129.trans (congrArg some (by kernel_rfl))
  f328 := Tryd.func132.trans (congrArg some (by kernel_rfl))
  f329 := Tryd.func133.trans (congrArg some (by kernel_rfl))
  f330 := Tryd.func134.trans (congrArg some (by kernel_rfl))
  f331 := Tryd.func135.trans (congrArg some (by kernel_rfl))
  f332 := Tryd.func136.trans (congrArg some (by kernel_rfl))
  f343 := Tryd.func137.trans (congrArg some (by kernel_rfl))
  t0 := Tryd.underlying0
  a0 := Tryd.isAgg0
  z0 := Tryd.sizeOf0
  v0 := Tryd.zeroValue0
  t3 := Tryd.underlying3
  a3 := Tryd.isAgg3
  z3 := Tryd.sizeOf3
  v3 := Tryd.zeroValue3
  t4 := Tryd.underlying4
  a4 := Tryd.isAgg4
  z4 := Tryd.sizeOf4
  v4 := Tryd.zeroValue4
  t5 := Tryd.underlying5
  a5 := Tryd.isAgg5
  z5 := Tryd.sizeOf5
  v5 := Tryd.zeroValue5
  t9 := Tryd.underlying9
  a9 := Tryd.isAgg9
  z9 := Tryd.sizeOf9
  v9 := Tryd.zeroValue9
  t28 := Tryd.underlying25
  a28 := Tryd.isAgg25
  z28 := Tryd.sizeOf25
  v28 := Tryd.zeroValue25
  t46 := Tryd.underlying74
  a46 := Tryd.isAgg74
  z46 := Tryd.sizeOf74
  v46 := Tryd.zeroValue74
  t51 := Tryd.underlying110
  a51 := Tryd.isAgg110
  z51 := Tryd.sizeOf110
  v51 := Tryd.zeroValue110
  t53 := Tryd.underlying112
  a53 := Tryd.isAgg112
  z53 := Tryd.sizeOf112
  v53 := Tryd.zeroValue112
  t131 := Tryd.underlying127
  a131 := Tryd.isAgg127
  z131 := Tryd.sizeOf127
  v131 := Tryd.zeroValue127
  t182 := Tryd.underlying122
  a182 := Tryd.isAgg122
  z182 := Tryd.sizeOf122
  v182 := Tryd.zeroValue122
  t183 := Tryd.underlying123
  a183 := Tryd.isAgg123
  z183 := Tryd.sizeOf123
  v183 := Tryd.zeroValue123
  t218 := Tryd.underlying129
  a218 := Tryd.isAgg129
  z218 := Tryd.sizeOf129
  v218 := Tryd.zeroValue129
  t222 := Tryd.underlying133
  a222 := Tryd.isAgg133
  z222 := Tryd.sizeOf133
  v222 := Tryd.zeroValue133
  t228 := Tryd.underlying135
  a228 := Tryd.isAgg135
  z228 := Tryd.sizeOf135
  v228 := Tryd.zeroValue135
  t229 := Tryd.underlying136
  a229 := Tryd.isAgg136
  z229 := Tryd.sizeOf136
  v229 := Tryd.zeroValue136
def ren20 : Go.Shelf.Ren := ⟨fun x => match x with
  | 20 => 85
  | n => n, fun x => match x with
  | 22 => 25
  | n => n, fun x => x⟩
theorem lays20 : Lays2.n20 Tryd.prog ren20 where
  mixed := by kernel_rfl
  f20 := Tryd.func85.trans (congrArg some (by kernel_rfl))
  t0 := Tryd.underlying0
  a0 := Tryd.isAgg0
  z0 := Tryd.sizeOf0
  v0 := Tryd.zeroValue0
  t3 := Tryd.underlying3
  a3 := Tryd.isAgg3
  z3 := Tryd.sizeOf3
  v3 := Tryd.zeroValue3
  t4 := Tryd.underlying4
  a4 := Tryd.isAgg4
  z4 := Tryd.sizeOf4
  v4 := Tryd.zeroValue4
  t22 := Tryd.underlying25
  a22 := Tryd.isAgg25
  z22 := Tryd.sizeOf25
  v22 := Tryd.zeroValue25
  i3 := by kernel_rfl
open Go.Sort in
theorem heap_putRow {w : World} {g off : Nat} {d : Array Int} {cur : Array Value} {t : TypeId} (hg : w.heap[g]? = some (.cells cur t (0, 0))) : (putRow (Value.int .i64) w g off d).heap[g]? = some (.cells (putCells (Value.int .i64) off d cur) t (0, 0)) := by
  simp only [putRow, mapBlock]
  rw [Array.getElem?_modify, if_pos rfl, hg]; rfl
open Go.Sort in
theorem take_putCells {off : Nat} {d : Array Int} {cur : Array Value} (h : off + d.size ≤ cur.size) : ((putCells (Value.int .i64) off d cur).toList.drop off).take d.size = d.toList.map (Value.int .i64) := by
  apply List.ext_getElem
  · simp [putCells]; omega
  · intro i h1 h2
    have hi : i < d.size := by simpa using h2
    simp [putCells, List.getElem_take, List.getElem_drop, hi]
open Go.Sort in
theorem sort_any (g off n cap : Nat) (w : World) (n0 : Nat) (q : List Int) (hown : rowO w n0 3 1 (.slice (some ⟨g, off, none⟩) n cap) n (q.map (Value.int .i64))) (hq : q.length = n) (hn : n ≤ 1000) :
    Calls Tryd.prog 106 #[.slice (some ⟨g, off, none⟩) n cap] w fun e w' => e = .returned (.tuple #[]) ∧ w.grownBy w' (some g) ∧ rowO w' n0 3 1 (.slice (some ⟨g, off, none⟩) n cap) n ((q.mergeSort fun x y => decide (x ≤ y)).map (Value.int .i64)) := by
  obtain ⟨hx, ⟨h', _⟩ | ⟨g', off', cap', cur, h', hb, hg, hnc, hcm, hcs, htake⟩⟩ := hown
  · simp at h'
  simp only [Value.slice.injEq, Option.some.injEq, Addr.mk.injEq, and_true, true_and] at h'
  obtain ⟨⟨rfl, rfl⟩, rfl⟩ := h'
  subst hq
  have hH : Holds (Value.int .i64) w g off q.toArray := by
    intro j hj
    have hj' : j < q.length := by simpa using hj
    refine ⟨?_, frozen_of_row w g (off + j) cur 3 hg⟩
    rw [cell_of_row w g (off + j) cur 3 (0, 0) hg]
    have h1 : (q.map (Value.int .i64))[j]? = some (.int .i64 q[j]) := by simp [hj']
    rw [← htake, List.getElem?_take, if_pos (by omega), List.getElem?_drop] at h1
    simp only [Array.getElem?_toList] at h1
    rw [h1]
    simp [hj']
  have hc := Any.slices_Sort_int lays189 g off cap q w hH (Array.getElem?_eq_some_iff.1 hg).1 (by omega)
  refine Calls.mono (show Calls Tryd.prog 106 _ w _ from hc) ?_
  rintro e w' ⟨rfl, m, os, rfl⟩
  have hlen : (q.mergeSort fun x y => decide (x ≤ y)).length = q.length := List.length_mergeSort ..
  have hgl := (Array.getElem?_eq_some_iff.1 hg).1
  have hg1 : (grow (putRow (Value.int .i64) (Sort.ahead w m) g off (q.mergeSort fun x y => decide (x ≤ y)).toArray) os).heap[g]? = some (.cells (putCells (Value.int .i64) off (q.mergeSort fun x y => decide (x ≤ y)).toArray cur) 3 (0, 0)) := by
    have h1 := heap_putRow (w := Sort.ahead w m) (off := off) (d := (q.mergeSort fun x y => decide (x ≤ y)).toArray) hg
    show (_ ++ os)[g]? = _
    rw [Array.getElem?_append_left (by rw [size_putRow]; exact hgl)]
    exact h1
  refine ⟨rfl, ⟨rfl, rfl, rfl, ?_, ?_⟩, by simp [hlen], .inr ⟨g, off, cap, _, rfl, hb, hg1, hnc, hcm, ?_, ?_⟩⟩
  · show w.heap.size ≤ (_ ++ os).size
    rw [Array.size_append, size_putRow]
    show w.heap.size ≤ w.heap.size + os.size
    omega
  · intro k hk hne
    show (_ ++ os)[k]? = _
    rw [Array.getElem?_append_left (by rw [size_putRow]; exact hk)]
    simp only [putRow, mapBlock]
    rw [Array.getElem?_modify, if_neg (fun e => hne (by rw [e]))]
    rfl
  · simpa [putCells] using hcs
  · have := take_putCells (off := off) (d := (q.mergeSort fun x y => decide (x ≤ y)).toArray) (cur := cur) (by simp [hlen]; omega)
    simpa [hlen] using this
/-- A row of one's own, sorted. -/
theorem CallM.sort {n0 nx l : Nat} {q : List Int} {L : List E} {K : V → List E → Nat → Prop} (hl : (L.all fun e => !Nat.beq e.lab l) = true) (hn : q.length ≤ 1000) (hlx : l < nx)
    (hK : K (V.tup []) (⟨l, .vec 3 1, (q.mergeSort fun x y => decide (x ≤ y)).map C.i⟩ :: L) (nx + 1)) : CallM Tryd.prog n0 106 [V.c (.sl l q.length)] (⟨l, .vec 3 1, q.map C.i⟩ :: L) nx K := by
  refine ⟨by kernel_rfl, fun ρ w hp _ => ?_⟩
  have hne : ∀ e ∈ L, e.lab ≠ l := fun e he => by
    have := List.all_eq_true.1 hl e he
    intro h
    rw [h] at this; simp at this
  have hm : (⟨l, .vec 3 1, q.map C.i⟩ : E) ∈ (⟨l, .vec 3 1, q.map C.i⟩ :: L : List E) := List.mem_cons_self ..
  obtain ⟨n', hown⟩ := hp.ok _ hm
  have hden : ∀ (x : List Int) (ρ : Env), (x.map C.i).map (C.den ρ) = x.map (Value.int .i64) := fun x ρ => by rw [List.map_map]; rfl
  simp only [hden] at hown
  have hn' : n' = q.length := by have := hown.1; simp at this; omega
  subst hn'
  have hr : ∃ w', Calls Tryd.prog 106 #[.slice (ρ l).1 q.length (ρ l).2] w (fun e w1 => e = .returned (.tuple #[]) ∧ w.grownBy w1 (Value.slice (ρ l).1 q.length (ρ l).2).ownBlock ∧ rowO w1 n0 3 1 (.slice (ρ l).1 q.length (ρ l).2) q.length ((q.mergeSort fun x y => decide (x ≤ y)).map (Value.int .i64))) ∧ w' = w := by
    refine ⟨w, ?_, rfl⟩
    have hown' := hown
    obtain ⟨_, ⟨hv, h0⟩ | ⟨g, off, cap, cur, hv, hb, hg, _⟩⟩ := hown
    · have hq : q = [] := List.eq_nil_of_length_eq_zero h0
      subst hq
      refine Calls.mono (show Calls Tryd.prog 106 _ w _ from Any.slices_Sort_int_none lays189 (ρ l).1 (ρ l).2 w) ?_
      rintro e w1 ⟨rfl, rfl⟩
      exact ⟨rfl, ⟨rfl, rfl, rfl, Nat.le_refl _, fun _ _ _ => rfl⟩, by simpa using hown'⟩
    · have hv1 : (ρ l).1 = some ⟨g, off, none⟩ ∧ (ρ l).2 = cap := by
        simp only [Value.slice.injEq, true_and] at hv; exact hv
      rw [hv1.1, hv1.2] at hown' ⊢
      exact sort_any g off q.length cap w n0 q hown' rfl hn
  obtain ⟨_, hc, _⟩ := hr
  refine Calls.mono (show Calls Tryd.prog 106 ([V.c (.sl l q.length)].map (V.den ρ)).toArray w _ from hc) ?_
  rintro e w' ⟨rfl, hgr, hrow⟩
  rw [← hden _ ρ] at hrow
  have hob : (Value.slice (ρ l).1 q.length (ρ l).2).ownBlock = blk ρ l := by cases hq : (ρ l).1 <;> simp [Value.ownBlock, blk, hq]
  have hap : ∀ y ∈ L, (y.kd.isFl = true → y.cs ≠ []) → ∀ b, blk ρ y.lab = some b → some b ≠ (Value.slice (ρ l).1 q.length (ρ l).2).ownBlock := by
    intro y hy hcs b hb heq
    rw [hob] at heq
    exact hp.apart _ hm y (List.mem_cons_of_mem _ hy) rfl (hne y hy) hcs b heq.symm hb
  obtain ⟨g1, g2⟩ := hp.moved (L0 := L) (v := .slice (ρ l).1 q.length (ρ l).2) (fun e he => List.mem_cons_of_mem _ he) hap (wf_ints _ _) (fun b hb => ⟨(hown.lt b hb).1, owns_cells hown hb⟩) hrow hgr (fun b hb => .inl (by rw [hob]; exact hb))
  have hput : (ρ.put nx (ρ l).1 (ρ l).2) l = ρ l := Env.put_agr ρ nx _ _ l (by omega)
  have g3 := g1.relab (als := [(nx, l)]) (by intro p hp'; rw [List.mem_singleton.1 hp']; exact ⟨by rw [Env.put_same, hput], by show l < nx + 1; omega⟩) (by
    intro p hp' e he
    rw [List.mem_singleton.1 hp']
    rcases List.mem_cons.1 he with rfl | he
    · show nx ≠ l; omega
    · exact hne e he) rfl
  have hmap : List.map (relE [(nx, l)]) (⟨nx, .vec 3 1, (q.mergeSort fun x y => decide (x ≤ y)).map C.i⟩ :: L) = ⟨l, .vec 3 1, (q.mergeSort fun x y => decide (x ≤ y)).map C.i⟩ :: L := by
    have h0 : ∀ e ∈ L, relE [(nx, l)] e = e := fun e he => by
      have h1 := (hp.wf e (List.mem_cons_of_mem _ he)).1
      have h2 : Nat.beq nx e.lab = false := by
        cases hb : Nat.beq nx e.lab with
        | false => rfl
        | true => have := Nat.eq_of_beq_eq_true hb; omega
      obtain ⟨lab, kd, cs⟩ := e
      simp only at h2
      simp only [relE, relN, h2, cond_false]
    rw [List.map_cons]
    congr 1
    · simp only [relE, relN, Nat.beq_refl, cond_true]
    · exact (List.map_congr_left h0).trans (List.map_id' L)
  rw [hmap] at g3
  exact ⟨V.tup [], _, nx + 1, ρ.put nx (ρ l).1 (ρ l).2, by simp [V.den], by omega, by simp [V.wf], Env.put_agr _ _ _ _, g2, g3, hK⟩
theorem cpt_le (q : List Int) : (Lib.compact q).length ≤ q.length := by
  unfold Lib.compact Lib.compactUpTo
  rw [List.length_map]
  refine Nat.le_trans (List.length_filter_le _ _) ?_
  simp
open Go.Sort in
theorem take_putCells' {off k : Nat} {d : Array Int} {cur : Array Value} (h : off + d.size ≤ cur.size) (hk : k ≤ d.size) : ((putCells (Value.int .i64) off d cur).toList.drop off).take k = (d.toList.map (Value.int .i64)).take k := by
  have := take_putCells h
  rw [← this, List.take_take, Nat.min_eq_left hk]
open Go.Sort in
theorem compact_any (g off n cap : Nat) (w : World) (n0 : Nat) (q : List Int) (hown : rowO w n0 3 1 (.slice (some ⟨g, off, none⟩) n cap) n (q.map (Value.int .i64))) (hq : q.length = n) (hn : n ≤ 1000) :
    Calls Tryd.prog 85 #[.slice (some ⟨g, off, none⟩) n cap] w fun e w' => e = .returned (.slice (some ⟨g, off, none⟩) (Lib.compact q).length cap) ∧ w.grownBy w' (some g) ∧ rowO w' n0 3 1 (.slice (some ⟨g, off, none⟩) (Lib.compact q).length cap) (Lib.compact q).length ((Lib.compact q).map (Value.int .i64)) := by
  obtain ⟨hx, ⟨h', _⟩ | ⟨g', off', cap', cur, h', hb, hg, hnc, hcm, hcs, htake⟩⟩ := hown
  · simp at h'
  simp only [Value.slice.injEq, Option.some.injEq, Addr.mk.injEq, and_true, true_and] at h'
  obtain ⟨⟨rfl, rfl⟩, rfl⟩ := h'
  subst hq
  have hH : Holds (Value.int .i64) w g off q.toArray := by
    intro j hj
    have hj' : j < q.length := by simpa using hj
    refine ⟨?_, frozen_of_row w g (off + j) cur 3 hg⟩
    rw [cell_of_row w g (off + j) cur 3 (0, 0) hg]
    have h1 : (q.map (Value.int .i64))[j]? = some (.int .i64 q[j]) := by simp [hj']
    rw [← htake, List.getElem?_take, if_pos (by omega), List.getElem?_drop] at h1
    simp only [Array.getElem?_toList] at h1
    rw [h1]
    simp [hj']
  have hc := Any.slices_Compact_int lays20 g off cap q w hH (by omega) hnc
  refine Calls.mono (show Calls Tryd.prog 85 _ w _ from hc) ?_
  rintro e w' ⟨rfl, m, rfl⟩
  have hle : (Lib.compact q).length ≤ q.length := cpt_le q
  obtain ⟨d, hd⟩ : ∃ d, d = (Lib.compact q ++ List.replicate (q.length - (Lib.compact q).length) 0).toArray := ⟨_, rfl⟩
  have hds : d.size = q.length := by rw [hd]; simp; omega
  have hdt : (d.toList.map (Value.int .i64)).take (Lib.compact q).length = (Lib.compact q).map (Value.int .i64) := by
    rw [hd]; simp [← List.map_take]
  rw [← hd]
  have hg1 : (putRow (Value.int .i64) (Sort.ahead w m) g off d).heap[g]? = some (.cells (putCells (Value.int .i64) off d cur) 3 (0, 0)) := heap_putRow (w := Sort.ahead w m) hg
  refine ⟨rfl, ⟨rfl, rfl, rfl, ?_, ?_⟩, by simp, .inr ⟨g, off, cap, _, rfl, hb, hg1, by omega, hcm, ?_, ?_⟩⟩
  · rw [size_putRow]; exact Nat.le_refl _
  · intro k hk hne
    simp only [putRow, mapBlock]
    rw [Array.getElem?_modify, if_neg (fun e => hne (by rw [e]))]
    rfl
  · simpa [putCells] using hcs
  · rw [← hdt]
    have := take_putCells' (off := off) (d := d) (cur := cur) (k := (Lib.compact q).length) (by rw [hds]; omega) (by rw [hds]; exact hle)
    simpa using this
/-- A row of one's own, its runs of equal numbers cut. -/
theorem CallX.compact {n0 nx l : Nat} {q : List Int} (hq : 1 ≤ q.length) (hn : q.length ≤ 1000) (hlx : l < nx) : CallX Tryd.prog n0 85 l q.length ⟨l, .vec 3 1, q.map C.i⟩ nx (V.c (.sl nx (Lib.compact q).length)) [⟨nx, .vec 3 1, (Lib.compact q).map C.i⟩] := by
  refine ⟨by kernel_rfl, fun ρ w hp => ?_⟩
  have hm : (⟨l, .vec 3 1, q.map C.i⟩ : E) ∈ ([⟨l, .vec 3 1, q.map C.i⟩] : List E) := List.mem_cons_self ..
  obtain ⟨n', hown⟩ := hp.ok _ hm
  have hden : ∀ (x : List Int) (ρ : Env), (x.map C.i).map (C.den ρ) = x.map (Value.int .i64) := fun x ρ => by rw [List.map_map]; rfl
  simp only [hden] at hown
  have hn' : n' = q.length := by have := hown.1; simp at this; omega
  subst hn'
  have hown' := hown
  obtain ⟨_, ⟨hv, h0⟩ | ⟨g, off, cap, cur, hv, hb, hg, _⟩⟩ := hown
  · omega
  have hv1 : (ρ l).1 = some ⟨g, off, none⟩ ∧ (ρ l).2 = cap := by
    simp only [Value.slice.injEq, true_and] at hv; exact hv
  have hc := compact_any g off q.length cap w n0 q (by rw [hv1.1, hv1.2] at hown'; exact hown') rfl hn
  have hden0 : (V.c (.sl l q.length)).den ρ = .slice (some ⟨g, off, none⟩) q.length cap := by
    show Value.slice (ρ l).1 q.length (ρ l).2 = _
    rw [hv1.1, hv1.2]
  rw [hden0]
  refine Calls.mono hc ?_
  rintro e w' ⟨rfl, hgr, hrow⟩
  refine ⟨ρ.put nx (some ⟨g, off, none⟩) cap, ?_, Nat.lt_succ_self nx, Env.put_agr _ _ _ _, _, _, some g, some ⟨g, off, none⟩, cap, Nat.lt_succ_self nx, rfl, rfl, wf_ints _ _, .inr ⟨_, hm, rfl, rfl, ?_⟩, ?_, ?_, hgr, ?_⟩
  · show Ending.returned _ = Ending.returned (Value.slice ((ρ.put nx _ _) nx).1 _ ((ρ.put nx _ _) nx).2)
    rw [Env.put_same]
  · simp [blk, hv1.1]
  · intro b hb'
    cases hb'
    exact ⟨hb, fun o ho => by rw [hg] at ho; cases ho; rfl⟩
  · refine ⟨(Lib.compact q).length, ?_⟩
    rw [Env.put_same, hden]
    exact hrow
  · intro b hb'; cases hb'; exact .inl rfl
theorem X_mk {P : Program} {n0 g l n nx : Nat} {en : E} {v : V} {new : List E} {B : Bool} {R' : V → List E → Prop} (h : CallX P n0 g l n en nx v new) (hb : B = true) (hR : R' v new) : ∃ v new, CallX P n0 g l n en nx v new ∧ B = true ∧ R' v new := ⟨v, new, h, hb, hR⟩
end Go.Proofs.YtijnimgmpocmaaaDoor

/- Waste: slices.Sorted of slices.Values. -/
namespace Go.Proofs.YtijnimgmpocmaaaDoor
open Go.RowKit
set_option linter.unusedVariables false
set_option linter.unusedSimpArgs false
theorem roE_x {R : Rn} {nx lab l z : Nat} {k : Kd} {L : List E} {cs cs' : List C} (hr : renL R lab = some l) (h1 : lab < nx) (hw : ∀ c ∈ cs, c.wf nx) (h3 : find L l = some ⟨l, k, cs'⟩) (hz : z = 0 ∨ k.z = some z) (h : seqO (cs.map (C.ren R)) = some cs') : roE R nx L ⟨lab, .ro z, cs⟩ := by
  refine ⟨h1, hw, ?_⟩
  show match renL R lab with | some l => _ | none => _
  rw [hr]
  exact ⟨k, _, h3, hz, h⟩
theorem values_spec (l n nx : Nat) (L : List E) : SpecM Tryd.prog 84 [V.c (.sl l n)] L nx (fun v L' nx' => v = V.c (.fn 107 [(nx, 0)]) ∧ L' = ⟨nx, .own 25, [.sl l n]⟩ :: L ∧ nx' = nx + 1) := by
  refine SpecM.of tok Tryd.func84 rfl rfl rfl fun n0 cx => vc_ok tok ?_
  repeat ((conv => whnf); first | (refine And.intro (by first | omega | exact Nat.le_of_ble_eq_true rfl | (dsimp only [inK]; omega) | (simp only [mulS_eq]; omega) | (simp only [mulS_eq, setL_length]; omega) | (simp only [setL_length]; omega) | (simp only [setL_length, List.length_map]; omega) | (exact ⟨by omega, by omega, by first | exact Nat.le_of_ble_eq_true rfl | (dsimp only; omega) | (simp only [setL_length]; omega) | (simp only [setL_length, List.length_map]; omega)⟩) | (exact ⟨by omega, by first | rfl | omega, by omega, Nat.le_of_ble_eq_true rfl, Nat.le_of_ble_eq_true rfl⟩) | (exact ⟨rfl, rfl, rfl, Nat.le_of_ble_eq_true rfl, by first | rfl | omega | exact Nat.le_of_ble_eq_true rfl | (dsimp only; omega) | (simp; done) | (simp; omega), by first | rfl | omega | exact Nat.le_of_ble_eq_true rfl | (dsimp only; omega) | (simp; done) | (simp; omega), by omega, Nat.le_of_ble_eq_true rfl⟩) | exact Eq.refl true) ?_) | refine Exists.intro _ (And.intro rfl ?_) | refine And.intro (And.intro rfl (chk_rowI _ _ _ _)) ?_ | refine br_t (by omega) ?_ | refine br_f (by omega) ?_ | refine bs_t (by omega) ?_ | refine bs_f (by omega) ?_ | refine fun (K' : K3) hK' => ?_ | (refine hK' _ _ _ ?_; clear hK' K') | refine draw_auto tok mixed (by kernel_rfl) ?_ | refine bs_bt (Eq.refl true) ?_ | refine bs_bf (Eq.refl false) ?_ | refine br_bt (Eq.refl true) ?_ | refine br_bf (Eq.refl false) ?_ | refine CallK.m ?_ | refine Two.l ?_ | refine And.intro (And.intro rfl rfl) ?_)
  exact ⟨rfl, rfl, rfl⟩
set_option maxRecDepth 10000 in
set_option maxHeartbeats 4000000 in
theorem appendSeqV_spec (zs : List Int) (hz : zs.length ≤ 1000) : Spec Tryd.prog 116 [V.c .nil, V.c (.fn 107 [(0, 0)])] [⟨0, .ro 0, [.sl 1 zs.length]⟩, ⟨1, .ro 0, zs.map C.i⟩] 2
    (fun v L' _ => ∃ lab, v = V.c (.sl lab zs.length) ∧ find L' lab = some ⟨lab, .vec 3 1, zs.map C.i⟩) := by
  have hzl : (zs.map C.i).length = zs.length := List.length_map ..
  refine Spec.of tok Tryd.func116 rfl rfl rfl fun n0 cx => vc_ok tok ?_
  repeat ((conv => whnf); first | (refine And.intro (by first | omega | exact Nat.le_of_ble_eq_true rfl | (dsimp only [inK]; omega) | (simp only [mulS_eq]; omega) | (simp only [mulS_eq, setL_length]; omega) | (simp only [setL_length]; omega) | (simp only [setL_length, List.length_map]; omega) | (exact ⟨by omega, by omega, by first | exact Nat.le_of_ble_eq_true rfl | (dsimp only; omega) | (simp only [setL_length]; omega) | (simp only [setL_length, List.length_map]; omega)⟩) | (exact ⟨by omega, by first | rfl | omega, by omega, Nat.le_of_ble_eq_true rfl, Nat.le_of_ble_eq_true rfl⟩) | (exact ⟨rfl, rfl, rfl, Nat.le_of_ble_eq_true rfl, by first | rfl | omega | exact Nat.le_of_ble_eq_true rfl | (dsimp only; omega) | (simp; done) | (simp; omega), by first | rfl | omega | exact Nat.le_of_ble_eq_true rfl | (dsimp only; omega) | (simp; done) | (simp; omega), by omega, Nat.le_of_ble_eq_true rfl⟩) | exact Eq.refl true) ?_) | refine Exists.intro _ (And.intro rfl ?_) | refine And.intro (And.intro rfl (chk_rowI _ _ _ _)) ?_ | refine br_t (by omega) ?_ | refine br_f (by omega) ?_ | refine bs_t (by omega) ?_ | refine bs_f (by omega) ?_ | refine fun (K' : K3) hK' => ?_ | (refine hK' _ _ _ ?_; clear hK' K') | refine draw_auto tok mixed (by kernel_rfl) ?_ | refine bs_bt (Eq.refl true) ?_ | refine bs_bf (Eq.refl false) ?_ | refine br_bt (Eq.refl true) ?_ | refine br_bf (Eq.refl false) ?_ | refine CallK.m ?_ | refine Two.l ?_ | refine And.intro (And.intro rfl rfl) ?_)
  refine Tri.opq fun K' hK' => ?_
  refine Tri.rangeFunc tok (by exact rfl) (by kernel_rfl) (by exact rfl) (by exact rfl) (by exact rfl) (by exact rfl) (by exact rfl) (by exact rfl) ?_
  intro y cxi oo ob od hy hY
  refine vc_ok tok ?_
  repeat ((conv => whnf); first | (refine And.intro (by first | omega | exact Nat.le_of_ble_eq_true rfl | (dsimp only [inK]; omega) | (simp only [mulS_eq]; omega) | (simp only [mulS_eq, setL_length]; omega) | (simp only [setL_length]; omega) | (simp only [setL_length, List.length_map]; omega) | (exact ⟨by omega, by omega, by first | exact Nat.le_of_ble_eq_true rfl | (dsimp only; omega) | (simp only [setL_length]; omega) | (simp only [setL_length, List.length_map]; omega)⟩) | (exact ⟨by omega, by first | rfl | omega, by omega, Nat.le_of_ble_eq_true rfl, Nat.le_of_ble_eq_true rfl⟩) | (exact ⟨rfl, rfl, rfl, Nat.le_of_ble_eq_true rfl, by first | rfl | omega | exact Nat.le_of_ble_eq_true rfl | (dsimp only; omega) | (simp; done) | (simp; omega), by first | rfl | omega | exact Nat.le_of_ble_eq_true rfl | (dsimp only; omega) | (simp; done) | (simp; omega), by omega, Nat.le_of_ble_eq_true rfl⟩) | exact Eq.refl true) ?_) | refine Exists.intro _ (And.intro rfl ?_) | refine And.intro (And.intro rfl (chk_rowI _ _ _ _)) ?_ | refine br_t (by omega) ?_ | refine br_f (by omega) ?_ | refine bs_t (by omega) ?_ | refine bs_f (by omega) ?_ | refine fun (K' : K3) hK' => ?_ | (refine hK' _ _ _ ?_; clear hK' K') | refine draw_auto tok mixed (by kernel_rfl) ?_ | refine bs_bt (Eq.refl true) ?_ | refine bs_bf (Eq.refl false) ?_ | refine br_bt (Eq.refl true) ?_ | refine br_bf (Eq.refl false) ?_ | refine CallK.m ?_ | refine Two.l ?_ | refine And.intro (And.intro rfl rfl) ?_)
  refine Tri.loop (γ := Nat) (fun k => k ≤ zs.length) (fun k => [(0, V.c (.v y)), (5, V.c (.sl 1 zs.length)), (6, V.i zs.length), (7, V.i (k : Nat))])
    (fun k => [⟨20, .vec 3 1, (zs.take k).map C.i⟩, ⟨3, .obj oo, []⟩, ⟨2, .own 25, [.sl 20 k]⟩, ⟨0, .ro 0, [.sl 1 zs.length]⟩, ⟨1, .ro 0, zs.map C.i⟩]) 21 (fun k => zs.length - k) 0 (R0 := [(20, none)]) ?_ ?_ ?_
  · omega
  · skip
    refine ⟨?_, ?_, rfl, rfl, by first | exact Nat.le_of_ble_eq_true rfl | exact Nat.le_refl _ | omega⟩
    · repeat (first | exact trivial | (refine And.intro (covS_syn (by rfl) rfl (by first | exact trivial | exact Nat.le_of_ble_eq_true rfl | exact hy | (first | ((show ∀ p ∈ (_ : List (Nat × Nat)), p.1 < _); decide) | exact (fun p hp => nomatch hp)) | (show (_ : Nat) < _; omega))) ?_) | refine And.intro (covS_bool rfl rfl (by rfl)) ?_)
    · repeat (first | exact trivial | refine And.intro (covE_some rfl (Nat.le_of_ble_eq_true rfl) (by simp [C.wf]) rfl rfl) ?_ | refine And.intro ⟨Nat.le_of_ble_eq_true rfl, by simp [C.wf], _, _, rfl, .inl rfl, fun ρ => rfl⟩ ?_ | refine And.intro (covE_nil rfl (Nat.le_of_ble_eq_true rfl) rfl rfl) ?_ | (refine And.intro (covE_some rfl (Nat.le_of_ble_eq_true rfl) (by first | exact wf_ints _ _ | exact wf_bools _ _ | first | exact wf_us _ _ | exact wf_cells _ _ | exact wf_ints _ _ | (simp [C.wf]; done) | simp [C.wf]) rfl (by first | exact ren_ints _ _ | exact ren_bools _ _ | exact ren_shares _ _ | rfl)) ?_))
  · intro k hk
    refine vc_ok tok ?_
    by_cases hkl : k < zs.length
    · have e : zs[k]?.toList = [zs.getD k 0] := by rw [List.getD_eq_getElem?_getD, List.getElem?_eq_getElem hkl]; rfl
      have htk : zs.take (k + 1) = zs.take k ++ [zs.getD k 0] := by rw [List.take_add_one, e]
      have htl : (zs.take k).length = k := by rw [List.length_take]; omega
      have hlk : (zs.map C.i)[mulS ((k : Nat) : Int).toNat 1]? = some (C.i (zs.getD k 0)) := intLz rfl hkl
      obtain ⟨c, hc⟩ : ∃ c, c = zs.getD k 0 := ⟨_, rfl⟩
      rw [← hc] at htk hlk
      obtain ⟨w1, hw1⟩ : ∃ w1, w1 = zs.take k := ⟨_, rfl⟩
      rw [← hw1] at htk htl ⊢
      have happ : w1.map C.i ++ [C.i c] = (w1 ++ [c]).map C.i := by simp
      have hnl1 : (w1.map C.i).length = k := by rw [List.length_map, htl]
      repeat ((conv => whnf); first | (refine And.intro (by first | omega | exact Nat.le_of_ble_eq_true rfl | (dsimp only [inK]; omega) | (simp only [mulS_eq]; omega) | (simp only [mulS_eq, setL_length]; omega) | (simp only [setL_length]; omega) | (simp only [setL_length, List.length_map]; omega) | (exact ⟨by omega, by omega, by first | exact Nat.le_of_ble_eq_true rfl | (dsimp only; omega) | (simp only [setL_length]; omega) | (simp only [setL_length, List.length_map]; omega)⟩) | (exact ⟨by omega, by first | rfl | omega, by omega, Nat.le_of_ble_eq_true rfl, Nat.le_of_ble_eq_true rfl⟩) | (exact ⟨rfl, rfl, rfl, Nat.le_of_ble_eq_true rfl, by first | rfl | omega | exact Nat.le_of_ble_eq_true rfl | (dsimp only; omega) | (simp; done) | (simp; omega), by first | rfl | omega | exact Nat.le_of_ble_eq_true rfl | (dsimp only; omega) | (simp; done) | (simp; omega), by omega, Nat.le_of_ble_eq_true rfl⟩) | exact Eq.refl true) ?_) | with_reducible refine ld (hlk) ?_ | refine Exists.intro _ (And.intro rfl ?_) | refine And.intro (And.intro rfl (chk_rowI _ _ _ _)) ?_ | refine br_t (by omega) ?_ | refine br_f (by omega) ?_ | refine bs_t (by omega) ?_ | refine bs_f (by omega) ?_ | refine fun (K' : K3) hK' => ?_ | (refine hK' _ _ _ ?_; clear hK' K') | refine draw_auto tok mixed (by kernel_rfl) ?_ | refine bs_bt (Eq.refl true) ?_ | refine bs_bf (Eq.refl false) ?_ | refine br_bt (Eq.refl true) ?_ | refine br_bf (Eq.refl false) ?_ | refine CallK.m ?_ | refine Two.l ?_ | refine And.intro (And.intro rfl rfl) ?_)
      refine hY _ _ _ _ (Nat.le_of_ble_eq_true rfl) rfl ⟨rfl, trivial⟩ ?_
      intro cxb hcx
      refine vc_ok tok ?_
      repeat ((conv => whnf); first | (refine And.intro (by first | omega | exact Nat.le_of_ble_eq_true rfl | (dsimp only [inK]; omega) | (simp only [mulS_eq]; omega) | (simp only [mulS_eq, setL_length]; omega) | (simp only [setL_length]; omega) | (simp only [setL_length, List.length_map]; omega) | (exact ⟨by omega, by omega, by first | exact Nat.le_of_ble_eq_true rfl | (dsimp only; omega) | (simp only [setL_length]; omega) | (simp only [setL_length, List.length_map]; omega)⟩) | (exact ⟨by omega, by first | rfl | omega, by omega, Nat.le_of_ble_eq_true rfl, Nat.le_of_ble_eq_true rfl⟩) | (exact ⟨rfl, rfl, rfl, Nat.le_of_ble_eq_true rfl, by first | rfl | omega | exact Nat.le_of_ble_eq_true rfl | (dsimp only; omega) | (simp; done) | (simp; omega), by first | rfl | omega | exact Nat.le_of_ble_eq_true rfl | (dsimp only; omega) | (simp; done) | (simp; omega), by omega, Nat.le_of_ble_eq_true rfl⟩) | exact Eq.refl true) ?_) | refine Exists.intro _ (And.intro rfl ?_) | refine And.intro (And.intro rfl (chk_rowI _ _ _ _)) ?_ | refine br_t (by omega) ?_ | refine br_f (by omega) ?_ | refine bs_t (by omega) ?_ | refine bs_f (by omega) ?_ | refine fun (K' : K3) hK' => ?_ | (refine hK' _ _ _ ?_; clear hK' K') | refine draw_auto tok mixed (by kernel_rfl) ?_ | refine And.intro (Eq.refl oo) ?_ | refine bs_bt (Eq.refl true) ?_ | refine bs_bf (Eq.refl false) ?_ | refine br_bt (Eq.refl true) ?_ | refine br_bf (Eq.refl false) ?_ | refine CallK.m ?_ | refine Two.l ?_ | refine And.intro (And.intro rfl rfl) ?_)
      refine vc_ok tok ?_
      repeat ((conv => whnf); first | (refine And.intro (by first | omega | exact Nat.le_of_ble_eq_true rfl | (dsimp only [inK]; omega) | (simp only [mulS_eq]; omega) | (simp only [mulS_eq, setL_length]; omega) | (simp only [setL_length]; omega) | (simp only [setL_length, List.length_map]; omega) | (exact ⟨by omega, by omega, by first | exact Nat.le_of_ble_eq_true rfl | (dsimp only; omega) | (simp only [setL_length]; omega) | (simp only [setL_length, List.length_map]; omega)⟩) | (exact ⟨by omega, by first | rfl | omega, by omega, Nat.le_of_ble_eq_true rfl, Nat.le_of_ble_eq_true rfl⟩) | (exact ⟨rfl, rfl, rfl, Nat.le_of_ble_eq_true rfl, by first | rfl | omega | exact Nat.le_of_ble_eq_true rfl | (dsimp only; omega) | (simp; done) | (simp; omega), by first | rfl | omega | exact Nat.le_of_ble_eq_true rfl | (dsimp only; omega) | (simp; done) | (simp; omega), by omega, Nat.le_of_ble_eq_true rfl⟩) | exact Eq.refl true) ?_) | refine Exists.intro _ (And.intro rfl ?_) | refine And.intro (And.intro rfl (chk_rowI _ _ _ _)) ?_ | refine br_t (by omega) ?_ | refine br_f (by omega) ?_ | refine bs_t (by omega) ?_ | refine bs_f (by omega) ?_ | refine fun (K' : K3) hK' => ?_ | (refine hK' _ _ _ ?_; clear hK' K') | refine draw_auto tok mixed (by kernel_rfl) ?_ | refine And.intro (Eq.refl ob) ?_ | refine bs_bt (Eq.refl true) ?_ | refine bs_bf (Eq.refl false) ?_ | refine br_bt (Eq.refl true) ?_ | refine br_bf (Eq.refl false) ?_ | refine CallK.m ?_ | refine Two.l ?_ | refine And.intro (And.intro rfl rfl) ?_)
      refine ⟨k + 1, [(20, some 22)], by omega, by omega, ?_⟩
      rw [htk]
      refine ⟨?_, ?_, rfl, rfl, by first | exact Nat.le_of_ble_eq_true rfl | exact Nat.le_refl _ | omega⟩
      · repeat (first | exact trivial | (refine And.intro (covS_syn (by first | rfl | (refine congrArg some (congrArg V.i ?_); omega)) rfl (by first | exact trivial | exact Nat.le_of_ble_eq_true rfl | exact hy | (first | ((show ∀ p ∈ (_ : List (Nat × Nat)), p.1 < _); decide) | exact (fun p hp => nomatch hp)) | (show (_ : Nat) < _; omega))) ?_) | refine And.intro (covS_bool rfl rfl (by rfl)) ?_)
      · repeat (first | exact trivial | refine And.intro (covE_i rfl (Nat.le_of_ble_eq_true rfl) rfl happ) ?_ | refine And.intro (covE_some rfl (Nat.le_of_ble_eq_true rfl) (by simp [C.wf]) rfl rfl) ?_ | refine And.intro (covE_nil rfl (Nat.le_of_ble_eq_true rfl) rfl rfl) ?_ | (refine And.intro (covE_some rfl (Nat.le_of_ble_eq_true rfl) (by first | exact wf_ints _ _ | exact wf_bools _ _ | first | exact wf_us _ _ | exact wf_cells _ _ | exact wf_ints _ _ | (simp [C.wf]; done) | simp [C.wf]) rfl (by first | exact ren_ints _ _ | exact ren_bools _ _ | exact ren_shares _ _ | rfl)) ?_))
    · obtain rfl : k = zs.length := by omega
      rw [List.take_length]
      repeat ((conv => whnf); first | (refine And.intro (by first | omega | exact Nat.le_of_ble_eq_true rfl | (dsimp only [inK]; omega) | (simp only [mulS_eq]; omega) | (simp only [mulS_eq, setL_length]; omega) | (simp only [setL_length]; omega) | (simp only [setL_length, List.length_map]; omega) | (exact ⟨by omega, by omega, by first | exact Nat.le_of_ble_eq_true rfl | (dsimp only; omega) | (simp only [setL_length]; omega) | (simp only [setL_length, List.length_map]; omega)⟩) | (exact ⟨by omega, by first | rfl | omega, by omega, Nat.le_of_ble_eq_true rfl, Nat.le_of_ble_eq_true rfl⟩) | (exact ⟨rfl, rfl, rfl, Nat.le_of_ble_eq_true rfl, by first | rfl | omega | exact Nat.le_of_ble_eq_true rfl | (dsimp only; omega) | (simp; done) | (simp; omega), by first | rfl | omega | exact Nat.le_of_ble_eq_true rfl | (dsimp only; omega) | (simp; done) | (simp; omega), by omega, Nat.le_of_ble_eq_true rfl⟩) | exact Eq.refl true) ?_) | refine Exists.intro _ (And.intro rfl ?_) | refine And.intro (And.intro rfl (chk_rowI _ _ _ _)) ?_ | refine br_t (by omega) ?_ | refine br_f (by omega) ?_ | refine bs_t (by omega) ?_ | refine bs_f (by omega) ?_ | refine fun (K' : K3) hK' => ?_ | (refine hK' _ _ _ ?_; clear hK' K') | refine draw_auto tok mixed (by kernel_rfl) ?_ | refine Or.inl ?_ | refine And.intro (Eq.refl oo) ?_ | refine bs_bt (Eq.refl true) ?_ | refine bs_bf (Eq.refl false) ?_ | refine br_bt (Eq.refl true) ?_ | refine br_bf (Eq.refl false) ?_ | refine CallK.m ?_ | refine Two.l ?_ | refine And.intro (And.intro rfl rfl) ?_)
      refine hK' _ _ _ _ ?_
      repeat ((conv => whnf); first | (refine And.intro (by first | omega | exact Nat.le_of_ble_eq_true rfl | (dsimp only [inK]; omega) | (simp only [mulS_eq]; omega) | (simp only [mulS_eq, setL_length]; omega) | (simp only [setL_length]; omega) | (simp only [setL_length, List.length_map]; omega) | (exact ⟨by omega, by omega, by first | exact Nat.le_of_ble_eq_true rfl | (dsimp only; omega) | (simp only [setL_length]; omega) | (simp only [setL_length, List.length_map]; omega)⟩) | (exact ⟨by omega, by first | rfl | omega, by omega, Nat.le_of_ble_eq_true rfl, Nat.le_of_ble_eq_true rfl⟩) | (exact ⟨rfl, rfl, rfl, Nat.le_of_ble_eq_true rfl, by first | rfl | omega | exact Nat.le_of_ble_eq_true rfl | (dsimp only; omega) | (simp; done) | (simp; omega), by first | rfl | omega | exact Nat.le_of_ble_eq_true rfl | (dsimp only; omega) | (simp; done) | (simp; omega), by omega, Nat.le_of_ble_eq_true rfl⟩) | exact Eq.refl true) ?_) | refine Exists.intro _ (And.intro rfl ?_) | refine And.intro (And.intro rfl (chk_rowI _ _ _ _)) ?_ | refine br_t (by omega) ?_ | refine br_f (by omega) ?_ | refine bs_t (by omega) ?_ | refine bs_f (by omega) ?_ | refine fun (K' : K3) hK' => ?_ | (refine hK' _ _ _ ?_; clear hK' K') | refine draw_auto tok mixed (by kernel_rfl) ?_ | refine bs_bt (Eq.refl true) ?_ | refine bs_bf (Eq.refl false) ?_ | refine br_bt (Eq.refl true) ?_ | refine br_bf (Eq.refl false) ?_ | refine CallK.m ?_ | refine Two.l ?_ | refine And.intro (And.intro rfl rfl) ?_)
      exact rfl
theorem collectV_spec (zs : List Int) (hz : zs.length ≤ 1000) : Spec Tryd.prog 102 [V.c (.fn 107 [(0, 0)])] [⟨0, .ro 0, [.sl 1 zs.length]⟩, ⟨1, .ro 0, zs.map C.i⟩] 2
    (fun v L' _ => ∃ lab, v = V.c (.sl lab zs.length) ∧ find L' lab = some ⟨lab, .vec 3 1, zs.map C.i⟩) := by
  have h := appendSeqV_spec zs hz
  refine Spec.of tok Tryd.func102 rfl rfl rfl fun n0 cx => vc_ok tok ?_
  repeat ((conv => whnf); first | (refine And.intro (by first | omega | exact Nat.le_of_ble_eq_true rfl | (dsimp only [inK]; omega) | (simp only [mulS_eq]; omega) | (simp only [mulS_eq, setL_length]; omega) | (simp only [setL_length]; omega) | (simp only [setL_length, List.length_map]; omega) | (exact ⟨by omega, by omega, by first | exact Nat.le_of_ble_eq_true rfl | (dsimp only; omega) | (simp only [setL_length]; omega) | (simp only [setL_length, List.length_map]; omega)⟩) | (exact ⟨by omega, by first | rfl | omega, by omega, Nat.le_of_ble_eq_true rfl, Nat.le_of_ble_eq_true rfl⟩) | (exact ⟨rfl, rfl, rfl, Nat.le_of_ble_eq_true rfl, by first | rfl | omega | exact Nat.le_of_ble_eq_true rfl | (dsimp only; omega) | (simp; done) | (simp; omega), by first | rfl | omega | exact Nat.le_of_ble_eq_true rfl | (dsimp only; omega) | (simp; done) | (simp; omega), by omega, Nat.le_of_ble_eq_true rfl⟩) | exact Eq.refl true) ?_) | refine Exists.intro _ (And.intro rfl ?_) | refine And.intro (And.intro rfl (chk_rowI _ _ _ _)) ?_ | refine br_t (by omega) ?_ | refine br_f (by omega) ?_ | refine bs_t (by omega) ?_ | refine bs_f (by omega) ?_ | refine fun (K' : K3) hK' => ?_ | (refine hK' _ _ _ ?_; clear hK' K') | refine draw_auto tok mixed (by kernel_rfl) ?_ | refine CallK.rowF (R := []) (flat_i _) h (by kernel_rfl) rfl (by simp [V.wf, A.wf, C.wf]) ⟨roE_x (l := 0) rfl (by omega) (by simp [C.wf]) rfl (.inl rfl) rfl, roE_f (flat_i _) (l := 1) rfl (by omega) rfl (.inl rfl), trivial⟩ rfl ?_ | refine bs_bt (Eq.refl true) ?_ | refine bs_bf (Eq.refl false) ?_ | refine br_bt (Eq.refl true) ?_ | refine br_bf (Eq.refl false) ?_ | refine CallK.m ?_ | refine Two.l ?_ | refine And.intro (And.intro rfl rfl) ?_)
  exact rfl
def srtL (zs : List Int) : List Int := zs.mergeSort fun x y => decide (x ≤ y)
theorem srtL_len (zs : List Int) : (srtL zs).length = zs.length := List.length_mergeSort ..
theorem sorted_spec (zs : List Int) (hz : zs.length ≤ 1000) : Spec Tryd.prog 83 [V.c (.fn 107 [(0, 0)])] [⟨0, .ro 0, [.sl 1 zs.length]⟩, ⟨1, .ro 0, zs.map C.i⟩] 2
    (fun v L' _ => ∃ lab, v = V.c (.sl lab zs.length) ∧ find L' lab = some ⟨lab, .vec 3 1, (srtL zs).map C.i⟩) := by
  have h := collectV_spec zs hz
  refine Spec.of tok Tryd.func83 rfl rfl rfl fun n0 cx => vc_ok tok ?_
  repeat ((conv => whnf); first | (refine And.intro (by first | omega | exact Nat.le_of_ble_eq_true rfl | (dsimp only [inK]; omega) | (simp only [mulS_eq]; omega) | (simp only [mulS_eq, setL_length]; omega) | (simp only [setL_length]; omega) | (simp only [setL_length, List.length_map]; omega) | (exact ⟨by omega, by omega, by first | exact Nat.le_of_ble_eq_true rfl | (dsimp only; omega) | (simp only [setL_length]; omega) | (simp only [setL_length, List.length_map]; omega)⟩) | (exact ⟨by omega, by first | rfl | omega, by omega, Nat.le_of_ble_eq_true rfl, Nat.le_of_ble_eq_true rfl⟩) | (exact ⟨rfl, rfl, rfl, Nat.le_of_ble_eq_true rfl, by first | rfl | omega | exact Nat.le_of_ble_eq_true rfl | (dsimp only; omega) | (simp; done) | (simp; omega), by first | rfl | omega | exact Nat.le_of_ble_eq_true rfl | (dsimp only; omega) | (simp; done) | (simp; omega), by omega, Nat.le_of_ble_eq_true rfl⟩) | exact Eq.refl true) ?_) | refine Exists.intro _ (And.intro rfl ?_) | refine And.intro (And.intro rfl (chk_rowI _ _ _ _)) ?_ | refine br_t (by omega) ?_ | refine br_f (by omega) ?_ | refine bs_t (by omega) ?_ | refine bs_f (by omega) ?_ | refine fun (K' : K3) hK' => ?_ | (refine hK' _ _ _ ?_; clear hK' K') | refine CallM.sort (l := 2) (q := zs) rfl hz (by omega) ?_ | refine draw_auto tok mixed (by kernel_rfl) ?_ | refine CallK.rowF (R := []) (flat_i _) h (by kernel_rfl) rfl (by simp [V.wf, A.wf, C.wf]) ⟨roE_x (l := 0) rfl (by omega) (by simp [C.wf]) rfl (.inl rfl) rfl, roE_f (flat_i _) (l := 1) rfl (by omega) rfl (.inl rfl), trivial⟩ rfl ?_ | refine bs_bt (Eq.refl true) ?_ | refine bs_bf (Eq.refl false) ?_ | refine br_bt (Eq.refl true) ?_ | refine br_bf (Eq.refl false) ?_ | refine CallK.m ?_ | refine Two.l ?_ | refine And.intro (And.intro rfl rfl) ?_)
  exact rfl
end Go.Proofs.YtijnimgmpocmaaaDoor

/- Waste: the longest list of kinds apart. -/
namespace Go.Proofs.YtijnimgmpocmaaaDoor
open Go.RowKit
set_option linter.unusedVariables false
set_option linter.unusedSimpArgs false
/-- The best set so far. -/
def stB (ok : Nat → Bool) (b s : Nat) : Nat := if ok s = true ∧ ((bitsL b).length < (bitsL s).length ∨ ((bitsL b).length = (bitsL s).length ∧ lexB (bitsL s) (bitsL b) = true)) then s else b
def bestK (ok : Nat → Bool) : Nat → Nat
  | 0 => 0
  | s + 1 => stB ok (bestK ok s) s
/-- The best sets of a table and of the other one. -/
def apaQ (n : Nat) (qs : List (Nat × Nat)) : Nat := bestK (aptS (tabS n qs)) (2 ^ n)
def allQ (n : Nat) (qs : List (Nat × Nat)) : Nat := bestK (aptS (otK (tabS n qs) n n)) (2 ^ n)
def rowI (l : List Nat) (v : V) (L' : List E) : Prop := ∃ lab, v = V.tup [A.c (.sl lab l.length), A.c (C.i 0)] ∧ find L' lab = some ⟨lab, .vec 3 1, (natI l).map C.i⟩
end Go.Proofs.YtijnimgmpocmaaaDoor

/- Waste: the document's longest list. -/
namespace Go.Proofs.YtijnimgmpocmaaaDoor
open Go.RowKit
set_option linter.unusedVariables false
set_option linter.unusedSimpArgs false
theorem CallK.den {P : Program} {n0 : Nat} {f : FuncId} {vs vs' : List V} {L : List E} {nx : Nat} {K : V → List E → Nat → Prop} (hd : ∀ ρ, vs.map (V.den ρ) = vs'.map (V.den ρ)) (hw : ∀ v ∈ vs, v.wf nx) (h : CallK P n0 f vs L nx K) : CallK P n0 f vs' L nx K :=
  ⟨h.ok, fun ρ w hp _ => by rw [← hd]; exact h.run ρ w hp hw⟩
def okX (cl : Nat → Nat → Bool) (c : Bool) (l : List Nat) (i j : Nat) : Bool := (List.range j).all fun j => cl (l.getD i 0) (l.getD j 0) == c
def okA (cl : Nat → Nat → Bool) (c : Bool) (l : List Nat) (i : Nat) : Bool := (List.range i).all fun i => okX cl c l i i
def okS (cl : Nat → Nat → Bool) (c : Bool) (s : Nat) : Bool := okA cl c (bitsL s) (bitsL s).length
section
variable {n : Nat} {qs : List (Nat × Nat)}
theorem symC_comm (qs : List (Nat × Nat)) (a b : Nat) : symC (clP qs) a b = symC (clP qs) b a := by
  unfold symC
  rcases Nat.lt_trichotomy a b with h | h | h
  · rw [if_pos h, if_neg (by omega), if_pos h]
  · subst h; rfl
  · rw [if_neg (by omega), if_pos h, if_pos h]
end
def btK (s a : Nat) : List Nat := (List.range a).filter fun b => s.testBit b
end Go.Proofs.YtijnimgmpocmaaaDoor

/- Waste, plain: orders of kinds, and the filling that comes about in one. -/
namespace Go.Proofs.YtijnimgmpocmaaaDoor
open Go.RowKit
set_option linter.unusedVariables false
set_option linter.unusedSimpArgs false
/-- A list of numbers has each kind once. -/
def ordB (n : Nat) (zs : List Int) : Bool := decide (zs.length = n) && zs.all (fun z => decide (0 ≤ z ∧ z < n)) && decide zs.Nodup
def Ord (n : Nat) (os : List Nat) : Prop := os.length = n ∧ (∀ a ∈ os, a < n) ∧ os.Nodup
theorem ordB_iff {n : Nat} {zs : List Int} : ordB n zs = true ↔ zs.length = n ∧ (∀ z ∈ zs, 0 ≤ z ∧ z < n) ∧ zs.Nodup := by
  simp only [ordB, Bool.and_eq_true, decide_eq_true_iff, List.all_eq_true, and_assoc]
theorem ordB_nat {n : Nat} {zs : List Int} (h : ordB n zs = true) : ∃ os, zs = natI os ∧ Ord n os := by
  obtain ⟨h1, h2, h3⟩ := ordB_iff.1 h
  have he : zs = natI (zs.map Int.toNat) := by
    unfold natI
    rw [List.map_map]
    have : ∀ z ∈ zs, ((fun x : Nat => (x : Int)) ∘ Int.toNat) z = z := fun z hz => by
      have := h2 z hz
      show ((z.toNat : Nat) : Int) = z
      omega
    exact ((List.map_congr_left this).trans (List.map_id' zs)).symm
  refine ⟨zs.map Int.toNat, he, by rw [List.length_map, h1], fun a ha => ?_, ?_⟩
  · obtain ⟨z, hz, rfl⟩ := List.mem_map.1 ha
    have := h2 z hz; omega
  · rw [List.nodup_iff_pairwise_ne, List.pairwise_map]
    exact (List.nodup_iff_pairwise_ne.1 h3).imp_of_mem fun {a b} ha hb hne he => hne (by have := h2 a ha; have := h2 b hb; omega)
theorem ordB_of {n : Nat} {os : List Nat} (h : Ord n os) : ordB n (natI os) = true := by
  rw [ordB_iff]
  obtain ⟨h1, h2, h3⟩ := h
  refine ⟨by rw [natI_len, h1], fun z hz => ?_, ?_⟩
  · obtain ⟨a, ha, rfl⟩ := List.mem_map.1 hz
    have := h2 a ha; omega
  · unfold natI
    rw [List.nodup_iff_pairwise_ne, List.pairwise_map]
    exact (List.nodup_iff_pairwise_ne.1 h3).imp fun hne he => hne (by omega)
/-- What the program asks of the list once it is sorted. -/
def srtB (n : Nat) (s : List Int) : Bool := decide (s.getD 0 0 = 0) && decide (s.getD (n - 1) 0 = (n : Int) - 1) && decide ((Lib.compact s).length = n)
theorem srtL_le (zs : List Int) {i j : Nat} (hij : i < j) (hj : j < zs.length) : (srtL zs).getD i 0 ≤ (srtL zs).getD j 0 := by
  have hp : (srtL zs).Pairwise fun a b => decide (a ≤ b) = true := List.pairwise_mergeSort (fun a b c h1 h2 => by simp only [decide_eq_true_iff] at *; omega) (fun a b => by simp only [Bool.or_eq_true, decide_eq_true_iff]; omega) zs
  have hl := srtL_len zs
  have := List.pairwise_iff_getElem.1 hp i j (by omega) (by omega) hij
  simp only [decide_eq_true_iff] at this
  simpa [List.getD_eq_getElem?_getD, show i < (srtL zs).length by omega, show j < (srtL zs).length by omega] using this
theorem srtL_mem (zs : List Int) (z : Int) : z ∈ srtL zs ↔ z ∈ zs := List.mem_mergeSort
theorem srtL_nodup (zs : List Int) : (srtL zs).Nodup ↔ zs.Nodup := (List.mergeSort_perm zs _).nodup_iff
theorem cpt_len (s : List Int) : (Lib.compact s).length = s.length ↔ ∀ j, 0 < j → j < s.length → s.getD j 0 ≠ s.getD (j - 1) 0 := by
  have e : (Lib.compact s).length = ((List.range s.length).filter (Lib.keeps s.toArray)).length := by
    unfold Lib.compact Lib.compactUpTo; rw [List.length_map]
  have hg : ∀ j, j < s.length → s.toArray[j]! = s.getD j 0 := fun j hj => by simp [List.getD_eq_getElem?_getD, hj, getElem!_pos]
  rw [e]
  constructor
  · intro h j h0 hj
    have h1 : ((List.range s.length).filter (Lib.keeps s.toArray)).length = (List.range s.length).length := by rw [h, List.length_range]
    have h2 := List.length_filter_eq_length_iff.1 h1 j (List.mem_range.2 hj)
    simp only [Lib.keeps, decide_eq_true_iff] at h2
    rcases h2 with h2 | h2
    · omega
    · rw [hg j hj, hg (j - 1) (by omega)] at h2; exact h2
  · intro h
    have h1 : ((List.range s.length).filter (Lib.keeps s.toArray)).length = (List.range s.length).length := by
      refine List.length_filter_eq_length_iff.2 fun j hj => ?_
      have hj := List.mem_range.1 hj
      simp only [Lib.keeps, decide_eq_true_iff]
      by_cases h0 : j = 0
      · exact .inl h0
      · right; rw [hg j hj, hg (j - 1) (by omega)]; exact h j (by omega) hj
    rw [h1, List.length_range]
theorem srtB_ord {n : Nat} (hn : 1 ≤ n) {zs : List Int} (hl : zs.length = n) : srtB n (srtL zs) = ordB n zs := by
  have hsl := srtL_len zs
  have hle := fun {i j : Nat} => srtL_le zs (i := i) (j := j)
  have hmem : ∀ z, z ∈ zs ↔ ∃ i, i < n ∧ (srtL zs).getD i 0 = z := fun z => by
    rw [← srtL_mem zs z, List.mem_iff_getElem]
    constructor
    · rintro ⟨i, hi, h⟩
      exact ⟨i, by omega, by simpa [List.getD_eq_getElem?_getD, hi] using h⟩
    · rintro ⟨i, hi, h⟩
      exact ⟨i, by omega, by simpa [List.getD_eq_getElem?_getD, show i < (srtL zs).length by omega] using h⟩
  have hcp := cpt_len (srtL zs)
  rw [hsl, hl] at hcp
  rw [Bool.eq_iff_iff, ordB_iff]
  simp only [srtB, Bool.and_eq_true, decide_eq_true_iff, hcp]
  obtain ⟨s, hs⟩ : ∃ s : Nat → Int, s = fun i => (srtL zs).getD i 0 := ⟨_, rfl⟩
  have hsd : ∀ i, (srtL zs).getD i 0 = s i := fun i => by rw [hs]
  have hnd : (∀ j, 0 < j → j < n → s j ≠ s (j - 1)) ↔ zs.Nodup := by
    rw [← srtL_nodup, List.nodup_iff_pairwise_ne, List.pairwise_iff_getElem]
    have hge : ∀ i (hi : i < (srtL zs).length), (srtL zs)[i] = s i := fun i hi => by rw [← hsd i]; simp [List.getD_eq_getElem?_getD, hi]
    constructor
    · intro h i j hi hj hij
      rw [hge, hge]
      have h1 := h j (by omega) (by omega)
      have h2 : s i ≤ s (j - 1) := by
        by_cases hij' : i = j - 1
        · rw [hij']; exact Int.le_refl _
        · have := hle (i := i) (j := j - 1) (by omega) (by omega); rwa [hsd, hsd] at this
      have h3 := hle (i := j - 1) (j := j) (by omega) (by omega)
      rw [hsd, hsd] at h3
      omega
    · intro h j h0 hj
      have := h (j - 1) j (by omega) (by omega) (by omega)
      rw [hge, hge] at this
      exact fun e => this e.symm
  have hst : (∀ j, 0 < j → j < n → s j ≠ s (j - 1)) → ∀ d i, i + d < n → s i + d ≤ s (i + d) := by
    intro h d
    induction d with
    | zero => intro i _; simp
    | succ d ih =>
      intro i hi
      have h1 := ih i (by omega)
      have h2 := h (i + (d + 1)) (by omega) hi
      have h3 := hle (i := i + d) (j := i + (d + 1)) (by omega) (by omega)
      rw [hsd, hsd] at h3
      rw [show i + (d + 1) - 1 = i + d by omega] at h2
      have : ((d + 1 : Nat) : Int) = (d : Int) + 1 := by omega
      omega
  simp only [hsd] at hmem ⊢
  rw [← hnd]
  constructor
  · rintro ⟨⟨h0, h1⟩, h2⟩
    refine ⟨hl, fun z hz => ?_, h2⟩
    obtain ⟨i, hi, rfl⟩ := (hmem z).1 hz
    have h3 := hst h2 i 0 (by omega)
    have h4 := hst h2 (n - 1 - i) i (by omega)
    rw [show i + (n - 1 - i) = n - 1 by omega] at h4
    rw [Nat.zero_add] at h3
    omega
  · rintro ⟨_, h1, h2⟩
    have h3 := hst h2 (n - 1) 0 (by omega)
    rw [Nat.zero_add] at h3
    have h4 := h1 (s 0) ((hmem _).2 ⟨0, by omega, rfl⟩)
    have h5 := h1 (s (n - 1)) ((hmem _).2 ⟨n - 1, by omega, rfl⟩)
    exact ⟨⟨by omega, by omega⟩, h2⟩
/-! The least skip that is free. -/
def mexU (p : Nat → Bool) : Nat → Nat → Nat
  | 0, s => s
  | k + 1, s => if p s = true then mexU p k (s + 1) else s
theorem mexU_spec {p : Nat → Bool} : ∀ {k s t : Nat}, s ≤ t → t ≤ s + k → p t = false → p (mexU p k s) = false ∧ s ≤ mexU p k s ∧ mexU p k s ≤ t ∧ ∀ r, s ≤ r → r < mexU p k s → p r = true
  | 0, s, t, h1, h2, h => by
    obtain rfl : s = t := by omega
    exact ⟨h, Nat.le_refl _, Nat.le_refl _, fun r _ hr => by simp only [mexU] at hr; omega⟩
  | k + 1, s, t, h1, h2, h => by
    unfold mexU
    by_cases hs : p s = true
    · rw [if_pos hs]
      have hne : s ≠ t := fun e => by rw [e, h] at hs; cases hs
      obtain ⟨g1, g2, g3, g4⟩ := mexU_spec (k := k) (s := s + 1) (t := t) (by omega) (by omega) h
      refine ⟨g1, by omega, g3, fun r hr1 hr2 => ?_⟩
      by_cases hr : r = s
      · rw [hr]; exact hs
      · exact g4 r (by omega) hr2
    · rw [if_neg hs]
      exact ⟨by simpa using hs, Nat.le_refl _, h1, fun r _ _ => by omega⟩
def blkS (cl : Nat → Nat → Bool) (f : Nat → Nat) (pre : List Nat) (a s : Nat) : Bool := pre.any fun b => cl a b && decide (f b = s)
def mexS (cl : Nat → Nat → Bool) (f : Nat → Nat) (pre : List Nat) (a : Nat) : Nat := mexU (blkS cl f pre a) pre.length 0
theorem free_ex (cl : Nat → Nat → Bool) (f : Nat → Nat) (pre : List Nat) (a : Nat) : ∃ t, t ≤ pre.length ∧ blkS cl f pre a t = false := by
  apply Classical.byContradiction
  intro h
  have h2 : ∀ s ∈ List.range (pre.length + 1), s ∈ pre.map f := fun s hs => by
    have hs := List.mem_range.1 hs
    cases hb : blkS cl f pre a s with
    | false => exact absurd ⟨s, by omega, hb⟩ h
    | true =>
      obtain ⟨b, hb1, hb2⟩ := List.any_eq_true.1 hb
      simp only [Bool.and_eq_true, decide_eq_true_iff] at hb2
      exact List.mem_map.2 ⟨b, hb1, hb2.2⟩
  have := nodup_len (List.nodup_range (n := pre.length + 1)) h2
  rw [List.length_range, List.length_map] at this; omega
theorem mexS_spec (cl : Nat → Nat → Bool) (f : Nat → Nat) (pre : List Nat) (a : Nat) : blkS cl f pre a (mexS cl f pre a) = false ∧ mexS cl f pre a ≤ pre.length ∧ ∀ r, r < mexS cl f pre a → blkS cl f pre a r = true := by
  obtain ⟨t, ht, h⟩ := free_ex cl f pre a
  obtain ⟨g1, _, g3, g4⟩ := mexU_spec (k := pre.length) (s := 0) (t := t) (by omega) (by omega) h
  exact ⟨g1, Nat.le_trans g3 ht, fun r hr => g4 r (by omega) hr⟩
theorem mexS_uniq {cl : Nat → Nat → Bool} {f : Nat → Nat} {pre : List Nat} {a m : Nat} (h1 : blkS cl f pre a m = false) (h2 : ∀ r, r < m → blkS cl f pre a r = true) : m = mexS cl f pre a := by
  obtain ⟨g1, _, g3⟩ := mexS_spec cl f pre a
  rcases Nat.lt_trichotomy m (mexS cl f pre a) with h | h | h
  · rw [g3 m h] at h1; cases h1
  · exact h
  · rw [h2 _ h] at g1; cases g1
/-- The filling that comes about, when so many kinds of an order have come. -/
def lnF (cl : Nat → Nat → Bool) (os : List Nat) : Nat → Nat → Nat
  | 0 => fun _ => 0
  | k + 1 => fun x => if x = os.getD k 0 then mexS cl (lnF cl os k) (os.take k) (os.getD k 0) else lnF cl os k x
/-- The groups that have come about. -/
structure Gps (cl : Nat → Nat → Bool) (os : List Nat) (k : Nat) (gs : List Nat) : Prop where
  mem : ∀ i, i < gs.length → ∀ b, (gs.getD i 0).testBit b = true ↔ b ∈ os.take k ∧ lnF cl os k b = i
  lt : ∀ b ∈ os.take k, lnF cl os k b < gs.length
  len : gs.length ≤ k
section
variable {cl : Nat → Nat → Bool} {n : Nat} {os : List Nat}
theorem take_get {k : Nat} (hk : k < os.length) : os.take (k + 1) = os.take k ++ [os.getD k 0] := by
  have e : os[k]?.toList = [os.getD k 0] := by rw [List.getD_eq_getElem?_getD, List.getElem?_eq_getElem hk]; rfl
  rw [List.take_add_one, e]
theorem Ord.new (h : Ord n os) {k : Nat} (hk : k < n) : os.getD k 0 ∉ os.take k := by
  have h1 := take_get (os := os) (k := k) (by rw [h.1]; exact hk)
  have h2 : (os.take (k + 1)).Nodup := h.2.2.sublist (List.take_sublist ..)
  rw [h1, List.nodup_append] at h2
  exact fun hm => h2.2.2 _ hm _ (by simp) rfl
theorem Ord.at (h : Ord n os) {k : Nat} (hk : k < n) : os.getD k 0 < n := h.2.1 _ (by rw [List.getD_eq_getElem?_getD, List.getElem?_eq_getElem (by rw [h.1]; exact hk)]; exact List.getElem_mem _)
theorem lnF_old (h : Ord n os) {k : Nat} (hk : k < n) {b : Nat} (hb : b ∈ os.take k) : lnF cl os (k + 1) b = lnF cl os k b := by
  show (if b = os.getD k 0 then _ else _) = _
  rw [if_neg (fun e => h.new hk (by rw [← e]; exact hb))]
theorem lnF_new {k : Nat} : lnF cl os (k + 1) (os.getD k 0) = mexS cl (lnF cl os k) (os.take k) (os.getD k 0) := if_pos rfl
theorem Gps.zero : Gps cl os 0 [] := ⟨fun i hi => absurd hi (by simp), fun b hb => by simp at hb, Nat.le_refl _⟩
theorem Gps.blk {k : Nat} {gs : List Nat} (hg : Gps cl os k gs) {t a : Nat} (ht : ∀ b, t.testBit b = cl a b) {i : Nat} (hi : i < gs.length) : (t &&& gs.getD i 0 = 0) ↔ blkS cl (lnF cl os k) (os.take k) a i = false := by
  rw [← Bool.not_eq_true, blkS, List.any_eq_true]
  constructor
  · rintro h ⟨b, hb, h2⟩
    simp only [Bool.and_eq_true, decide_eq_true_iff] at h2
    have h3 : (t &&& gs.getD i 0).testBit b = true := by
      rw [Nat.testBit_and, ht, h2.1, (hg.mem i hi b).2 ⟨hb, h2.2⟩]; rfl
    rw [h] at h3; simp at h3
  · intro h
    apply Nat.eq_of_testBit_eq
    intro b
    rw [Nat.zero_testBit, Nat.testBit_and, ht]
    cases h1 : cl a b with
    | false => rfl
    | true =>
      cases h2 : (gs.getD i 0).testBit b with
      | false => rfl
      | true =>
        obtain ⟨h3, h4⟩ := (hg.mem i hi b).1 h2
        exact absurd ⟨b, h3, by simp [h1, h4]⟩ h
theorem Gps.over {k : Nat} {gs : List Nat} (hg : Gps cl os k gs) {a i : Nat} (hi : gs.length ≤ i) : blkS cl (lnF cl os k) (os.take k) a i = false := by
  rw [← Bool.not_eq_true, blkS, List.any_eq_true]
  rintro ⟨b, hb, h2⟩
  simp only [Bool.and_eq_true, decide_eq_true_iff] at h2
  have := hg.lt b hb; omega
theorem getD_setG {l : List Nat} {i j v : Nat} (hi : i < l.length) : (l.set i v).getD j 0 = if j = i then v else l.getD j 0 := by
  simp only [List.getD_eq_getElem?_getD, List.getElem?_set]
  by_cases h : i = j
  · subst h; simp [hi]
  · rw [if_neg h, if_neg (fun e => h e.symm)]
theorem Gps.put (h : Ord n os) {k : Nat} (hk : k < n) {gs : List Nat} (hg : Gps cl os k gs) {i : Nat} (hi : i < gs.length) (him : i = mexS cl (lnF cl os k) (os.take k) (os.getD k 0)) : Gps cl os (k + 1) (gs.set i (gs.getD i 0 ||| 2 ^ os.getD k 0)) := by
  have htk := take_get (os := os) (k := k) (by rw [h.1]; exact hk)
  have hm := h.new hk
  have hnew : lnF cl os (k + 1) (os.getD k 0) = i := by rw [lnF_new, him]
  have hlen := hg.len
  refine ⟨fun j hj b => ?_, fun b hb => ?_, by rw [List.length_set]; omega⟩
  · rw [List.length_set] at hj
    rw [getD_setG hi, htk, List.mem_append, List.mem_singleton]
    have hbo : b ∈ os.take k → lnF cl os (k + 1) b = lnF cl os k b := fun hb => lnF_old h hk hb
    by_cases hji : j = i
    · rw [if_pos hji, Nat.testBit_or, Bool.or_eq_true, hg.mem i hi b, Nat.testBit_two_pow, decide_eq_true_iff, hji]
      constructor
      · rintro (⟨h1, h2⟩ | h1)
        · exact ⟨.inl h1, by rw [hbo h1, h2]⟩
        · exact ⟨.inr h1.symm, by rw [← h1, hnew]⟩
      · rintro ⟨h1 | h1, h2⟩
        · left; rw [hbo h1] at h2; exact ⟨h1, h2⟩
        · exact .inr h1.symm
    · rw [if_neg hji, hg.mem j hj b]
      constructor
      · rintro ⟨h1, h2⟩; exact ⟨.inl h1, by rw [hbo h1, h2]⟩
      · rintro ⟨h1 | h1, h2⟩
        · rw [hbo h1] at h2; exact ⟨h1, h2⟩
        · rw [h1, hnew] at h2; exact absurd h2.symm hji
  · rw [List.length_set]
    rw [htk, List.mem_append, List.mem_singleton] at hb
    rcases hb with hb | hb
    · rw [lnF_old h hk hb]; exact hg.lt b hb
    · rw [hb, hnew]; exact hi
theorem Gps.more {k : Nat} {gs : List Nat} (hg : Gps cl os k gs) : (∀ i, i < (gs ++ [0]).length → ∀ b, ((gs ++ [0]).getD i 0).testBit b = true ↔ b ∈ os.take k ∧ lnF cl os k b = i) := by
  intro i hi b
  rw [List.length_append, List.length_singleton] at hi
  by_cases h : i < gs.length
  · have e : (gs ++ [0]).getD i 0 = gs.getD i 0 := by simp [List.getD_eq_getElem?_getD, List.getElem?_append_left h]
    rw [e]
    exact hg.mem i h b
  · obtain rfl : i = gs.length := by omega
    have e : (gs ++ [0]).getD gs.length 0 = 0 := by simp [List.getD_eq_getElem?_getD]
    rw [e]
    simp only [Nat.zero_testBit]
    constructor
    · intro h; cases h
    · rintro ⟨h1, h2⟩
      have := hg.lt b h1; omega
theorem Gps.app (h : Ord n os) {k : Nat} (hk : k < n) {gs : List Nat} (hg : Gps cl os k gs) (him : gs.length = mexS cl (lnF cl os k) (os.take k) (os.getD k 0)) : Gps cl os (k + 1) ((gs ++ [0]).set gs.length (0 ||| 2 ^ os.getD k 0)) := by
  -- as 'put', with one group more, that is empty
  have htk := take_get (os := os) (k := k) (by rw [h.1]; exact hk)
  have hm := h.new hk
  have hnew : lnF cl os (k + 1) (os.getD k 0) = gs.length := by rw [lnF_new, him]
  have hlen := hg.len
  have hmo := hg.more
  have hl1 : (gs ++ [0]).length = gs.length + 1 := by simp
  refine ⟨fun j hj b => ?_, fun b hb => ?_, by rw [List.length_set, hl1]; omega⟩
  · rw [List.length_set] at hj
    rw [getD_setG (by omega), htk, List.mem_append, List.mem_singleton]
    have hbo : b ∈ os.take k → lnF cl os (k + 1) b = lnF cl os k b := fun hb => lnF_old h hk hb
    by_cases hji : j = gs.length
    · rw [if_pos hji, Nat.testBit_or, Bool.or_eq_true, Nat.zero_testBit, Nat.testBit_two_pow, decide_eq_true_iff, hji]
      constructor
      · rintro (h1 | h1)
        · cases h1
        · exact ⟨.inr h1.symm, by rw [← h1, hnew]⟩
      · rintro ⟨h1 | h1, h2⟩
        · rw [hbo h1] at h2; have := hg.lt b h1; omega
        · exact .inr h1.symm
    · rw [if_neg hji, hmo j hj b]
      constructor
      · rintro ⟨h1, h2⟩; exact ⟨.inl h1, by rw [hbo h1, h2]⟩
      · rintro ⟨h1 | h1, h2⟩
        · rw [hbo h1] at h2; exact ⟨h1, h2⟩
        · rw [h1, hnew] at h2; exact absurd h2.symm hji
  · rw [List.length_set, hl1]
    rw [htk, List.mem_append, List.mem_singleton] at hb
    rcases hb with hb | hb
    · rw [lnF_old h hk hb]; have := hg.lt b hb; omega
    · rw [hb, hnew]; omega
end
end Go.Proofs.YtijnimgmpocmaaaDoor

/- Waste: Line's callees, walked. -/
namespace Go.Proofs.YtijnimgmpocmaaaDoor
open Go.RowKit
set_option linter.unusedVariables false
set_option linter.unusedSimpArgs false
theorem find_numU {l : List Nat} {p : Nat → Bool} {k : Nat} (hlt : k < l.length) (hbad : p (l.getD k 0) = true) (hb : ∀ i, i < k → p (l.getD i 0) = false) : l.findIdx? p = some k := by
  rw [List.findIdx?_eq_some_iff_getElem]
  refine ⟨hlt, by simpa [List.getD_eq_getElem?_getD, hlt] using hbad, fun i hi => ?_⟩
  have := hb i hi
  simpa [List.getD_eq_getElem?_getD, show i < l.length by omega] using this
theorem find_notU {l : List Nat} {p : Nat → Bool} (hb : ∀ i, i < l.length → p (l.getD i 0) = false) : l.findIdx? p = none := by
  rw [List.findIdx?_eq_none_iff]
  intro x hx
  obtain ⟨i, hi, rfl⟩ := List.mem_iff_getElem.1 hx
  have := hb i (by omega)
  simpa [List.getD_eq_getElem?_getD, hi] using this
def idxU (l : List Nat) (p : Nat → Bool) : Int := match l.findIdx? p with | some k => (k : Int) | none => -1
theorem index_anyU {f : FuncId} {caps : List (Nat × Nat)} {Lc : List E} {na : Nat} {p : Nat → Bool} {l : List Nat} (hl : l.length ≤ 300) (hcb : callB Tryd.prog f = true)
    (hsp : ∀ i, i < l.length → Spec Tryd.prog f ([V.u (l.getD i 0)] ++ caps.map ptrV) Lc na (Is (V.c (.bool (p (l.getD i 0)))))) (hcaps : ∀ q ∈ caps, q.1 < na) (h0 : 0 < na)
    (hw : ∀ e ∈ Lc, e.lab < na ∧ ∀ c ∈ e.cs, c.wf na) (hro : ∀ L, (∀ e ∈ Lc, find L e.lab = some e) → roL [] na L Lc) (hin : injB [] (⟨0, .ro 0, l.map C.u⟩ :: Lc) = true) :
    Spec Tryd.prog 86 [V.c (.sl 0 l.length), V.c (.fn f caps)] (⟨0, .ro 0, l.map C.u⟩ :: Lc) na (Is (V.i (idxU l p))) := by
  have hlm : (l.map C.u).length = l.length := by simp
  have hlt0 : ∀ k, k < l.length → (l.map C.u)[mulS ((k : Nat) : Int).toNat 1]? = some (C.u (l.getD k 0)) := fun k hk => uLz rfl hk
  have hwL : ∀ e ∈ ((⟨0, .ro 0, l.map C.u⟩ : E) :: Lc), e.lab < na ∧ ∀ c ∈ e.cs, c.wf na := fun e he => by
    rcases List.mem_cons.1 he with rfl | he
    · exact ⟨h0, wf_us _ _⟩
    · exact hw e he
  have hro' : roL [] na (⟨0, .ro 0, l.map C.u⟩ :: Lc) Lc := hro _ fun e he => find_self hin e (by simp [he])
  have hin' : injB [] Lc = true := by simp only [injB, Bool.and_eq_true] at hin; exact hin.2
  have hfn : (V.c (.fn f caps)).wf na := hcaps
  have hvw : ∀ i, ∀ v ∈ ([V.u (l.getD i 0)] ++ caps.map ptrV), v.wf na := fun i v hv => by
    rcases List.mem_append.1 hv with hv | hv
    · rw [List.mem_singleton.1 hv]; trivial
    · obtain ⟨q, hq, rfl⟩ := List.mem_map.1 hv; exact hcaps q hq
  have hren : ∀ i, renVs [] ([V.u (l.getD i 0)] ++ caps.map ptrV) = some ([V.u (l.getD i 0)] ++ caps.map ptrV) := fun i => by
    have : ∀ m : List (Nat × Nat), seqO ((m.map ptrV).map (V.ren [])) = some (m.map ptrV) := by
      intro m
      induction m with
      | nil => rfl
      | cons q r ih => simp only [List.map_cons, V.ren, A.ren, C.ren, renL, ptrV, V.c] at *; simp only [seqO, ih]
    simp only [renVs, List.singleton_append, List.map_cons, V.ren, A.ren, C.ren, V.u, C.u, V.c]
    simp only [seqO, this]
  refine Spec.of tok Tryd.func86 rfl rfl rfl fun n0 cx => vc_ok tok ?_
  repeat ((conv => whnf); first | (refine And.intro (by first | omega | exact Nat.le_of_ble_eq_true rfl | (dsimp only [inK]; omega) | (simp only [mulS_eq]; omega) | (simp only [mulS_eq, setL_length]; omega) | (simp only [setL_length]; omega) | (simp only [setL_length, List.length_map]; omega) | (exact ⟨by omega, by omega, by first | exact Nat.le_of_ble_eq_true rfl | (dsimp only; omega) | (simp only [setL_length]; omega) | (simp only [setL_length, List.length_map]; omega)⟩) | (exact ⟨by omega, by first | rfl | omega, by omega, Nat.le_of_ble_eq_true rfl, Nat.le_of_ble_eq_true rfl⟩) | (exact ⟨rfl, rfl, rfl, Nat.le_of_ble_eq_true rfl, by first | rfl | omega | exact Nat.le_of_ble_eq_true rfl | (dsimp only; omega) | (simp; done) | (simp; omega), by first | rfl | omega | exact Nat.le_of_ble_eq_true rfl | (dsimp only; omega) | (simp; done) | (simp; omega), by omega, Nat.le_of_ble_eq_true rfl⟩) | exact Eq.refl true) ?_) | refine Exists.intro _ (And.intro rfl ?_) | refine And.intro (And.intro rfl (chk_rowI _ _ _ _)) ?_ | refine br_t (by omega) ?_ | refine br_f (by omega) ?_ | refine bs_t (by omega) ?_ | refine bs_f (by omega) ?_ | refine fun (K' : K3) hK' => ?_ | (refine hK' _ _ _ ?_; clear hK' K') | refine draw_auto tok mixed (by kernel_rfl) ?_ | refine bs_bt (Eq.refl true) ?_ | refine bs_bf (Eq.refl false) ?_ | refine br_bt (Eq.refl true) ?_ | refine br_bf (Eq.refl false) ?_ | refine CallK.m ?_ | refine Two.l ?_ | refine And.intro (And.intro rfl rfl) ?_)
  refine Tri.loop (γ := Nat) (fun k => k ≤ l.length ∧ ∀ i, i < k → p (l.getD i 0) = false) (fun k => [(0, V.c (.sl 0 l.length)), (1, V.c (.fn f caps)), (7, V.i l.length), (8, V.i (k : Nat))]) (fun k => ⟨0, .ro 0, l.map C.u⟩ :: Lc) na (fun k => l.length - k) 0 (R0 := []) ?_ ?_ ?_
  · exact ⟨by omega, by omega⟩
  · refine ⟨?_, cov_refl hwL hin, hin, rfl, Nat.le_refl _⟩
    repeat (first | exact trivial | refine And.intro (covS_syn (by first | rfl) rfl (by first | exact trivial | exact h0 | exact hcaps)) ?_)
  · rintro k ⟨hk, hb⟩
    refine vc_ok tok ?_
    by_cases hlt : k < l.length
    · have hlk := hlt0 k hlt
      cases hbad : p (l.getD k 0) with
      | true =>
        repeat ((conv => whnf); first | (refine And.intro (by first | omega | exact Nat.le_of_ble_eq_true rfl | (dsimp only [inK]; omega) | (simp only [mulS_eq]; omega) | (simp only [mulS_eq, setL_length]; omega) | (simp only [setL_length]; omega) | (simp only [setL_length, List.length_map]; omega) | (exact ⟨by omega, by omega, by first | exact Nat.le_of_ble_eq_true rfl | (dsimp only; omega) | (simp only [setL_length]; omega) | (simp only [setL_length, List.length_map]; omega)⟩) | (exact ⟨by omega, by first | rfl | omega, by omega, Nat.le_of_ble_eq_true rfl, Nat.le_of_ble_eq_true rfl⟩) | (exact ⟨rfl, rfl, rfl, Nat.le_of_ble_eq_true rfl, by first | rfl | omega | exact Nat.le_of_ble_eq_true rfl | (dsimp only; omega) | (simp; done) | (simp; omega), by first | rfl | omega | exact Nat.le_of_ble_eq_true rfl | (dsimp only; omega) | (simp; done) | (simp; omega), by omega, Nat.le_of_ble_eq_true rfl⟩) | exact Eq.refl true) ?_) | with_reducible refine ld (hlk) ?_ | refine Exists.intro _ (And.intro rfl ?_) | refine And.intro (And.intro rfl (chk_rowI _ _ _ _)) ?_ | refine br_t (by omega) ?_ | refine br_f (by omega) ?_ | refine bs_t (by omega) ?_ | refine bs_f (by omega) ?_ | refine fun (K' : K3) hK' => ?_ | (refine hK' _ _ _ ?_; clear hK' K') | refine draw_auto tok mixed (by kernel_rfl) ?_ | refine CallK.val (R := []) (hsp k hlt) hcb (hren k) (hvw k) hro' hin' rfl trivial ?_ | refine br_bt hbad ?_ | refine bs_bt (Eq.refl true) ?_ | refine bs_bf (Eq.refl false) ?_ | refine br_bt (Eq.refl true) ?_ | refine br_bf (Eq.refl false) ?_ | refine CallK.m ?_ | refine Two.l ?_ | refine And.intro (And.intro rfl rfl) ?_)
        intro ρ
        rw [idxU, find_numU hlt hbad hb]; rfl
      | false =>
        repeat ((conv => whnf); first | (refine And.intro (by first | omega | exact Nat.le_of_ble_eq_true rfl | (dsimp only [inK]; omega) | (simp only [mulS_eq]; omega) | (simp only [mulS_eq, setL_length]; omega) | (simp only [setL_length]; omega) | (simp only [setL_length, List.length_map]; omega) | (exact ⟨by omega, by omega, by first | exact Nat.le_of_ble_eq_true rfl | (dsimp only; omega) | (simp only [setL_length]; omega) | (simp only [setL_length, List.length_map]; omega)⟩) | (exact ⟨by omega, by first | rfl | omega, by omega, Nat.le_of_ble_eq_true rfl, Nat.le_of_ble_eq_true rfl⟩) | (exact ⟨rfl, rfl, rfl, Nat.le_of_ble_eq_true rfl, by first | rfl | omega | exact Nat.le_of_ble_eq_true rfl | (dsimp only; omega) | (simp; done) | (simp; omega), by first | rfl | omega | exact Nat.le_of_ble_eq_true rfl | (dsimp only; omega) | (simp; done) | (simp; omega), by omega, Nat.le_of_ble_eq_true rfl⟩) | exact Eq.refl true) ?_) | with_reducible refine ld (hlk) ?_ | refine Exists.intro _ (And.intro rfl ?_) | refine And.intro (And.intro rfl (chk_rowI _ _ _ _)) ?_ | refine br_t (by omega) ?_ | refine br_f (by omega) ?_ | refine bs_t (by omega) ?_ | refine bs_f (by omega) ?_ | refine fun (K' : K3) hK' => ?_ | (refine hK' _ _ _ ?_; clear hK' K') | refine draw_auto tok mixed (by kernel_rfl) ?_ | refine CallK.val (R := []) (hsp k hlt) hcb (hren k) (hvw k) hro' hin' rfl trivial ?_ | refine br_bf hbad ?_ | refine bs_bt (Eq.refl true) ?_ | refine bs_bf (Eq.refl false) ?_ | refine br_bt (Eq.refl true) ?_ | refine br_bf (Eq.refl false) ?_ | refine CallK.m ?_ | refine Two.l ?_ | refine And.intro (And.intro rfl rfl) ?_)
        refine ⟨k + 1, [], ⟨by omega, fun i hi => ?_⟩, by omega, ?_⟩
        · by_cases h : i = k
          · rw [h]; exact hbad
          · exact hb i (by omega)
        refine ⟨?_, cov_refl hwL hin, hin, rfl, Nat.le_refl _⟩
        repeat (first | exact trivial | refine And.intro (covS_syn (by first | rfl | (refine congrArg some (congrArg V.i ?_); omega)) rfl (by first | exact trivial | exact h0 | exact hcaps)) ?_)
    · have hkl : k = l.length := by omega
      repeat ((conv => whnf); first | (refine And.intro (by first | omega | exact Nat.le_of_ble_eq_true rfl | (dsimp only [inK]; omega) | (simp only [mulS_eq]; omega) | (simp only [mulS_eq, setL_length]; omega) | (simp only [setL_length]; omega) | (simp only [setL_length, List.length_map]; omega) | (exact ⟨by omega, by omega, by first | exact Nat.le_of_ble_eq_true rfl | (dsimp only; omega) | (simp only [setL_length]; omega) | (simp only [setL_length, List.length_map]; omega)⟩) | (exact ⟨by omega, by first | rfl | omega, by omega, Nat.le_of_ble_eq_true rfl, Nat.le_of_ble_eq_true rfl⟩) | (exact ⟨rfl, rfl, rfl, Nat.le_of_ble_eq_true rfl, by first | rfl | omega | exact Nat.le_of_ble_eq_true rfl | (dsimp only; omega) | (simp; done) | (simp; omega), by first | rfl | omega | exact Nat.le_of_ble_eq_true rfl | (dsimp only; omega) | (simp; done) | (simp; omega), by omega, Nat.le_of_ble_eq_true rfl⟩) | exact Eq.refl true) ?_) | refine Exists.intro _ (And.intro rfl ?_) | refine And.intro (And.intro rfl (chk_rowI _ _ _ _)) ?_ | refine br_t (by omega) ?_ | refine br_f (by omega) ?_ | refine bs_t (by omega) ?_ | refine bs_f (by omega) ?_ | refine fun (K' : K3) hK' => ?_ | (refine hK' _ _ _ ?_; clear hK' K') | refine draw_auto tok mixed (by kernel_rfl) ?_ | refine bs_bt (Eq.refl true) ?_ | refine bs_bf (Eq.refl false) ?_ | refine br_bt (Eq.refl true) ?_ | refine br_bf (Eq.refl false) ?_ | refine CallK.m ?_ | refine Two.l ?_ | refine And.intro (And.intro rfl rfl) ?_)
      intro ρ
      rw [idxU, find_notU (fun i hi => hb i (by omega))]; rfl
theorem lineC_spec (t : List Nat) (n a s : Nat) (htl : t.length = n) (ha : a < n) (ht : ∀ x ∈ t, x < 256) (hs : s < 256) : Spec Tryd.prog 87 ([V.u s] ++ [(1, 0), (2, 0)].map ptrV) [⟨1, .ro 0, [.sl 3 n]⟩, ⟨2, .ro 0, [C.i a]⟩, ⟨3, .ro 0, t.map C.u⟩] 4 (Is (V.c (.bool (decide (t.getD a 0 &&& s = 0))))) := by
  have hlt : (t.map C.u)[mulS ((a : Nat) : Int).toNat 1]? = some (C.u (t.getD a 0)) := uLz rfl (by omega)
  have ht8 : t.getD a 0 < 256 := getD_lt (by omega) ht _
  have hbt := bit_and (x := t.getD a 0) (y := s) (by omega) (by omega)
  show Spec Tryd.prog 87 [V.u s, V.c (.ptr 1 0), V.c (.ptr 2 0)] _ _ _
  refine Spec.of tok Tryd.func87 rfl rfl rfl fun n0 cx => vc_ok tok ?_
  repeat ((conv => whnf); first | (refine And.intro (by first | omega | exact Nat.le_of_ble_eq_true rfl | (dsimp only [inK]; omega) | (simp only [mulS_eq]; omega) | (simp only [mulS_eq, setL_length]; omega) | (simp only [setL_length]; omega) | (simp only [setL_length, List.length_map]; omega) | (exact ⟨by omega, by omega, by first | exact Nat.le_of_ble_eq_true rfl | (dsimp only; omega) | (simp only [setL_length]; omega) | (simp only [setL_length, List.length_map]; omega)⟩) | (exact ⟨by omega, by first | rfl | omega, by omega, Nat.le_of_ble_eq_true rfl, Nat.le_of_ble_eq_true rfl⟩) | (exact ⟨rfl, rfl, rfl, Nat.le_of_ble_eq_true rfl, by first | rfl | omega | exact Nat.le_of_ble_eq_true rfl | (dsimp only; omega) | (simp; done) | (simp; omega), by first | rfl | omega | exact Nat.le_of_ble_eq_true rfl | (dsimp only; omega) | (simp; done) | (simp; omega), by omega, Nat.le_of_ble_eq_true rfl⟩) | exact Eq.refl true) ?_) | with_reducible refine ld (hlt) ?_ | refine Exists.intro _ (And.intro rfl ?_) | refine And.intro (And.intro rfl (chk_rowI _ _ _ _)) ?_ | refine br_t (by omega) ?_ | refine br_f (by omega) ?_ | refine bs_t (by omega) ?_ | refine bs_f (by omega) ?_ | refine fun (K' : K3) hK' => ?_ | (refine hK' _ _ _ ?_; clear hK' K') | refine draw_auto tok mixed (by kernel_rfl) ?_ | refine bs_bt (Eq.refl true) ?_ | refine bs_bf (Eq.refl false) ?_ | refine br_bt (Eq.refl true) ?_ | refine br_bf (Eq.refl false) ?_ | refine CallK.m ?_ | refine Two.l ?_ | refine And.intro (And.intro rfl rfl) ?_)
  intro ρ
  refine congrArg Value.bool (decide_eq_decide.2 ?_)
  show bitI .and .u64 _ _ = 0 ↔ _
  rw [hbt]; omega
theorem indexS_spec (t : List Nat) (n a : Nat) (gs : List Nat) (htl : t.length = n) (ha : a < n) (ht : ∀ x ∈ t, x < 256) (hgl : gs.length ≤ 300) (hg : ∀ x ∈ gs, x < 256) : Spec Tryd.prog 86 [V.c (.sl 0 gs.length), V.c (.fn 87 [(1, 0), (2, 0)])] [⟨0, .ro 0, gs.map C.u⟩, ⟨1, .ro 0, [.sl 3 n]⟩, ⟨2, .ro 0, [C.i a]⟩, ⟨3, .ro 0, t.map C.u⟩] 4 (Is (V.i (idxU gs fun g => decide (t.getD a 0 &&& g = 0)))) := by
  refine index_anyU hgl (by kernel_rfl) (fun i hi => lineC_spec t n a (gs.getD i 0) htl ha ht (getD_lt (by omega) hg _)) (by simp) (by omega) ?_ ?_ ?_
  · intro e he
    simp only [List.mem_cons, List.not_mem_nil, or_false] at he
    rcases he with rfl | rfl | rfl
    · exact ⟨Nat.le_of_ble_eq_true rfl, by simp [C.wf]⟩
    · exact ⟨Nat.le_of_ble_eq_true rfl, by simp [C.wf, C.i]⟩
    · exact ⟨Nat.le_of_ble_eq_true rfl, wf_us _ _⟩
  · intro L h
    exact ⟨roE_id (Nat.le_of_ble_eq_true rfl) (by simp [C.wf]) (h ⟨1, .ro 0, [.sl 3 n]⟩ (by simp)) (.inl rfl) rfl, roE_id (Nat.le_of_ble_eq_true rfl) (by simp [C.wf, C.i]) (h ⟨2, .ro 0, [C.i a]⟩ (by simp)) (.inl rfl) rfl, roE_id (Nat.le_of_ble_eq_true rfl) (wf_us _ _) (h ⟨3, .ro 0, t.map C.u⟩ (by simp)) (.inl rfl) rfl, trivial⟩
  · rfl
theorem idxU_mex {cl : Nat → Nat → Bool} {os : List Nat} {k : Nat} {gs : List Nat} (hg : Gps cl os k gs) {t a : Nat} (ht : ∀ b, t.testBit b = cl a b) :
    (mexS cl (lnF cl os k) (os.take k) a < gs.length ∧ idxU gs (fun g => decide (t &&& g = 0)) = (mexS cl (lnF cl os k) (os.take k) a : Nat)) ∨ (mexS cl (lnF cl os k) (os.take k) a = gs.length ∧ idxU gs (fun g => decide (t &&& g = 0)) = -1) := by
  obtain ⟨m1, _, m3⟩ := mexS_spec cl (lnF cl os k) (os.take k) a
  have hov := hg.over (a := a) (i := gs.length) (Nat.le_refl _)
  have hle : mexS cl (lnF cl os k) (os.take k) a ≤ gs.length := by
    rcases Nat.lt_or_ge gs.length (mexS cl (lnF cl os k) (os.take k) a) with h | h
    · rw [m3 _ h] at hov; cases hov
    · exact h
  have hno : ∀ i, i < mexS cl (lnF cl os k) (os.take k) a → i < gs.length → (fun g => decide (t &&& g = 0)) (gs.getD i 0) = false := fun i h1 h2 => by
    have h3 := m3 i h1
    simp only [decide_eq_false_iff_not]
    rw [hg.blk ht h2, h3]; simp
  rcases Nat.lt_or_ge (mexS cl (lnF cl os k) (os.take k) a) gs.length with h | h
  · left
    refine ⟨h, ?_⟩
    unfold idxU
    rw [find_numU h (by simp only [decide_eq_true_iff]; exact (hg.blk ht h).2 m1) (fun i hi => hno i hi (by omega))]
  · right
    refine ⟨by omega, ?_⟩
    unfold idxU
    rw [find_notU (fun i hi => hno i (by omega) hi)]
end Go.Proofs.YtijnimgmpocmaaaDoor

/- Waste, plain: the first right filling. -/
namespace Go.Proofs.YtijnimgmpocmaaaDoor
open Go.RowKit
set_option linter.unusedVariables false
set_option linter.unusedSimpArgs false
/-- The first right filling that goes on from some kinds. -/
def frst (cl : Nat → Nat → Bool) (skips : Nat) : Nat → List Nat → Option (List Nat)
  | 0, fill => some fill
  | m + 1, fill => (List.range skips).findSome? fun s => if okF cl fill s = true then frst cl skips m (fill ++ [s]) else none
def frI (cl : Nat → Nat → Bool) (skips m : Nat) (fill : List Nat) (s : Nat) : Option (List Nat) := if okF cl fill s = true then frst cl skips m (fill ++ [s]) else none
theorem frst_succ (cl : Nat → Nat → Bool) (skips m : Nat) (fill : List Nat) : frst cl skips (m + 1) fill = (List.range skips).findSome? (frI cl skips m fill) := rfl
theorem find_none {f : Nat → Option (List Nat)} {n : Nat} (h : ∀ s, s < n → f s = none) : (List.range n).findSome? f = none := by
  rw [List.findSome?_eq_none_iff]
  exact fun s hs => h s (List.mem_range.1 hs)
theorem find_some {f : Nat → Option (List Nat)} {l : List Nat} {k : Nat} : ∀ {n}, k < n → (∀ s, s < k → f s = none) → f k = some l → (List.range n).findSome? f = some l
  | n + 1, hk, h, hf => by
    rw [List.range_succ, List.findSome?_append]
    rcases Nat.lt_or_ge k n with h1 | h1
    · rw [find_some h1 h hf]; rfl
    · obtain rfl : k = n := by omega
      rw [find_none h]
      show Option.or none _ = _
      simp [hf]
theorem find_inv {f : Nat → Option (List Nat)} {l : List Nat} : ∀ {n}, (List.range n).findSome? f = some l → ∃ k, k < n ∧ f k = some l ∧ ∀ s, s < k → f s = none
  | 0, h => by simp at h
  | n + 1, h => by
    rw [List.range_succ, List.findSome?_append] at h
    cases hr : (List.range n).findSome? f with
    | some y =>
      rw [hr] at h
      obtain ⟨k, hk, h1, h2⟩ := find_inv hr
      simp at h
      exact ⟨k, by omega, by rw [h1, h], h2⟩
    | none =>
      rw [hr] at h
      simp at h
      refine ⟨n, by omega, h, fun s hs => ?_⟩
      rw [List.findSome?_eq_none_iff] at hr
      exact hr s (List.mem_range.2 hs)
section
variable {cl : Nat → Nat → Bool} {skips : Nat}
theorem rgt_ok {p : List Nat} {s : Nat} (h : rgt cl p) : rgt cl (p ++ [s]) ↔ okF cl p s = true := by
  have hl : ∀ i, i < p.length → (p ++ [s]).getD i 0 = p.getD i 0 := fun i hi => by
    simp [List.getD_eq_getElem?_getD, List.getElem?_append_left hi]
  have hs : (p ++ [s]).getD p.length 0 = s := by simp [List.getD_eq_getElem?_getD]
  unfold okF
  simp only [List.all_eq_true, List.mem_range, Bool.or_eq_true, Bool.not_eq_true', decide_eq_false_iff_not]
  constructor
  · intro hr i hi
    cases hc : cl i p.length with
    | false => exact .inr rfl
    | true =>
      left
      have := hr i p.length hi (by simp) hc
      rw [hl i hi, hs] at this; exact this
  · intro ho i j hij hj hc
    rw [List.length_append, List.length_singleton] at hj
    rcases Nat.lt_or_ge j p.length with h1 | h1
    · rw [hl i (by omega), hl j h1]; exact h i j hij h1 hc
    · obtain rfl : j = p.length := by omega
      rw [hl i hij, hs]
      rcases ho i hij with h2 | h2
      · exact h2
      · rw [hc] at h2; cases h2
theorem rgt_nil (cl : Nat → Nat → Bool) : rgt cl [] := fun i j _ hj => by simp at hj
theorem frst_sound : ∀ {m : Nat} {fill l : List Nat}, frst cl skips m fill = some l → rgt cl fill → (∀ s ∈ fill, s < skips) → l.length = fill.length + m ∧ rgt cl l ∧ ∀ s ∈ l, s < skips
  | 0, fill, l, h, hr, hb => by
    simp only [frst, Option.some.injEq] at h
    subst h; exact ⟨rfl, hr, hb⟩
  | m + 1, fill, l, h, hr, hb => by
    obtain ⟨s, hs, h1, _⟩ := find_inv h
    split at h1
    · rename_i hok
      have := frst_sound h1 ((rgt_ok hr).2 hok) (fun t ht => by
        rcases List.mem_append.1 ht with ht | ht
        · exact hb t ht
        · rw [List.mem_singleton.1 ht]; exact hs)
      rw [List.length_append, List.length_singleton] at this
      exact ⟨by omega, this.2⟩
    · cases h1
theorem rgt_prefix {p q : List Nat} (h : rgt cl (p ++ q)) : rgt cl p := fun i j hij hj hc => by
  have h1 : ∀ i, i < p.length → (p ++ q).getD i 0 = p.getD i 0 := fun i hi => by simp [List.getD_eq_getElem?_getD, List.getElem?_append_left hi]
  have := h i j hij (by rw [List.length_append]; omega) hc
  rwa [h1 i (by omega), h1 j hj] at this
theorem frst_full : ∀ {m : Nat} {fill q : List Nat}, q.length = m → rgt cl (fill ++ q) → (∀ s ∈ q, s < skips) → ∃ l, frst cl skips m fill = some l
  | 0, fill, q, _, _, _ => ⟨fill, rfl⟩
  | m + 1, fill, [], h, _, _ => by simp at h
  | m + 1, fill, s :: q, h, hr, hb => by
    have hr' : rgt cl (fill ++ [s] ++ q) := by rw [List.append_assoc]; exact hr
    have hok := (rgt_ok (rgt_prefix (rgt_prefix hr'))).1 (rgt_prefix hr')
    obtain ⟨l, hl⟩ := frst_full (m := m) (fill := fill ++ [s]) (q := q) (by simpa using h) hr' (fun t ht => hb t (by simp [ht]))
    cases hf : frst cl skips (m + 1) fill with
    | some l => exact ⟨l, rfl⟩
    | none =>
      exfalso
      rw [frst_succ, List.findSome?_eq_none_iff] at hf
      have := hf s (List.mem_range.2 (hb s (by simp)))
      unfold frI at this
      rw [if_pos hok, hl] at this; cases this
theorem frst_iff {n : Nat} : (∃ l, frst cl skips n [] = some l) ↔ ∃ f : List Nat, f.length = n ∧ (∀ s ∈ f, s < skips) ∧ rgt cl f := by
  constructor
  · rintro ⟨l, hl⟩
    have := frst_sound hl (rgt_nil cl) (by simp)
    exact ⟨l, by simpa using this.1, this.2.2, this.2.1⟩
  · rintro ⟨f, h1, h2, h3⟩
    exact frst_full (q := f) h1 (by simpa using h3) h2
/-- Skips beyond the number of kinds are of no use. -/
theorem frst_many : ∀ {m n : Nat} {fill : List Nat}, fill.length + m = n → n ≤ skips → frst cl skips m fill = frst cl n m fill ∧ ∃ l, frst cl n m fill = some l
  | 0, n, fill, _, _ => ⟨rfl, _, rfl⟩
  | m + 1, n, fill, hl, hn => by
    -- a skip that is not used
    have hfree : ∃ s, s < n ∧ okF cl fill s = true := by
      have hex : ∃ s, s < fill.length + 1 ∧ s ∉ fill := by
        apply Classical.byContradiction
        intro h
        have h2 : ∀ s ∈ List.range (fill.length + 1), s ∈ fill := fun s hs => by
          apply Classical.byContradiction; intro h3; exact h ⟨s, List.mem_range.1 hs, h3⟩
        have := nodup_len (List.nodup_range (n := fill.length + 1)) h2
        rw [List.length_range] at this; omega
      obtain ⟨s, hs, hm⟩ := hex
      refine ⟨s, by omega, ?_⟩
      unfold okF
      rw [List.all_eq_true]
      intro i hi
      have hi := List.mem_range.1 hi
      have : ¬ fill.getD i 0 = s := fun h => hm (by rw [← h, List.getD_eq_getElem?_getD, List.getElem?_eq_getElem hi]; exact List.getElem_mem _)
      rw [decide_eq_false this]; rfl
    -- the first skip that does
    have hlow : ∀ b, (∃ s, s < b ∧ okF cl fill s = true) → ∃ s, s < b ∧ okF cl fill s = true ∧ ∀ t, t < s → okF cl fill t = false := by
      intro b
      induction b with
      | zero => rintro ⟨s, hs, _⟩; omega
      | succ b ih =>
        rintro ⟨s, hs, h⟩
        by_cases hb : ∃ s, s < b ∧ okF cl fill s = true
        · obtain ⟨s, h1, h2⟩ := ih hb; exact ⟨s, by omega, h2⟩
        · have hsb : s = b := by
            rcases Nat.lt_or_ge s b with h1 | h1
            · exact absurd ⟨s, h1, h⟩ hb
            · omega
          subst hsb
          refine ⟨s, by omega, h, fun t ht => ?_⟩
          rw [Bool.eq_false_iff]; intro h2; exact hb ⟨t, ht, h2⟩
    obtain ⟨s, hs, hok, hno⟩ := hlow n hfree
    obtain ⟨ih1, l, ih2⟩ := frst_many (m := m) (n := n) (fill := fill ++ [s]) (by rw [List.length_append, List.length_singleton]; omega) hn
    have key : ∀ k, s < k → frst cl k m (fill ++ [s]) = some l → frst cl k (m + 1) fill = some l := fun k hk h => by
      rw [frst_succ]
      refine find_some hk (fun t ht => ?_) ?_
      · unfold frI; rw [if_neg (by rw [hno t ht]; simp)]
      · unfold frI; rw [if_pos hok]; exact h
    have h1 := key skips (by omega) (ih1.trans ih2)
    have h2 := key n hs ih2
    exact ⟨h1.trans h2.symm, l, h2⟩
end
theorem rgt_sym {cl : Nat → Nat → Bool} {f : List Nat} : rgt (symC cl) f ↔ rgt cl f := by
  constructor
  · intro h i j hij hj hc; exact h i j hij hj (by unfold symC; rw [if_pos hij]; exact hc)
  · intro h i j hij hj hc
    unfold symC at hc; rw [if_pos hij] at hc
    exact h i j hij hj hc
/-- The first filling is there from the fewest skips on. -/
theorem frst_few {n : Nat} {qs : List (Nat × Nat)} (hk : Knd n qs) (x : Nat) : (∃ l, frst (symC (clP qs)) x n [] = some l) ↔ fewI (tabS n qs) n ≤ (x : Nat) := by
  obtain ⟨k, _, h2, h3, h4⟩ := fewI_least hk
  rw [frst_iff, h2]
  have := few_iff (cl := clP qs) (n := n) (k := k) (x := x) h3 h4
  constructor
  · rintro ⟨f, a, b, c⟩
    have := this.1 ⟨f, a, b, rgt_sym.1 c⟩; omega
  · intro h
    obtain ⟨f, a, b, c⟩ := this.2 (by omega)
    exact ⟨f, a, b, rgt_sym.2 c⟩
end Go.Proofs.YtijnimgmpocmaaaDoor

/- Waste: slices.Clone of numbers. -/
namespace Go.Proofs.YtijnimgmpocmaaaDoor
open Go.RowKit
set_option linter.unusedVariables false
set_option linter.unusedSimpArgs false
theorem own_baseI {w : World} {b b' e sz n : Nat} {v : Value} {xs : List Value} (h : w.ownsRow b e sz v n xs) (hb : b' ≤ b) : w.ownsRow b' e sz v n xs := by
  obtain ⟨h1, h2 | ⟨g, cap, cur, hv, hg, hh, hn, hm, hs, ht⟩⟩ := h
  · exact ⟨h1, .inl h2⟩
  · exact ⟨h1, .inr ⟨g, cap, cur, hv, by omega, hh, hn, hm, hs, ht⟩⟩
theorem own_sliceI {w : World} {base n : Nat} {v : Value} {xs : List Value} (h : w.ownsRow base 3 1 v n xs) : ∃ ao c, v = .slice ao n c ∧ ∀ a, ao = some a → base ≤ a.block := by
  obtain ⟨h1, ⟨rfl, h2⟩ | ⟨g, cap, cur, rfl, hb, hh, hn, hm, hs, ht⟩⟩ := h
  · exact ⟨none, 0, by rw [h2], fun a ha => by cases ha⟩
  · exact ⟨_, _, rfl, fun a ha => by cases ha; exact hb⟩
theorem ro_getI {w : World} {ao : Option Addr} {l : List Value} {k : Nat} (h : RoAt w ao l) (hk : k < l.length) : ∃ b off, ao = some ⟨b, off, none⟩ ∧ b < w.heap.size ∧ w.cell? ⟨b, off + k, none⟩ = some (l.getD k undef) := by
  obtain ⟨b, off, h1, h2, h3⟩ := h (by intro e; rw [e] at hk; simp at hk)
  exact ⟨b, off, h1, h2, h3 k hk⟩
set_option maxRecDepth 100000 in
set_option maxHeartbeats 400000 in
theorem cloneI_any (ao : Option Addr) (c n : Nat) (xs : List Value) (w : World) (hl : RoAt w ao xs) (h2 : xs.length = n * 1) (h1 : ∀ u ∈ xs, u.oneCell' = true) (hn : n ≤ 1000000) :
    Calls Tryd.prog 105 #[.slice ao n c] w fun e w' => ∃ rv, e = .returned rv ∧ w'.ownsRow w.heap.size 3 1 rv n xs ∧ Below w.heap.size w w' := by
  cases ao with
  | none =>
    have h0 : n = 0 := by
      cases n with
      | zero => rfl
      | succ n => obtain ⟨b, off, h, _⟩ := ro_getI hl (k := 0) (by omega); cases h
    subst h0
    have hx : xs = [] := List.eq_nil_of_length_eq_zero (by simpa using h2)
    subst hx
    have he := fun W => Lib.run_eql_slice_nil (P := Tryd.prog) W 25 3 none 0 c 0 0 Tryd.underlying25
    go_enter Tryd.func105, Tryd.ntmps105
    go_wp2
    go_ret
    exact ⟨_, rfl, World.ownsRow_nil _ _ _ _, Below.refl _ _⟩
  | some a =>
    have he := fun W => Lib.run_eql_slice_nil (P := Tryd.prog) W 25 3 (some a) n c 0 0 Tryd.underlying25
    obtain ⟨i0, hi, hz0, hz1, hz2⟩ : ∃ i, Tryd.prog.info? 3 = some i ∧ i.size = 1 ∧ i.bytes = 8 ∧ i.zero = some (.int .i64 0) := ⟨(Tryd.prog.info? 3).getD default, by kernel_rfl, by kernel_rfl, by kernel_rfl, by kernel_rfl⟩
    have hown : (w.alloc (.cells #[] 3)).ownsRow w.heap.size 3 1 (.slice (some ⟨w.heap.size, 0, none⟩) 0 0) 0 [] :=
      ⟨rfl, .inr ⟨w.heap.size, 0, #[], rfl, Nat.le_refl _, World.alloc_heap_new _ _, Nat.le_refl _, by simp [maxLen], rfl, rfl⟩⟩
    have hnews : ∀ j u, xs[j]? = some u → (w.alloc (.cells #[] 3)).cell? (a.add j) = some u := by
      intro j u hj
      obtain ⟨hj1, hj2⟩ := List.getElem?_eq_some_iff.1 hj
      obtain ⟨b, off, ha, hb, hc⟩ := ro_getI hl hj1
      obtain rfl : a = ⟨b, off, none⟩ := by simpa using ha
      have : (⟨b, off, none⟩ : Addr).add j = ⟨b, off + j, none⟩ := by
        unfold Addr.add; split
        · rename_i h; subst h; rfl
        · rfl
      rw [this, World.cell?_alloc_lt _ _ _ hb, hc, ← hj2]
      simp [List.getD_eq_getElem?_getD, List.getElem?_eq_getElem hj1]
    have hxl : xs.length = n * 1 := h2
    go_enter Tryd.func105, Tryd.ntmps105
    go_wp2_with (first | (at_builtin; go_loud (refine wpList_append_own _ rfl _ _ 25 rfl w.heap.size 3 i0 (.int .i64 0) 1 8 Tryd.underlying25 hi hz2 hz0 hz1 rfl (by decide) _ _ _ rfl hown a n c xs rfl hxl hnews h1 (by simp [maxLen]; omega) (by omega) (by simp) ?_; intro v' w1 hown1 hgrow1 _)))
    go_ret
    exact ⟨_, rfl, by simpa using hown1, ((Below.refl _ _).alloc (Nat.le_refl _) _).grown hgrow1 (by simp) (fun k e => by cases e; exact Nat.le_refl _)⟩
theorem cloneI_k {n0 nx a : Nat} {k : Kd} {l : List Int} {L : List E} {K : V → List E → Nat → Prop} (hn : l.length ≤ 1000000) (ha : find L a = some ⟨a, k, l.map C.i⟩) (hK : K (V.c (.sl nx l.length)) [⟨nx, .vec 3 1, l.map C.i⟩] (nx + 1)) : CallK Tryd.prog n0 105 [V.c (.sl a l.length)] L nx K := by
  refine ⟨by kernel_rfl, fun ρ w hp _ => ?_⟩
  have hag : ∀ ρ' : Env, ((l.map C.i)).map (C.den ρ') = ((l.map C.i)).map (C.den ρ) := fun ρ' => List.map_congr_left fun c hc => by obtain ⟨z, _, rfl⟩ := List.mem_map.1 hc; rfl
  have hc := cloneI_any (ρ a).1 (ρ a).2 l.length (((l.map C.i)).map (C.den ρ)) w (hp.row ha).1 (by rw [List.length_map, List.length_map]; omega) (fun u hu => by
    obtain ⟨c, hc, rfl⟩ := List.mem_map.1 hu
    obtain ⟨z, _, rfl⟩ := List.mem_map.1 hc; rfl) hn
  refine Calls.mono (show Calls Tryd.prog 105 ([V.c (.sl a l.length)].map (V.den ρ)).toArray w _ from hc) ?_
  rintro e w' ⟨rv, rfl, hown, hbw⟩
  obtain ⟨ao, c, rfl, hblk⟩ := own_sliceI hown
  refine ⟨V.c (.sl nx l.length), [⟨nx, .vec 3 1, l.map C.i⟩], nx + 1, ρ.put nx ao c, ?_, Nat.le_succ _, Nat.lt_succ_self nx, Env.put_agr _ _ _ _, hbw, News.one ?_ rfl (wf_ints _ _) ?_, hK⟩
  · simp [V.den, A.den, C.den, Env.put_same]
  · refine ⟨l.length, ?_⟩
    simp only [Env.put_same]
    rw [hag]
    exact rowO.of (own_baseI hown hp.base)
  · intro b hb
    simp only [blk, Env.put_same, Option.map_eq_some_iff] at hb
    obtain ⟨a, ha, rfl⟩ := hb
    exact hblk a ha
end Go.Proofs.YtijnimgmpocmaaaDoor

/- Waste: the first right filling, walked. -/
namespace Go.Proofs.YtijnimgmpocmaaaDoor
open Go.RowKit
set_option linter.unusedVariables false
set_option linter.unusedSimpArgs false
theorem covE_bo {R : Rn} {nx l l' : Nat} {L : List E} {c : C} {b : Bool} (hr : renL R l = some l') (h1 : l < nx) (h3 : find L l' = some ⟨l', .own 4, [c]⟩) (h : c.toB = some b) : covE R nx L ⟨l, .own 4, [.bool b]⟩ :=
  covE_sem hr h1 (wf_bools nx [b]) h3 (.inl rfl) (fun ρ => den_toB (l := [b]) (by simp [h]))
theorem cloneN_k {n0 nx a : Nat} {k : Kd} {l : List Nat} {L : List E} {K : V → List E → Nat → Prop} (hn : l.length ≤ 1000000) (ha : find L a = some ⟨a, k, (natI l).map C.i⟩) (hK : K (V.c (.sl nx l.length)) [⟨nx, .vec 3 1, (natI l).map C.i⟩] (nx + 1)) : CallK Tryd.prog n0 105 [V.c (.sl a l.length)] L nx K := by
  have h := natI_len l
  have := cloneI_k (n0 := n0) (nx := nx) (a := a) (k := k) (l := natI l) (L := L) (K := K) (by omega) ha
  rw [h] at this
  exact this hK
/-- A callee that gives back what came in. -/
theorem CallK.inRow {P : Program} {n0 nx nac x c m : Nat} {f : FuncId} {vs vs' : List V} {Lc L : List E} {R : Rn} {K : V → List E → Nat → Prop} (spec : Spec P f vs Lc nac (fun v L' _ => v = V.c (.sl c m))) (hok : callB P f = true)
    (hv : renVs R vs = some vs') (hvw : ∀ v ∈ vs, v.wf nac) (hL : roL R nac L Lc) (hLc : injB [] Lc = true) (hc : c < nac) (hR : renL R c = some x) (hx : x < nx) (hK : K (V.c (.sl x m)) [] nx) : CallK P n0 f vs' L nx K := by
  refine CallK.mkIn hok spec hv hvw hL hLc [(x, c)] (fun q hq => ?_) ?_
  · rw [List.mem_singleton.1 hq]; exact ⟨hc, hR, hx⟩
  · rintro v L' nx' hw rfl
    have h0 : renL [(x, some c)] x = some c := by simp [renL]
    refine ⟨V.c (.sl x m), [], nx, [(x, some c)], ⟨Nat.le_refl _, ?_, ?_, trivial, rfl, rfl, fun q hq => ?_⟩, hK⟩
    · simp only [V.ren, A.ren, C.ren, h0]
    · simp [V.chk, A.chk, C.chk, inOr]
    · rw [List.mem_singleton.1 hq]; exact h0
/-- A filling that is whole is the answer. -/
theorem first_0 (t : List Nat) (n skips : Nat) (fill : List Nat) (hfl : fill.length = n) (htl : t.length = n) : Spec Tryd.prog 81 [V.c (.sl 0 n), V.c (.sl 1 n), V.i skips] [⟨0, .ro 0, t.map C.u⟩, ⟨1, .ro 0, (natI fill).map C.i⟩] 2 (fun v L' _ => v = V.c (.sl 1 n)) := by
  refine Spec.of tok Tryd.func81 rfl rfl rfl fun n0 cx => vc_ok tok ?_
  repeat ((conv => whnf); first | (refine And.intro (by first | omega | exact Nat.le_of_ble_eq_true rfl) ?_) | refine Exists.intro _ (And.intro rfl ?_) | refine br_t (by omega) ?_ | refine fun (K' : K3) hK' => ?_ | (refine hK' _ _ _ ?_; clear hK' K'))
  rfl
/-- Some of the kinds that clash have the skip. -/
def clQ (ta a : Nat) (fill : List Nat) (s k : Nat) : Bool := ((bitsL ta).take k).any fun b => decide (b < a) && decide (fill.getD b 0 = s)
theorem clQ_succ {ta a s k : Nat} {fill : List Nat} (h : k < (bitsL ta).length) : clQ ta a fill s (k + 1) = (clQ ta a fill s k || (decide ((bitsL ta).getD k 0 < a) && decide (fill.getD ((bitsL ta).getD k 0) 0 = s))) := by
  have e : (bitsL ta)[k]?.toList = [(bitsL ta).getD k 0] := by rw [List.getD_eq_getElem?_getD, List.getElem?_eq_getElem h]; rfl
  unfold clQ
  rw [List.take_add_one, e, List.any_append]; simp
theorem clQ_ok {n : Nat} {qs : List (Nat × Nat)} (hk : Knd n qs) {fill : List Nat} {s : Nat} : clQ ((tabS n qs).getD fill.length 0) fill.length fill s (bitsL ((tabS n qs).getD fill.length 0)).length = !okF (symC (clP qs)) fill s := by
  have h256 : (tabS n qs).getD fill.length 0 < 256 := getD_lt (by omega) (tabS_256 hk) _
  rw [Bool.eq_iff_iff]
  unfold clQ okF
  rw [List.take_length]
  simp only [List.any_eq_true, Bool.and_eq_true, decide_eq_true_iff, Bool.not_eq_true', List.all_eq_false, List.mem_range, Bool.or_eq_true, Bool.not_eq_true', decide_eq_false_iff_not, mem_bitsL, tabS_cl hk]
  constructor
  · rintro ⟨b, ⟨_, hb⟩, h1, h2⟩
    refine ⟨b, h1, fun h => ?_⟩
    rcases h with h | h
    · exact h h2
    · rw [symC_comm, hb] at h; cases h
  · rintro ⟨i, hi, h⟩
    have hc : symC (clP qs) i fill.length = true := by
      cases hc : symC (clP qs) i fill.length with
      | true => rfl
      | false => exact absurd (Or.inr hc) h
    have hf : fill.getD i 0 = s := Classical.byContradiction fun h2 => h (.inl h2)
    refine ⟨i, ⟨?_, by rw [symC_comm]; exact hc⟩, hi, hf⟩
    have : ((tabS n qs).getD fill.length 0).testBit i = true := by rw [tabS_cl hk, symC_comm]; exact hc
    exact bit_lt (n := 8) h256 this
theorem frst_sound' {cl : Nat → Nat → Bool} {skips : Nat} : ∀ {m : Nat} {fill l : List Nat}, frst cl skips m fill = some l → l.length = fill.length + m
  | 0, fill, l, h => by simp only [frst, Option.some.injEq] at h; subst h; rfl
  | m + 1, fill, l, h => by
    obtain ⟨s, hs, h1, _⟩ := find_inv h
    split at h1
    · have := frst_sound' h1
      rw [List.length_append, List.length_singleton] at this; omega
    · cases h1
/-- What comes of it. -/
def frQ (n : Nat) (o : Option (List Nat)) (v : V) (L' : List E) : Prop := match o with
  | none => ∀ ρ, v.den ρ = (V.c .nil).den ρ
  | some l => ∃ lab, v = V.c (.sl lab n) ∧ find L' lab = some ⟨lab, .vec 3 1, (natI l).map C.i⟩
set_option maxRecDepth 10000 in
set_option maxHeartbeats 16000000 in
theorem first_step (n : Nat) (qs : List (Nat × Nat)) (hk : Knd n qs) (skips : Nat) (hs20 : skips ≤ 20) (m : Nat) (ih : ∀ m', m = m' + 1 → ∀ fill : List Nat, fill.length + (m' + 1) = n →
      Spec Tryd.prog 81 [V.c (.sl 0 n), V.c (.sl 1 fill.length), V.i skips] [⟨0, .ro 0, (tabS n qs).map C.u⟩, ⟨1, .ro 0, (natI fill).map C.i⟩] 2 (fun v L' _ => frQ n (frst (symC (clP qs)) skips (m' + 1) fill) v L')) (fill : List Nat) (hfl : fill.length + (m + 1) = n) :
    Spec Tryd.prog 81 [V.c (.sl 0 n), V.c (.sl 1 fill.length), V.i skips] [⟨0, .ro 0, (tabS n qs).map C.u⟩, ⟨1, .ro 0, (natI fill).map C.i⟩] 2 (fun v L' _ => frQ n (frst (symC (clP qs)) skips (m + 1) fill) v L') := by
  have hn := hk.rng
  have htl := tabS_len n qs
  have ht := tabS_256 hk
  have htm : ((tabS n qs).map C.u).length = n := by rw [List.length_map, htl]
  have hfm : ((natI fill).map C.i).length = fill.length := by rw [List.length_map, natI_len]
  have hlt : ((tabS n qs).map C.u)[mulS ((fill.length : Nat) : Int).toNat 1]? = some (C.u ((tabS n qs).getD fill.length 0)) := uLz rfl (by omega)
  have hs8 : (tabS n qs).getD fill.length 0 < 256 := getD_lt (by omega) ht _
  have hcq := fun s => clQ_ok hk (fill := fill) (s := s)
  have hlf : ∀ b, b < fill.length → ((natI fill).map C.i)[mulS ((b : Nat) : Int).toNat 1]? = some (C.i ((fill.getD b 0 : Nat) : Int)) := fun b hb => by rw [intLz rfl (by rw [natI_len]; exact hb), natI_get hb]
  have hfr : frst (symC (clP qs)) skips (m + 1) fill = (List.range skips).findSome? (frI (symC (clP qs)) skips m fill) := rfl
  obtain ⟨ta, hta⟩ : ∃ ta, ta = (tabS n qs).getD fill.length 0 := ⟨_, rfl⟩
  rw [← hta] at hlt hs8 hcq
  have hbl := bitsL_len ta
  have hne0 : ¬ ((fill.length : Nat) : Int) = (n : Nat) := by omega
  refine Spec.of tok Tryd.func81 rfl rfl rfl fun n0 cx => vc_ok tok ?_
  repeat ((conv => whnf); first | (refine And.intro (by first | omega | exact Nat.le_of_ble_eq_true rfl) ?_) | refine Exists.intro _ (And.intro rfl ?_) | refine br_f (by omega) ?_ | refine fun (K' : K3) hK' => ?_ | (refine hK' _ _ _ ?_; clear hK' K'))
  refine Tri.loop (γ := Nat) (fun s => s ≤ skips ∧ ∀ r, r < s → frI (symC (clP qs)) skips m fill r = none) (fun s => [(0, V.c (.sl 0 n)), (2, V.i skips), (4, V.c (.ptr 2 0)), (7, V.c (.ptr 3 0)), (19, V.i skips), (20, V.i (s : Nat))])
    (fun s => [⟨3, .own 3, [C.i fill.length]⟩, ⟨2, .own 25, [.sl 1 fill.length]⟩, ⟨0, .ro 0, (tabS n qs).map C.u⟩, ⟨1, .ro 0, (natI fill).map C.i⟩]) 4 (fun s => skips - s) 0 (R0 := []) ?_ ?_ ?_
  · exact ⟨Nat.zero_le _, fun r hr => by omega⟩
  · skip
    refine ⟨?_, ?_, rfl, rfl, by exact Nat.le_of_ble_eq_true rfl⟩
    · repeat (first | exact trivial | (refine And.intro (covS_syn (by rfl) rfl (by first | exact trivial | exact Nat.le_of_ble_eq_true rfl)) ?_))
    · repeat (first | exact trivial | (refine And.intro (covE_id (Nat.le_of_ble_eq_true rfl) (by first | exact wf_ints _ _ | first | exact wf_us _ _ | exact wf_cells _ _ | (simp [C.wf]; done)) rfl (by rfl)) ?_))
  · rintro s ⟨hs, hno⟩
    refine vc_ok tok ?_
    by_cases hsl : s < skips
    · have hcqs := hcq s
      repeat ((conv => whnf); first | (refine And.intro (by first | omega | exact Nat.le_of_ble_eq_true rfl | (dsimp only [inK]; omega)) ?_) | with_reducible refine ld (hlt) ?_ | refine Exists.intro _ (And.intro rfl ?_) | refine br_t (by omega) ?_ | refine fun (K' : K3) hK' => ?_ | (refine hK' _ _ _ ?_; clear hK' K') | refine CallK.fresh (by kernel_rfl) (all_spec _ _ _) rfl ?_ | refine CallK.m ?_)
      refine Tri.opq fun K' hK' => ?_
      refine Tri.rangeFunc tok (by exact rfl) (by kernel_rfl) (by exact rfl) (by exact rfl) (by exact rfl) (by exact rfl) (by exact rfl) (by exact rfl) ?_
      intro y cxi oo ob od hy hY
      refine vc_ok tok ?_
      repeat ((conv => whnf); first | refine Exists.intro _ (And.intro rfl ?_) | refine fun (K' : K3) hK' => ?_ | (refine hK' _ _ _ ?_; clear hK' K'))
      refine Tri.loop (γ := Nat) (fun k => k ≤ (bitsL ta).length) (fun k => [(0, V.c (.v y)), (1, V.c (.ptr 6 0)), (3, V.u (rs ta k))])
        (fun k => [⟨7, .obj oo, []⟩, ⟨6, .own 75, [C.u ta]⟩, ⟨5, .own 4, [.bool (clQ ta fill.length fill s k)]⟩, ⟨4, .own 3, [C.i (s : Nat)]⟩, ⟨3, .own 3, [C.i fill.length]⟩, ⟨2, .own 25, [.sl 1 fill.length]⟩, ⟨0, .ro 0, (tabS n qs).map C.u⟩, ⟨1, .ro 0, (natI fill).map C.i⟩]) 8 (fun k => (bitsL ta).length - k) 0 (R0 := []) ?_ ?_ ?_
      · omega
      · have h0 : clQ ta fill.length fill s 0 = false := rfl
        rw [h0]
        refine ⟨?_, ?_, rfl, rfl, by exact Nat.le_of_ble_eq_true rfl⟩
        · repeat (first | exact trivial | (refine And.intro (covS_syn (by rfl) rfl (by first | exact trivial | exact Nat.le_of_ble_eq_true rfl | exact hy)) ?_))
        · repeat (first | exact trivial | refine And.intro (covE_bo rfl (Nat.le_of_ble_eq_true rfl) rfl rfl) ?_ | (refine And.intro (covE_id (Nat.le_of_ble_eq_true rfl) (by first | exact wf_ints _ _ | first | exact wf_us _ _ | exact wf_cells _ _ | (simp [C.wf]; done)) rfl (by rfl)) ?_))
      · intro k hkk
        refine vc_ok tok ?_
        obtain ⟨f1, f2, f3⟩ := all_fact ta hs8 k (by omega)
        by_cases hkl : k < (bitsL ta).length
        · obtain ⟨f4, f5⟩ := f2 hkl
          have hrs : rs ta (k + 1) = rs ta k &&& (rs ta k - 1) := rfl
          have hsu := clQ_succ (a := fill.length) (s := s) (fill := fill) hkl
          have hmem := (mem_bitsL.1 (bitsL_get hkl)).1
          obtain ⟨b, hb⟩ : ∃ b, b = (bitsL ta).getD k 0 := ⟨_, rfl⟩
          obtain ⟨r, hr⟩ : ∃ r, r = rs ta k := ⟨_, rfl⟩
          rw [← hb] at f5 hsu hmem
          rw [← hr] at f1 f4 f5 hrs ⊢
          have hne : (r : Int) ≠ 0 := by omega
          have hde := and_dec f1 f4
          rw [← hrs] at hde
          have htz := fun {n0 nx : Nat} {L : List E} {K : V → List E → Nat → Prop} => tz_k (n0 := n0) (nx := nx) (L := L) (K := K) f4 f1
          rw [f5] at htz
          obtain ⟨x, hx⟩ : ∃ x, x = clQ ta fill.length fill s k := ⟨_, rfl⟩
          rw [← hx] at hsu ⊢
          cases x with
          | true =>
            have hst : clQ ta fill.length fill s (k + 1) = true := by rw [hsu]; rfl
            repeat ((conv => whnf); first | refine br_t (by omega) ?_ | refine fun (K' : K3) hK' => ?_ | (refine hK' _ _ _ ?_; clear hK' K') | refine htz ?_ | refine CallK.m ?_)
            refine hY _ _ _ _ (Nat.le_of_ble_eq_true rfl) rfl ⟨rfl, trivial⟩ ?_
            intro cxb hcx
            refine vc_ok tok ?_
            repeat ((conv => whnf); first | refine fun (K' : K3) hK' => ?_ | (refine hK' _ _ _ ?_; clear hK' K') | refine And.intro (Eq.refl oo) ?_)
            refine vc_ok tok ?_
            repeat ((conv => whnf); first | (refine And.intro (by first | omega | exact Nat.le_of_ble_eq_true rfl | (dsimp only [inK]; omega)) ?_) | refine Exists.intro _ (And.intro rfl ?_) | refine fun (K' : K3) hK' => ?_ | (refine hK' _ _ _ ?_; clear hK' K') | refine draw_auto tok mixed (by kernel_rfl) ?_ | refine And.intro (Eq.refl ob) ?_ | refine bs_bt (Eq.refl true) ?_)
            refine ⟨k + 1, [], by omega, by omega, ?_⟩
            rw [hst]
            refine ⟨?_, ?_, rfl, rfl, by exact Nat.le_of_ble_eq_true rfl⟩
            · repeat (first | exact trivial | (refine And.intro (covS_syn (by first | rfl | exact congrArg (fun z => some (V.c (C.int .u64 z))) hde) rfl (by first | exact trivial | exact Nat.le_of_ble_eq_true rfl | exact hy)) ?_))
            · repeat (first | exact trivial | refine And.intro (covE_bo rfl (Nat.le_of_ble_eq_true rfl) rfl rfl) ?_ | (refine And.intro (covE_id (Nat.le_of_ble_eq_true rfl) (by first | exact wf_ints _ _ | first | exact wf_us _ _ | exact wf_cells _ _ | (simp [C.wf]; done)) rfl (by rfl)) ?_))
          | false =>
            by_cases hba : ((b : Nat) : Int) < (fill.length : Nat)
            · have hlb := hlf b (by omega)
              have hst : clQ ta fill.length fill s (k + 1) = decide (((fill.getD b 0 : Nat) : Int) = (s : Nat)) := by
                rw [hsu, decide_eq_true (show b < fill.length by omega)]
                simp only [Bool.false_or, Bool.true_and]
                rw [decide_eq_decide]; omega
              repeat ((conv => whnf); first | refine br_t (by omega) ?_ | refine fun (K' : K3) hK' => ?_ | (refine hK' _ _ _ ?_; clear hK' K') | refine htz ?_ | refine CallK.m ?_)
              refine hY _ _ _ _ (Nat.le_of_ble_eq_true rfl) rfl ⟨rfl, trivial⟩ ?_
              intro cxb hcx
              refine vc_ok tok ?_
              repeat ((conv => whnf); first | refine fun (K' : K3) hK' => ?_ | (refine hK' _ _ _ ?_; clear hK' K') | refine And.intro (Eq.refl oo) ?_)
              refine vc_ok tok ?_
              repeat ((conv => whnf); first | (refine And.intro (by first | omega | exact Nat.le_of_ble_eq_true rfl | (dsimp only [inK]; omega)) ?_) | with_reducible refine ld (hlb) ?_ | refine Exists.intro _ (And.intro rfl ?_) | refine br_t (by omega) ?_ | refine fun (K' : K3) hK' => ?_ | (refine hK' _ _ _ ?_; clear hK' K') | refine draw_auto tok mixed (by kernel_rfl) ?_ | refine And.intro (Eq.refl ob) ?_ | refine bs_bf (Eq.refl false) ?_)
              refine ⟨k + 1, [], by omega, by omega, ?_⟩
              rw [hst]
              refine ⟨?_, ?_, rfl, rfl, by exact Nat.le_of_ble_eq_true rfl⟩
              · repeat (first | exact trivial | (refine And.intro (covS_syn (by first | rfl | exact congrArg (fun z => some (V.c (C.int .u64 z))) hde) rfl (by first | exact trivial | exact Nat.le_of_ble_eq_true rfl | exact hy)) ?_))
              · repeat (first | exact trivial | refine And.intro (covE_bo rfl (Nat.le_of_ble_eq_true rfl) rfl rfl) ?_ | (refine And.intro (covE_id (Nat.le_of_ble_eq_true rfl) (by first | exact wf_ints _ _ | first | exact wf_us _ _ | exact wf_cells _ _ | (simp [C.wf]; done)) rfl (by rfl)) ?_))
            · have hst : clQ ta fill.length fill s (k + 1) = false := by
                rw [hsu, decide_eq_false (show ¬ b < fill.length by omega)]; rfl
              repeat ((conv => whnf); first | refine br_t (by omega) ?_ | refine fun (K' : K3) hK' => ?_ | (refine hK' _ _ _ ?_; clear hK' K') | refine htz ?_ | refine CallK.m ?_)
              refine hY _ _ _ _ (Nat.le_of_ble_eq_true rfl) rfl ⟨rfl, trivial⟩ ?_
              intro cxb hcx
              refine vc_ok tok ?_
              repeat ((conv => whnf); first | refine fun (K' : K3) hK' => ?_ | (refine hK' _ _ _ ?_; clear hK' K') | refine And.intro (Eq.refl oo) ?_)
              refine vc_ok tok ?_
              repeat ((conv => whnf); first | (refine And.intro (by first | omega | exact Nat.le_of_ble_eq_true rfl | (dsimp only [inK]; omega)) ?_) | refine Exists.intro _ (And.intro rfl ?_) | refine br_f (by omega) ?_ | refine fun (K' : K3) hK' => ?_ | (refine hK' _ _ _ ?_; clear hK' K') | refine draw_auto tok mixed (by kernel_rfl) ?_ | refine And.intro (Eq.refl ob) ?_ | refine bs_bf (Eq.refl false) ?_)
              refine ⟨k + 1, [], by omega, by omega, ?_⟩
              rw [hst]
              refine ⟨?_, ?_, rfl, rfl, by exact Nat.le_of_ble_eq_true rfl⟩
              · repeat (first | exact trivial | (refine And.intro (covS_syn (by first | rfl | exact congrArg (fun z => some (V.c (C.int .u64 z))) hde) rfl (by first | exact trivial | exact Nat.le_of_ble_eq_true rfl | exact hy)) ?_))
              · repeat (first | exact trivial | refine And.intro (covE_bo rfl (Nat.le_of_ble_eq_true rfl) rfl rfl) ?_ | (refine And.intro (covE_id (Nat.le_of_ble_eq_true rfl) (by first | exact wf_ints _ _ | first | exact wf_us _ _ | exact wf_cells _ _ | (simp [C.wf]; done)) rfl (by rfl)) ?_))
        · have f6 := f3 (by omega)
          obtain rfl : k = (bitsL ta).length := by omega
          rw [f6, hcqs]
          repeat ((conv => whnf); first | refine br_f (by omega) ?_ | refine fun (K' : K3) hK' => ?_ | (refine hK' _ _ _ ?_; clear hK' K') | refine Or.inl ?_ | refine And.intro (Eq.refl oo) ?_)
          refine hK' _ _ _ _ ?_
          cases hok : okF (symC (clP qs)) fill s with
          | false =>
            repeat ((conv => whnf); first | (refine And.intro (by first | omega | (dsimp only [inK]; omega)) ?_) | refine Exists.intro _ (And.intro rfl ?_) | refine fun (K' : K3) hK' => ?_ | (refine hK' _ _ _ ?_; clear hK' K') | refine br_bt (Eq.refl true) ?_)
            refine ⟨s + 1, [], ⟨by omega, fun r hr => ?_⟩, by omega, ?_⟩
            · by_cases h : r = s
              · subst h; unfold frI; rw [hok]; rfl
              · exact hno r (by omega)
            refine ⟨?_, ?_, rfl, rfl, by exact Nat.le_of_ble_eq_true rfl⟩
            · repeat (first | exact trivial | (refine And.intro (covS_syn (by rfl) rfl (by first | exact trivial | exact Nat.le_of_ble_eq_true rfl)) ?_))
            · repeat (first | exact trivial | (refine And.intro (covE_id (Nat.le_of_ble_eq_true rfl) (by first | exact wf_ints _ _ | first | exact wf_us _ _ | exact wf_cells _ _ | (simp [C.wf]; done)) rfl (by rfl)) ?_))
          | true =>
            have hfi : frI (symC (clP qs)) skips m fill s = frst (symC (clP qs)) skips m (fill ++ [s]) := by unfold frI; rw [if_pos hok]
            have happ := natI_app fill s
            have hll : (fill ++ [s]).length = fill.length + 1 := by simp
            have hpos : 0 < ((natI fill).map C.i ++ [C.i (s : Nat)]).length := by simp
            match m, ih, hfl, hno, hfr, hfi with
            | 0, _, hfl, hno, hfr, hfi =>
              have hres : frst (symC (clP qs)) skips 1 fill = some (fill ++ [s]) := by rw [hfr]; exact find_some hsl hno hfi
              rw [hres]
              have h0 := first_0 (tabS n qs) n skips (fill ++ [s]) (by omega) htl
              have hn1 : V.c (.sl 1 n) = V.c (.sl 1 (fill.length + 1)) := congrArg (fun z => V.c (.sl 1 z)) (by omega)
              have h0' : Spec Tryd.prog 81 [V.c (.sl 0 n), V.c (.sl 1 (fill.length + 1)), V.i skips] [⟨0, .ro 0, (tabS n qs).map C.u⟩, ⟨1, .ro 0, (natI (fill ++ [s])).map C.i⟩] 2 (fun v L' _ => v = V.c (.sl 1 n)) := by rw [← hn1]; exact h0
              repeat ((conv => whnf); first | (refine And.intro (by first | omega | (dsimp only [inK]; omega) | (exact ⟨rfl, rfl, rfl, Nat.le_of_ble_eq_true rfl, by dsimp only; omega, by exact Nat.le_of_ble_eq_true rfl, by omega, Nat.le_of_ble_eq_true rfl⟩) | exact Eq.refl true) ?_) | refine Exists.intro _ (And.intro rfl ?_) | refine fun (K' : K3) hK' => ?_ | (refine hK' _ _ _ ?_; clear hK' K') | refine draw_late 7 [8] tok mixed (by decide +kernel) ?_ | refine HD_mk (fun _ h => cloneN_k (by omega) rfl h) ?_ | refine And.intro (And.intro rfl ((congrArg (fun cs => ([⟨_, _, cs⟩] : List E).all _) happ).trans (chk_rowI _ _ _ _))) ?_ | refine CallK.inRow (R := [(0, some 0), (1, some 10)]) (c := 1) (x := 10) h0' (by kernel_rfl) rfl (by simp [V.wf, A.wf, C.wf, V.i]) ⟨roE_f (flat_u _) (l := 0) rfl (by omega) rfl (.inl rfl), roE_fe (flat_i _) (l := 10) rfl (by omega) rfl (.inl rfl) happ, trivial⟩ rfl (by omega) rfl (by omega) ?_ | refine And.intro hpos ?_ | refine br_bf (Eq.refl false) ?_ | refine CallK.m ?_ | refine And.intro (And.intro rfl rfl) ?_)
              exact congrArg (fun cs => some (⟨10, .vec 3 1, cs⟩ : E)) happ
            | m + 1, ih, hfl, hno, hfr, hfi =>
              have h1 := ih m rfl (fill ++ [s]) (by omega)
              rw [hll] at h1
              cases ho : frst (symC (clP qs)) skips (m + 1) (fill ++ [s]) with
              | none =>
                rw [ho] at h1 hfi
                have h1' : Spec Tryd.prog 81 [V.c (.sl 0 n), V.c (.sl 1 (fill.length + 1)), V.i skips] [⟨0, .ro 0, (tabS n qs).map C.u⟩, ⟨1, .ro 0, (natI (fill ++ [s])).map C.i⟩] 2 (Is (V.c .nil)) := h1
                repeat ((conv => whnf); first | (refine And.intro (by first | omega | (dsimp only [inK]; omega) | (exact ⟨rfl, rfl, rfl, Nat.le_of_ble_eq_true rfl, by dsimp only; omega, by exact Nat.le_of_ble_eq_true rfl, by omega, Nat.le_of_ble_eq_true rfl⟩) | exact Eq.refl true) ?_) | refine Exists.intro _ (And.intro rfl ?_) | refine fun (K' : K3) hK' => ?_ | (refine hK' _ _ _ ?_; clear hK' K') | refine draw_late 7 [8] tok mixed (by decide +kernel) ?_ | refine HD_mk (fun _ h => cloneN_k (by omega) rfl h) ?_ | refine And.intro (And.intro rfl ((congrArg (fun cs => ([⟨_, _, cs⟩] : List E).all _) happ).trans (chk_rowI _ _ _ _))) ?_ | refine CallK.val (R := [(0, some 0), (1, some 10)]) h1' (by kernel_rfl) rfl (by simp [V.wf, A.wf, C.wf, V.i]) ⟨roE_f (flat_u _) (l := 0) rfl (by omega) rfl (.inl rfl), roE_fe (flat_i _) (l := 10) rfl (by omega) rfl (.inl rfl) happ, trivial⟩ rfl rfl trivial ?_ | refine br_bf (Eq.refl false) ?_ | refine CallK.m ?_ | refine And.intro (And.intro rfl rfl) ?_)
                refine ⟨s + 1, [], ⟨by omega, fun r hr => ?_⟩, by omega, ?_⟩
                · by_cases h : r = s
                  · subst h; exact hfi
                  · exact hno r (by omega)
                refine ⟨?_, ?_, rfl, rfl, by exact Nat.le_of_ble_eq_true rfl⟩
                · repeat (first | exact trivial | (refine And.intro (covS_syn (by rfl) rfl (by first | exact trivial | exact Nat.le_of_ble_eq_true rfl)) ?_))
                · repeat (first | exact trivial | (refine And.intro (covE_id (Nat.le_of_ble_eq_true rfl) (by first | exact wf_ints _ _ | first | exact wf_us _ _ | exact wf_cells _ _ | (simp [C.wf]; done)) rfl (by rfl)) ?_))
              | some l =>
                rw [ho] at h1 hfi
                have hres : frst (symC (clP qs)) skips (m + 1 + 1) fill = some l := by rw [hfr]; exact find_some hsl hno hfi
                rw [hres]
                have hll2 := (frst_sound' ho).symm
                have hpos2 : 0 < ((natI l).map C.i).length := by rw [List.length_map, natI_len]; omega
                have h1' : Spec Tryd.prog 81 [V.c (.sl 0 n), V.c (.sl 1 (fill.length + 1)), V.i skips] [⟨0, .ro 0, (tabS n qs).map C.u⟩, ⟨1, .ro 0, (natI (fill ++ [s])).map C.i⟩] 2 (fun v L' _ => ∃ lab, v = V.c (.sl lab n) ∧ find L' lab = some ⟨lab, .vec 3 1, (natI l).map C.i⟩) := h1
                repeat ((conv => whnf); first | (refine And.intro (by first | omega | (dsimp only [inK]; omega) | (exact ⟨rfl, rfl, rfl, Nat.le_of_ble_eq_true rfl, by dsimp only; omega, by exact Nat.le_of_ble_eq_true rfl, by omega, Nat.le_of_ble_eq_true rfl⟩) | exact Eq.refl true) ?_) | refine Exists.intro _ (And.intro rfl ?_) | refine fun (K' : K3) hK' => ?_ | (refine hK' _ _ _ ?_; clear hK' K') | refine draw_late 7 [8] tok mixed (by decide +kernel) ?_ | refine HD_mk (fun _ h => cloneN_k (by omega) rfl h) ?_ | refine And.intro (And.intro rfl ((congrArg (fun cs => ([⟨_, _, cs⟩] : List E).all _) happ).trans (chk_rowI _ _ _ _))) ?_ | refine CallK.rowF (R := [(0, some 0), (1, some 10)]) (flat_i _) h1' (by kernel_rfl) rfl (by simp [V.wf, A.wf, C.wf, V.i]) ⟨roE_f (flat_u _) (l := 0) rfl (by omega) rfl (.inl rfl), roE_fe (flat_i _) (l := 10) rfl (by omega) rfl (.inl rfl) happ, trivial⟩ rfl ?_ | refine br_bf (Eq.refl false) ?_ | refine CallK.m ?_ | refine And.intro (And.intro rfl rfl) ?_)
                exact rfl
    · have hres : frst (symC (clP qs)) skips (m + 1) fill = none := by rw [hfr]; exact find_none fun r hr => hno r (by omega)
      rw [hres]
      repeat ((conv => whnf); first | refine br_f (by omega) ?_ | refine fun (K' : K3) hK' => ?_ | (refine hK' _ _ _ ?_; clear hK' K'))
      intro ρ; rfl
theorem first_spec (n : Nat) (qs : List (Nat × Nat)) (hk : Knd n qs) (skips : Nat) (hs20 : skips ≤ 20) : ∀ (m : Nat) (fill : List Nat), fill.length + (m + 1) = n →
    Spec Tryd.prog 81 [V.c (.sl 0 n), V.c (.sl 1 fill.length), V.i skips] [⟨0, .ro 0, (tabS n qs).map C.u⟩, ⟨1, .ro 0, (natI fill).map C.i⟩] 2 (fun v L' _ => frQ n (frst (symC (clP qs)) skips (m + 1) fill) v L')
  | 0 => first_step n qs hk skips hs20 0 (fun m' h => by omega)
  | m + 1 => first_step n qs hk skips hs20 (m + 1) (fun m' h => by
    obtain rfl : m' = m := by omega
    exact first_spec n qs hk skips hs20 m')
end Go.Proofs.YtijnimgmpocmaaaDoor

/- Waste: First, walked. -/
namespace Go.Proofs.YtijnimgmpocmaaaDoor
open Go.RowKit
set_option linter.unusedVariables false
set_option linter.unusedSimpArgs false
theorem first_top (n : Nat) (qs : List (Nat × Nat)) (hk : Knd n qs) (skips : Nat) (hs20 : skips ≤ 20) : Spec Tryd.prog 81 [V.c (.sl 0 n), V.c (.sl 1 0), V.i skips] [⟨0, .ro 0, (tabS n qs).map C.u⟩, ⟨1, .ro 0, []⟩] 2 (fun v L' _ => frQ n (frst (symC (clP qs)) skips n []) v L') := by
  have hn := hk.rng
  obtain ⟨m, rfl⟩ : ∃ m, n = m + 1 := ⟨n - 1, by omega⟩
  exact first_spec (m + 1) qs hk skips hs20 m [] (by simp)
set_option maxRecDepth 10000 in
theorem First_err (N z : Int) (ps : List Cell) (hl : ps.length ≤ 100) (he : okK' N ps = false) : Spec Tryd.prog 48 [V.agg [C.i N, C.sl 0 ps.length], V.i z] [⟨0, .ro 2, cellC ps⟩] 1 (Is (V.tup [A.c .nil, A.c (C.i 70)])) := by
  have hnt := newTable_no N ps hl he
  have hE : (70 : Int) ≠ 0 := by omega
  refine Spec.of tok Tryd.func48 rfl rfl rfl fun n0 cx => vc_ok tok ?_
  repeat ((conv => whnf); first | refine Exists.intro _ (And.intro rfl ?_) | refine br_t (by omega) ?_ | refine fun (K' : K3) hK' => ?_ | (refine hK' _ _ _ ?_; clear hK' K') | (refine CallK.val (R := []) hnt (by kernel_rfl) rfl (by simp [V.wf, A.wf, C.wf, V.i]) ⟨roE_f (flat_c _) (l := 0) rfl (by omega) rfl (.inr rfl), trivial⟩ rfl rfl (by first | trivial | simp [V.wf, A.wf, C.wf]) ?_) | refine CallK.m ?_)
  intro ρ; rfl
set_option maxRecDepth 10000 in
theorem First_arg (n : Nat) (z : Int) (qs : List (Nat × Nat)) (hk : Knd n qs) (hz : ¬ (0 ≤ z ∧ z ≤ 20)) : Spec Tryd.prog 48 [V.agg [C.i n, C.sl 0 (castP qs).length], V.i z] [⟨0, .ro 2, cellC (castP qs)⟩] 1 (Is (V.tup [A.c .nil, A.c (C.i 2)])) := by
  have hnt := newTable_spec n qs hk
  have hbt := between_spec 0 z 20
  refine Spec.of tok Tryd.func48 rfl rfl rfl fun n0 cx => vc_ok tok ?_
  repeat ((conv => whnf); first | refine Exists.intro _ (And.intro rfl ?_) | refine br_f (by omega) ?_ | refine fun (K' : K3) hK' => ?_ | (refine hK' _ _ _ ?_; clear hK' K') | refine CallK.rowE (R := []) (flat_u _) hnt (by kernel_rfl) rfl (by simp [V.wf, A.wf, C.wf, V.i]) ⟨roE_f (flat_c _) (l := 0) rfl (by omega) rfl (.inr rfl), trivial⟩ rfl ?_ | (refine CallK.val (R := []) hbt (by kernel_rfl) rfl (by simp [V.wf, A.wf, C.wf, V.i]) trivial rfl rfl (by first | trivial | simp [V.wf, A.wf, C.wf]) ?_) | refine br_bt (nd_t hz) ?_ | refine CallK.m ?_)
  intro ρ; rfl
/-- What First gives. -/
def fsQ (o : Option (List Nat)) (v : V) (L' : List E) : Prop := match o with
  | none => ∀ ρ, v.den ρ = (V.tup [A.c .nil, A.c (C.i 5)]).den ρ
  | some l => rowI l v L'
set_option maxRecDepth 10000 in
theorem First_none (n skips : Nat) (qs : List (Nat × Nat)) (hk : Knd n qs) (hs20 : skips ≤ 20) (ho : frst (symC (clP qs)) skips n [] = none) : Spec Tryd.prog 48 [V.agg [C.i n, C.sl 0 (castP qs).length], V.i skips] [⟨0, .ro 2, cellC (castP qs)⟩] 1 (Is (V.tup [A.c .nil, A.c (C.i 5)])) := by
  have hnt := newTable_spec n qs hk
  have hbt := between_spec 0 skips 20
  have hz : 0 ≤ (skips : Int) ∧ (skips : Int) ≤ 20 := by omega
  have hft := first_top n qs hk skips hs20
  rw [ho] at hft
  have hft' : Spec Tryd.prog 81 [V.c (.sl 0 n), V.c (.sl 1 0), V.i skips] [⟨0, .ro 0, (tabS n qs).map C.u⟩, ⟨1, .ro 0, []⟩] 2 (Is (V.c .nil)) := hft
  refine Spec.of tok Tryd.func48 rfl rfl rfl fun n0 cx => vc_ok tok ?_
  repeat ((conv => whnf); first | refine Exists.intro _ (And.intro rfl ?_) | refine br_f (by omega) ?_ | refine fun (K' : K3) hK' => ?_ | (refine hK' _ _ _ ?_; clear hK' K') | refine CallK.rowE (R := []) (flat_u _) hnt (by kernel_rfl) rfl (by simp [V.wf, A.wf, C.wf, V.i]) ⟨roE_f (flat_c _) (l := 0) rfl (by omega) rfl (.inr rfl), trivial⟩ rfl ?_ | (refine CallK.val (R := []) hbt (by kernel_rfl) rfl (by simp [V.wf, A.wf, C.wf, V.i]) trivial rfl rfl (by first | trivial | simp [V.wf, A.wf, C.wf]) ?_) | refine br_bf (nd_f hz) ?_ | (refine CallK.val (R := [(0, some 2), (1, none)]) hft' (by kernel_rfl) rfl (by simp [V.wf, A.wf, C.wf, V.i]) ⟨roE_f (flat_u _) (l := 2) rfl (by omega) rfl (.inl rfl), roE_none rfl (by omega), trivial⟩ rfl rfl (by first | trivial | simp [V.wf, A.wf, C.wf]) ?_) | refine CallK.m ?_)
  intro ρ; rfl
set_option maxRecDepth 10000 in
theorem First_some (n skips : Nat) (qs : List (Nat × Nat)) (hk : Knd n qs) (hs20 : skips ≤ 20) (l : List Nat) (ho : frst (symC (clP qs)) skips n [] = some l) : Spec Tryd.prog 48 [V.agg [C.i n, C.sl 0 (castP qs).length], V.i skips] [⟨0, .ro 2, cellC (castP qs)⟩] 1 (fun v L' _ => rowI l v L') := by
  have hn := hk.rng
  have hnt := newTable_spec n qs hk
  have hbt := between_spec 0 skips 20
  have hz : 0 ≤ (skips : Int) ∧ (skips : Int) ≤ 20 := by omega
  have hft := first_top n qs hk skips hs20
  rw [ho] at hft
  have hll := frst_sound' ho
  have hll : l.length = n := by simpa using hll
  have hpos : 0 < ((natI l).map C.i).length := by rw [List.length_map, natI_len]; omega
  have hft' : Spec Tryd.prog 81 [V.c (.sl 0 n), V.c (.sl 1 0), V.i skips] [⟨0, .ro 0, (tabS n qs).map C.u⟩, ⟨1, .ro 0, []⟩] 2 (fun v L' _ => ∃ lab, v = V.c (.sl lab n) ∧ find L' lab = some ⟨lab, .vec 3 1, (natI l).map C.i⟩) := hft
  subst hll
  refine Spec.of tok Tryd.func48 rfl rfl rfl fun n0 cx => vc_ok tok ?_
  repeat ((conv => whnf); first | refine And.intro (by omega) ?_ | refine Exists.intro _ (And.intro rfl ?_) | refine br_f (by omega) ?_ | refine fun (K' : K3) hK' => ?_ | (refine hK' _ _ _ ?_; clear hK' K') | refine CallK.rowE (R := []) (flat_u _) hnt (by kernel_rfl) rfl (by simp [V.wf, A.wf, C.wf, V.i]) ⟨roE_f (flat_c _) (l := 0) rfl (by omega) rfl (.inr rfl), trivial⟩ rfl ?_ | (refine CallK.val (R := []) hbt (by kernel_rfl) rfl (by simp [V.wf, A.wf, C.wf, V.i]) trivial rfl rfl (by first | trivial | simp [V.wf, A.wf, C.wf]) ?_) | refine br_bf (nd_f hz) ?_ | refine CallK.rowF (R := [(0, some 2), (1, none)]) (flat_i _) hft' (by kernel_rfl) rfl (by simp [V.wf, A.wf, C.wf, V.i]) ⟨roE_f (flat_u _) (l := 2) rfl (by omega) rfl (.inl rfl), roE_none rfl (by omega), trivial⟩ rfl ?_ | refine CallK.m ?_)
  exact rfl
end Go.Proofs.YtijnimgmpocmaaaDoor

/- Waste: Line, walked: what is refused. -/
namespace Go.Proofs.YtijnimgmpocmaaaDoor
open Go.RowKit
set_option linter.unusedVariables false
set_option linter.unusedSimpArgs false
theorem CallX.compactN {n0 nx l n : Nat} {q : List Int} (he : q.length = n) (hq : 1 ≤ q.length) (hn : q.length ≤ 1000) (hlx : l < nx) : CallX Tryd.prog n0 85 l n ⟨l, .vec 3 1, q.map C.i⟩ nx (V.c (.sl nx (Lib.compact q).length)) [⟨nx, .vec 3 1, (Lib.compact q).map C.i⟩] := by
  subst he; exact CallX.compact hq hn hlx
set_option maxRecDepth 10000 in
theorem Line_err (N : Int) (ps : List Cell) (zs : List Int) (hl : ps.length ≤ 100) (he : okK' N ps = false) : Spec Tryd.prog 52 [V.agg [C.i N, C.sl 0 ps.length], V.c (.sl 1 zs.length)] [⟨0, .ro 2, cellC ps⟩, ⟨1, .ro 0, zs.map C.i⟩] 2 (Is (V.tup [A.c .nil, A.c (C.i 70)])) := by
  have hnt := newTable_no N ps hl he
  have hE : (70 : Int) ≠ 0 := by omega
  refine Spec.of tok Tryd.func52 rfl rfl rfl fun n0 cx => vc_ok tok ?_
  repeat ((conv => whnf); first | (refine And.intro (by first | omega | exact Nat.le_of_ble_eq_true rfl | (dsimp only [inK]; omega) | (simp only [mulS_eq]; omega) | (simp only [mulS_eq, setL_length]; omega) | (simp only [setL_length]; omega) | (simp only [setL_length, List.length_map]; omega) | (exact ⟨by omega, by omega, by first | exact Nat.le_of_ble_eq_true rfl | (dsimp only; omega) | (simp only [setL_length]; omega) | (simp only [setL_length, List.length_map]; omega)⟩) | (exact ⟨by omega, by first | rfl | omega, by omega, Nat.le_of_ble_eq_true rfl, Nat.le_of_ble_eq_true rfl⟩) | (exact ⟨rfl, rfl, rfl, Nat.le_of_ble_eq_true rfl, by first | rfl | omega | exact Nat.le_of_ble_eq_true rfl | (dsimp only; omega) | (simp; done) | (simp; omega), by first | rfl | omega | exact Nat.le_of_ble_eq_true rfl | (dsimp only; omega) | (simp; done) | (simp; omega), by omega, Nat.le_of_ble_eq_true rfl⟩) | exact Eq.refl true) ?_) | refine Exists.intro _ (And.intro rfl ?_) | refine And.intro (And.intro rfl (chk_rowI _ _ _ _)) ?_ | refine br_t (by omega) ?_ | refine br_f (by omega) ?_ | refine bs_t (by omega) ?_ | refine bs_f (by omega) ?_ | refine fun (K' : K3) hK' => ?_ | (refine hK' _ _ _ ?_; clear hK' K') | refine draw_auto tok mixed (by kernel_rfl) ?_ | (refine CallK.val (R := []) hnt (by kernel_rfl) rfl (by simp [V.wf, A.wf, C.wf, V.i]) ⟨roE_f (flat_c _) (l := 0) rfl (by omega) rfl (.inr rfl), trivial⟩ rfl rfl (by first | trivial | simp [V.wf, A.wf, C.wf]) ?_) | refine br_t hE ?_ | refine bs_bt (Eq.refl true) ?_ | refine bs_bf (Eq.refl false) ?_ | refine br_bt (Eq.refl true) ?_ | refine br_bf (Eq.refl false) ?_ | refine CallK.m ?_ | refine Two.l ?_ | refine And.intro (And.intro rfl rfl) ?_)
  intro ρ; rfl
set_option maxRecDepth 10000 in
set_option maxHeartbeats 4000000 in
theorem Line_len (n : Nat) (qs : List (Nat × Nat)) (hk : Knd n qs) (zs : List Int) (hz : zs.length ≤ 1000) (hl : zs.length ≠ n) : Spec Tryd.prog 52 [V.agg [C.i n, C.sl 0 (castP qs).length], V.c (.sl 1 zs.length)] [⟨0, .ro 2, cellC (castP qs)⟩, ⟨1, .ro 0, zs.map C.i⟩] 2 (Is (V.tup [A.c .nil, A.c (C.i 2)])) := by
  have hnt := newTable_spec n qs hk
  have hso := sorted_spec zs hz
  have hl2 : ((zs.length : Nat) : Int) ≠ (n : Nat) := by omega
  refine Spec.of tok Tryd.func52 rfl rfl rfl fun n0 cx => vc_ok tok ?_
  repeat ((conv => whnf); first | (refine And.intro (by first | omega | exact Nat.le_of_ble_eq_true rfl | (dsimp only [inK]; omega) | (simp only [mulS_eq]; omega) | (simp only [mulS_eq, setL_length]; omega) | (simp only [setL_length]; omega) | (simp only [setL_length, List.length_map]; omega) | (exact ⟨by omega, by omega, by first | exact Nat.le_of_ble_eq_true rfl | (dsimp only; omega) | (simp only [setL_length]; omega) | (simp only [setL_length, List.length_map]; omega)⟩) | (exact ⟨by omega, by first | rfl | omega, by omega, Nat.le_of_ble_eq_true rfl, Nat.le_of_ble_eq_true rfl⟩) | (exact ⟨rfl, rfl, rfl, Nat.le_of_ble_eq_true rfl, by first | rfl | omega | exact Nat.le_of_ble_eq_true rfl | (dsimp only; omega) | (simp; done) | (simp; omega), by first | rfl | omega | exact Nat.le_of_ble_eq_true rfl | (dsimp only; omega) | (simp; done) | (simp; omega), by omega, Nat.le_of_ble_eq_true rfl⟩) | exact Eq.refl true) ?_) | refine Exists.intro _ (And.intro rfl ?_) | refine And.intro (And.intro rfl (chk_rowI _ _ _ _)) ?_ | refine br_t (by omega) ?_ | refine br_f (by omega) ?_ | refine bs_t (by omega) ?_ | refine bs_f (by omega) ?_ | refine fun (K' : K3) hK' => ?_ | (refine hK' _ _ _ ?_; clear hK' K') | refine CallM.eq (by kernel_rfl) (values_spec _ _ _ _) ?_ | refine draw_auto tok mixed (by kernel_rfl) ?_ | refine CallK.rowE (R := []) (flat_u _) hnt (by kernel_rfl) rfl (by simp [V.wf, A.wf, C.wf, V.i]) ⟨roE_f (flat_c _) (l := 0) rfl (by omega) rfl (.inr rfl), trivial⟩ rfl ?_ | refine CallK.rowF (R := [(0, some 5), (1, some 1)]) (flat_i _) hso (by kernel_rfl) rfl (by simp [V.wf, A.wf, C.wf]) ⟨roE_x (l := 5) rfl (by omega) (by simp [C.wf]) rfl (.inl rfl) rfl, roE_f (flat_i _) (l := 1) rfl (by omega) rfl (.inl rfl), trivial⟩ rfl ?_ | refine bs_t hl2 ?_ | refine br_t hl2 ?_ | refine bs_bt (Eq.refl true) ?_ | refine bs_bf (Eq.refl false) ?_ | refine br_bt (Eq.refl true) ?_ | refine br_bf (Eq.refl false) ?_ | refine CallK.m ?_ | refine Two.l ?_ | refine And.intro (And.intro rfl rfl) ?_)
  intro ρ; rfl
set_option maxRecDepth 10000 in
set_option maxHeartbeats 8000000 in
theorem Line_srt (n : Nat) (qs : List (Nat × Nat)) (hk : Knd n qs) (zs : List Int) (hl : zs.length = n) (hb : srtB n (srtL zs) = false) : Spec Tryd.prog 52 [V.agg [C.i n, C.sl 0 (castP qs).length], V.c (.sl 1 zs.length)] [⟨0, .ro 2, cellC (castP qs)⟩, ⟨1, .ro 0, zs.map C.i⟩] 2 (Is (V.tup [A.c .nil, A.c (C.i 2)])) := by
  have hn := hk.rng
  have hnt := newTable_spec n qs hk
  have hso := sorted_spec zs (by omega)
  have hl2 : ¬ ((zs.length : Nat) : Int) ≠ (n : Nat) := by omega
  have hsl := srtL_len zs
  have hcl := cpt_le (srtL zs)
  obtain ⟨s, hs⟩ : ∃ s, s = srtL zs := ⟨_, rfl⟩
  rw [← hs] at hso hsl hcl hb
  have hl0 : (s.map C.i)[mulS ((0 : Int)).toNat 1]? = some (C.i (s.getD 0 0)) := intLz (k := 0) rfl (by omega)
  have hl1 : (s.map C.i)[mulS (((n : Nat) : Int) - 1).toNat 1]? = some (C.i (s.getD (n - 1) 0)) := intLz (k := n - 1) (by omega) (by omega)
  have hsm : (s.map C.i).length = n := by rw [List.length_map]; omega
  refine Spec.of tok Tryd.func52 rfl rfl rfl fun n0 cx => vc_ok tok ?_
  by_cases h0 : s.getD 0 0 ≠ 0
  · repeat ((conv => whnf); first | (refine And.intro (by first | omega | exact Nat.le_of_ble_eq_true rfl | (dsimp only [inK]; omega) | (simp only [mulS_eq]; omega) | (simp only [mulS_eq, setL_length]; omega) | (simp only [setL_length]; omega) | (simp only [setL_length, List.length_map]; omega) | (exact ⟨by omega, by omega, by first | exact Nat.le_of_ble_eq_true rfl | (dsimp only; omega) | (simp only [setL_length]; omega) | (simp only [setL_length, List.length_map]; omega)⟩) | (exact ⟨by omega, by first | rfl | omega, by omega, Nat.le_of_ble_eq_true rfl, Nat.le_of_ble_eq_true rfl⟩) | (exact ⟨rfl, rfl, rfl, Nat.le_of_ble_eq_true rfl, by first | rfl | omega | exact Nat.le_of_ble_eq_true rfl | (dsimp only; omega) | (simp; done) | (simp; omega), by first | rfl | omega | exact Nat.le_of_ble_eq_true rfl | (dsimp only; omega) | (simp; done) | (simp; omega), by omega, Nat.le_of_ble_eq_true rfl⟩) | exact Eq.refl true) ?_) | with_reducible refine ld (hl0) ?_ | refine Exists.intro _ (And.intro rfl ?_) | refine And.intro (And.intro rfl (chk_rowI _ _ _ _)) ?_ | refine br_t (by omega) ?_ | refine br_f (by omega) ?_ | refine bs_t (by omega) ?_ | refine bs_f (by omega) ?_ | refine fun (K' : K3) hK' => ?_ | (refine hK' _ _ _ ?_; clear hK' K') | refine CallM.eq (by kernel_rfl) (values_spec _ _ _ _) ?_ | refine draw_auto tok mixed (by kernel_rfl) ?_ | refine CallK.rowE (R := []) (flat_u _) hnt (by kernel_rfl) rfl (by simp [V.wf, A.wf, C.wf, V.i]) ⟨roE_f (flat_c _) (l := 0) rfl (by omega) rfl (.inr rfl), trivial⟩ rfl ?_ | refine CallK.rowF (R := [(0, some 5), (1, some 1)]) (flat_i _) hso (by kernel_rfl) rfl (by simp [V.wf, A.wf, C.wf]) ⟨roE_x (l := 5) rfl (by omega) (by simp [C.wf]) rfl (.inl rfl) rfl, roE_f (flat_i _) (l := 1) rfl (by omega) rfl (.inl rfl), trivial⟩ rfl ?_ | refine bs_f hl2 ?_ | refine br_f hl2 ?_ | refine bs_t h0 ?_ | refine br_t h0 ?_ | refine bs_bt (Eq.refl true) ?_ | refine bs_bf (Eq.refl false) ?_ | refine br_bt (Eq.refl true) ?_ | refine br_bf (Eq.refl false) ?_ | refine CallK.m ?_ | refine Two.l ?_ | refine And.intro (And.intro rfl rfl) ?_)
    intro ρ; rfl
  · by_cases h1 : s.getD (n - 1) 0 ≠ ((n : Nat) : Int) - 1
    · repeat ((conv => whnf); first | (refine And.intro (by first | omega | exact Nat.le_of_ble_eq_true rfl | (dsimp only [inK]; omega) | (simp only [mulS_eq]; omega) | (simp only [mulS_eq, setL_length]; omega) | (simp only [setL_length]; omega) | (simp only [setL_length, List.length_map]; omega) | (exact ⟨by omega, by omega, by first | exact Nat.le_of_ble_eq_true rfl | (dsimp only; omega) | (simp only [setL_length]; omega) | (simp only [setL_length, List.length_map]; omega)⟩) | (exact ⟨by omega, by first | rfl | omega, by omega, Nat.le_of_ble_eq_true rfl, Nat.le_of_ble_eq_true rfl⟩) | (exact ⟨rfl, rfl, rfl, Nat.le_of_ble_eq_true rfl, by first | rfl | omega | exact Nat.le_of_ble_eq_true rfl | (dsimp only; omega) | (simp; done) | (simp; omega), by first | rfl | omega | exact Nat.le_of_ble_eq_true rfl | (dsimp only; omega) | (simp; done) | (simp; omega), by omega, Nat.le_of_ble_eq_true rfl⟩) | exact Eq.refl true) ?_) | with_reducible refine ld (hl0) ?_ | with_reducible refine ld (hl1) ?_ | refine Exists.intro _ (And.intro rfl ?_) | refine And.intro (And.intro rfl (chk_rowI _ _ _ _)) ?_ | refine br_t (by omega) ?_ | refine br_f (by omega) ?_ | refine bs_t (by omega) ?_ | refine bs_f (by omega) ?_ | refine fun (K' : K3) hK' => ?_ | (refine hK' _ _ _ ?_; clear hK' K') | refine CallM.eq (by kernel_rfl) (values_spec _ _ _ _) ?_ | refine draw_auto tok mixed (by kernel_rfl) ?_ | refine CallK.rowE (R := []) (flat_u _) hnt (by kernel_rfl) rfl (by simp [V.wf, A.wf, C.wf, V.i]) ⟨roE_f (flat_c _) (l := 0) rfl (by omega) rfl (.inr rfl), trivial⟩ rfl ?_ | refine CallK.rowF (R := [(0, some 5), (1, some 1)]) (flat_i _) hso (by kernel_rfl) rfl (by simp [V.wf, A.wf, C.wf]) ⟨roE_x (l := 5) rfl (by omega) (by simp [C.wf]) rfl (.inl rfl) rfl, roE_f (flat_i _) (l := 1) rfl (by omega) rfl (.inl rfl), trivial⟩ rfl ?_ | refine bs_f hl2 ?_ | refine br_f hl2 ?_ | refine bs_f h0 ?_ | refine br_f h0 ?_ | refine bs_t h1 ?_ | refine br_t h1 ?_ | refine bs_bt (Eq.refl true) ?_ | refine bs_bf (Eq.refl false) ?_ | refine br_bt (Eq.refl true) ?_ | refine br_bf (Eq.refl false) ?_ | refine CallK.m ?_ | refine Two.l ?_ | refine And.intro (And.intro rfl rfl) ?_)
      intro ρ; rfl
    · have h2 : (((Lib.compact s).length : Nat) : Int) ≠ (n : Nat) := by
        intro h2
        have : srtB n s = true := by
          simp only [srtB, Bool.and_eq_true, decide_eq_true_iff]
          exact ⟨⟨by omega, by omega⟩, by omega⟩
        rw [this] at hb; cases hb
      repeat ((conv => whnf); first | (refine And.intro (by first | omega | exact Nat.le_of_ble_eq_true rfl | (dsimp only [inK]; omega) | (simp only [mulS_eq]; omega) | (simp only [mulS_eq, setL_length]; omega) | (simp only [setL_length]; omega) | (simp only [setL_length, List.length_map]; omega) | (exact ⟨by omega, by omega, by first | exact Nat.le_of_ble_eq_true rfl | (dsimp only; omega) | (simp only [setL_length]; omega) | (simp only [setL_length, List.length_map]; omega)⟩) | (exact ⟨by omega, by first | rfl | omega, by omega, Nat.le_of_ble_eq_true rfl, Nat.le_of_ble_eq_true rfl⟩) | (exact ⟨rfl, rfl, rfl, Nat.le_of_ble_eq_true rfl, by first | rfl | omega | exact Nat.le_of_ble_eq_true rfl | (dsimp only; omega) | (simp; done) | (simp; omega), by first | rfl | omega | exact Nat.le_of_ble_eq_true rfl | (dsimp only; omega) | (simp; done) | (simp; omega), by omega, Nat.le_of_ble_eq_true rfl⟩) | exact Eq.refl true) ?_) | with_reducible refine ld (hl0) ?_ | with_reducible refine ld (hl1) ?_ | refine Exists.intro _ (And.intro rfl ?_) | refine And.intro (And.intro rfl (chk_rowI _ _ _ _)) ?_ | refine br_t (by omega) ?_ | refine br_f (by omega) ?_ | refine bs_t (by omega) ?_ | refine bs_f (by omega) ?_ | refine fun (K' : K3) hK' => ?_ | (refine hK' _ _ _ ?_; clear hK' K') | refine CallM.eq (by kernel_rfl) (values_spec _ _ _ _) ?_ | refine draw_kill [6] tok mixed (by decide +kernel) ?_ | refine draw_auto tok mixed (by kernel_rfl) ?_ | refine CallK.rowE (R := []) (flat_u _) hnt (by kernel_rfl) rfl (by simp [V.wf, A.wf, C.wf, V.i]) ⟨roE_f (flat_c _) (l := 0) rfl (by omega) rfl (.inr rfl), trivial⟩ rfl ?_ | refine CallK.rowF (R := [(0, some 5), (1, some 1)]) (flat_i _) hso (by kernel_rfl) rfl (by simp [V.wf, A.wf, C.wf]) ⟨roE_x (l := 5) rfl (by omega) (by simp [C.wf]) rfl (.inl rfl) rfl, roE_f (flat_i _) (l := 1) rfl (by omega) rfl (.inl rfl), trivial⟩ rfl ?_ | refine bs_f hl2 ?_ | refine br_f hl2 ?_ | refine bs_f h0 ?_ | refine br_f h0 ?_ | refine bs_f h1 ?_ | refine br_f h1 ?_ | refine X_mk (CallX.compactN (q := s) hsl (by omega) (by omega) (by omega)) (Eq.refl true) ?_ | refine bs_t h2 ?_ | refine br_t h2 ?_ | refine bs_bt (Eq.refl true) ?_ | refine bs_bf (Eq.refl false) ?_ | refine br_bt (Eq.refl true) ?_ | refine br_bf (Eq.refl false) ?_ | refine CallK.m ?_ | refine Two.l ?_ | refine And.intro (And.intro rfl rfl) ?_)
      intro ρ; rfl
end Go.Proofs.YtijnimgmpocmaaaDoor

/- Waste: Line, walked. -/
namespace Go.Proofs.YtijnimgmpocmaaaDoor
open Go.RowKit
set_option linter.unusedVariables false
set_option linter.unusedSimpArgs false
theorem flat_i1 (x : Int) : FlatC [C.i x] := fun c hc => ⟨_, _, List.mem_singleton.1 hc⟩
theorem Gps.u8 {cl : Nat → Nat → Bool} {n : Nat} {os : List Nat} {k : Nat} {gs : List Nat} (hg : Gps cl os k gs) (ho : Ord n os) (hn : n ≤ 8) : ∀ g ∈ gs, g < 256 := fun g hm => by
  obtain ⟨i, hi, rfl⟩ := List.mem_iff_getElem.1 hm
  refine Nat.lt_pow_two_of_testBit (n := 8) _ fun b hb => ?_
  rw [Bool.eq_false_iff]
  intro h
  have h1 := (hg.mem i hi b).1 (by simpa [List.getD_eq_getElem?_getD, hi] using h)
  have h2 := ho.2.1 b (List.mem_of_mem_take h1.1)
  omega
/-- The groups, as the program has them. -/
def gsF (cl : Nat → Nat → Bool) (os : List Nat) : Nat → List Nat
  | 0 => []
  | k + 1 => if mexS cl (lnF cl os k) (os.take k) (os.getD k 0) < (gsF cl os k).length then (gsF cl os k).set (mexS cl (lnF cl os k) (os.take k) (os.getD k 0)) ((gsF cl os k).getD (mexS cl (lnF cl os k) (os.take k) (os.getD k 0)) 0 ||| 2 ^ os.getD k 0)
    else (gsF cl os k ++ [0]).set (gsF cl os k).length (0 ||| 2 ^ os.getD k 0)
theorem gsF_gps {cl : Nat → Nat → Bool} {n : Nat} {os : List Nat} (ho : Ord n os) : ∀ k, k ≤ n → Gps cl os k (gsF cl os k)
  | 0, _ => Gps.zero
  | k + 1, hk => by
    have ih := gsF_gps (cl := cl) ho k (by omega)
    unfold gsF
    split
    · rename_i h; exact ih.put ho (by omega) h rfl
    · rename_i h
      refine ih.app ho (by omega) ?_
      obtain ⟨m1, _, m3⟩ := mexS_spec cl (lnF cl os k) (os.take k) (os.getD k 0)
      have hov := ih.over (a := os.getD k 0) (i := (gsF cl os k).length) (Nat.le_refl _)
      rcases Nat.lt_trichotomy (gsF cl os k).length (mexS cl (lnF cl os k) (os.take k) (os.getD k 0)) with h1 | h1 | h1
      · rw [m3 _ h1] at hov; cases hov
      · exact h1
      · exact absurd h1 h
theorem indexS_k {n0 nx a n : Nat} {L : List E} {K : V → List E → Nat → Prop} {t gs : List Nat} {k1 k2 k3 : Kd} {lg lt la lr : Nat} (htl : t.length = n) (ha : a < n) (ht : ∀ x ∈ t, x < 256) (hgl : gs.length ≤ 300) (hg : ∀ x ∈ gs, x < 256)
    (h1 : find L lg = some ⟨lg, k1, gs.map C.u⟩) (h2 : find L lt = some ⟨lt, k2, [.sl lr n]⟩) (h3 : find L la = some ⟨la, k3, [C.i a]⟩) (h4 : find L lr = some ⟨lr, .vec 75 1, t.map C.u⟩) (hL : injB [(0, some lg), (1, some lt), (2, some la), (3, some lr)] [] = true)
    (hK : K (V.i (idxU gs fun g => decide (t.getD a 0 &&& g = 0))) [] nx) : CallK Tryd.prog n0 86 [V.c (.sl lg gs.length), V.c (.fn 87 [(lt, 0), (la, 0)])] L nx K := by
  refine CallK.val (R := [(0, some lg), (1, some lt), (2, some la), (3, some lr)]) (indexS_spec t n a gs htl ha ht hgl hg) (by kernel_rfl) rfl (by simp [V.wf, A.wf, C.wf]; omega) ⟨roE_f (flat_u _) (l := lg) rfl (by omega) h1 (.inl rfl), roE_x (l := lt) rfl (by omega) (by simp [C.wf]) h2 (.inl rfl) rfl, roE_f (flat_i1 _) (l := la) rfl (by omega) h3 (.inl rfl), roE_f (flat_u _) (l := lr) rfl (by omega) h4 (.inl rfl), trivial⟩ rfl rfl trivial hK
set_option maxRecDepth 10000 in
set_option maxHeartbeats 16000000 in
theorem Line_spec (n : Nat) (qs : List (Nat × Nat)) (hk : Knd n qs) (os : List Nat) (ho : Ord n os) : Spec Tryd.prog 52 [V.agg [C.i n, C.sl 0 (castP qs).length], V.c (.sl 1 n)] [⟨0, .ro 2, cellC (castP qs)⟩, ⟨1, .ro 0, (natI os).map C.i⟩] 2 (fun v L' _ => ∃ lab, v = V.tup [A.c (.sl lab n), A.c (C.i 0)] ∧ find L' lab = some ⟨lab, .vec 3 1, (fnL (fun x => ((lnF (symC (clP qs)) os n x : Nat) : Int)) n).map C.i⟩) := by
  have hn := hk.rng
  have hol := ho.1
  have hzl : (natI os).length = n := by rw [natI_len, hol]
  have hnt := newTable_spec n qs hk
  have hso := sorted_spec (natI os) (by omega)
  have hsb : srtB n (srtL (natI os)) = true := by rw [srtB_ord hn.1 hzl]; exact ordB_of ho
  have hsl := srtL_len (natI os)
  have hl2 : ¬ ((n : Nat) : Int) ≠ (n : Nat) := by omega
  obtain ⟨s, hs⟩ : ∃ s, s = srtL (natI os) := ⟨_, rfl⟩
  rw [← hs] at hso hsl hsb
  rw [hzl] at hso hsl
  simp only [srtB, Bool.and_eq_true, decide_eq_true_iff] at hsb
  obtain ⟨⟨hs0, hs1⟩, hs2⟩ := hsb
  have hl0 : (s.map C.i)[mulS ((0 : Int)).toNat 1]? = some (C.i (s.getD 0 0)) := intLz (k := 0) rfl (by omega)
  have hl1 : (s.map C.i)[mulS (((n : Nat) : Int) - 1).toNat 1]? = some (C.i (s.getD (n - 1) 0)) := intLz (k := n - 1) (by omega) (by omega)
  have hsm : (s.map C.i).length = n := by rw [List.length_map]; omega
  have h0 : ¬ s.getD 0 0 ≠ 0 := fun h => h hs0
  have h1 : ¬ s.getD (n - 1) 0 ≠ ((n : Nat) : Int) - 1 := fun h => h hs1
  have h2 : ¬ (((Lib.compact s).length : Nat) : Int) ≠ (n : Nat) := by omega
  have hts := tabS_256 hk
  have htl := tabS_len n qs
  refine Spec.of tok Tryd.func52 rfl rfl rfl fun n0 cx => vc_ok tok ?_
  repeat ((conv => whnf); first | (refine And.intro (by first | omega | exact Nat.le_of_ble_eq_true rfl | (dsimp only [inK]; omega) | (simp only [mulS_eq]; omega) | (simp only [mulS_eq, setL_length]; omega) | (simp only [setL_length]; omega) | (simp only [setL_length, List.length_map]; omega) | (exact ⟨by omega, by omega, by first | exact Nat.le_of_ble_eq_true rfl | (dsimp only; omega) | (simp only [setL_length]; omega) | (simp only [setL_length, List.length_map]; omega)⟩) | (exact ⟨by omega, by first | rfl | omega, by omega, Nat.le_of_ble_eq_true rfl, Nat.le_of_ble_eq_true rfl⟩) | (exact ⟨rfl, rfl, rfl, Nat.le_of_ble_eq_true rfl, by first | rfl | omega | exact Nat.le_of_ble_eq_true rfl | (dsimp only; omega) | (simp; done) | (simp; omega), by first | rfl | omega | exact Nat.le_of_ble_eq_true rfl | (dsimp only; omega) | (simp; done) | (simp; omega), by omega, Nat.le_of_ble_eq_true rfl⟩) | exact Eq.refl true) ?_) | with_reducible refine ld (hl0) ?_ | with_reducible refine ld (hl1) ?_ | refine Exists.intro _ (And.intro rfl ?_) | refine And.intro (And.intro rfl (chk_rowI _ _ _ _)) ?_ | refine br_t (by omega) ?_ | refine br_f (by omega) ?_ | refine bs_t (by omega) ?_ | refine bs_f (by omega) ?_ | refine fun (K' : K3) hK' => ?_ | (refine hK' _ _ _ ?_; clear hK' K') | refine CallM.eq (by kernel_rfl) (values_spec _ _ _ _) ?_ | refine draw_kill [6] tok mixed (by decide +kernel) ?_ | refine draw_auto tok mixed (by kernel_rfl) ?_ | refine CallK.rowE (R := []) (flat_u _) hnt (by kernel_rfl) rfl (by simp [V.wf, A.wf, C.wf, V.i]) ⟨roE_f (flat_c _) (l := 0) rfl (by omega) rfl (.inr rfl), trivial⟩ rfl ?_ | refine CallK.rowF (R := [(0, some 5), (1, some 1)]) (flat_i _) hso (by kernel_rfl) rfl (by simp [V.wf, A.wf, C.wf]) ⟨roE_x (l := 5) rfl (by omega) (by simp [C.wf]) rfl (.inl rfl) rfl, roE_f (flat_i _) (l := 1) rfl (by omega) rfl (.inl rfl), trivial⟩ rfl ?_ | refine bs_f hl2 ?_ | refine br_f hl2 ?_ | refine bs_f h0 ?_ | refine br_f h0 ?_ | refine bs_f h1 ?_ | refine br_f h1 ?_ | refine X_mk (CallX.compactN (q := s) hsl (by omega) (by omega) (by omega)) (Eq.refl true) ?_ | refine bs_f h2 ?_ | refine br_f h2 ?_ | refine bs_bt (Eq.refl true) ?_ | refine bs_bf (Eq.refl false) ?_ | refine br_bt (Eq.refl true) ?_ | refine br_bf (Eq.refl false) ?_ | refine CallK.m ?_ | refine Two.l ?_ | refine And.intro (And.intro rfl rfl) ?_)
  have hzr : repC ((n : Nat) : Int).toNat [C.int .i64 0] = (fnL (fun x => ((lnF (symC (clP qs)) os 0 x : Nat) : Int)) n).map C.i := by rw [Int.toNat_natCast, repI, fnL_zero]; rfl
  refine Tri.loop (γ := Nat) (fun k => k ≤ n) (fun k => [(6, V.c (.ptr 4 0)), (9, V.c (.sl 9 (gsF (symC (clP qs)) os k).length)), (10, V.c (.sl 8 n)), (59, V.c (.sl 1 n)), (60, V.i n), (61, V.i (k : Nat))])
    (fun k => [⟨9, .vec 75 1, (gsF (symC (clP qs)) os k).map C.u⟩, ⟨8, .vec 3 1, (fnL (fun x => ((lnF (symC (clP qs)) os k x : Nat) : Int)) n).map C.i⟩, ⟨4, .own 61, [.sl 3 n]⟩, ⟨3, .vec 75 1, (tabS n qs).map C.u⟩, ⟨1, .ro 0, (natI os).map C.i⟩]) 10 (fun k => n - k) 0 (R0 := [(9, none)]) ?_ ?_ ?_
  · exact Nat.zero_le _
  · skip
    refine ⟨?_, ?_, rfl, rfl, by first | exact Nat.le_of_ble_eq_true rfl | exact Nat.le_refl _ | omega⟩
    · repeat (first | exact trivial | (refine And.intro (covS_syn (by rfl) rfl (by first | exact trivial | exact Nat.le_of_ble_eq_true rfl | exact hy | (first | ((show ∀ p ∈ (_ : List (Nat × Nat)), p.1 < _); decide) | exact (fun p hp => nomatch hp)) | (show (_ : Nat) < _; omega))) ?_) | refine And.intro (covS_bool rfl rfl (by rfl)) ?_)
    · repeat (first | exact trivial | refine And.intro ⟨Nat.le_of_ble_eq_true rfl, by simp [C.wf], _, _, rfl, .inl rfl, fun ρ => rfl⟩ ?_ | refine And.intro (covE_i rfl (Nat.le_of_ble_eq_true rfl) rfl hzr) ?_ | refine And.intro (covE_some rfl (Nat.le_of_ble_eq_true rfl) (by simp [C.wf]) rfl rfl) ?_ | refine And.intro (covE_u rfl (Nat.le_of_ble_eq_true rfl) rfl rfl) ?_ | refine And.intro (covE_i rfl (Nat.le_of_ble_eq_true rfl) rfl rfl) ?_ | refine And.intro (covE_nil rfl (Nat.le_of_ble_eq_true rfl) rfl rfl) ?_ | (refine And.intro (covE_some rfl (Nat.le_of_ble_eq_true rfl) (by first | exact wf_ints _ _ | exact wf_bools _ _ | first | exact wf_us _ _ | exact wf_cells _ _ | exact wf_ints _ _ | (simp [C.wf]; done) | simp [C.wf]) rfl (by first | exact ren_ints _ _ | exact ren_bools _ _ | exact ren_shares _ _ | rfl)) ?_))
  · intro k hkn
    have hg := gsF_gps (cl := symC (clP qs)) ho k hkn
    refine vc_ok tok ?_
    by_cases hkl : k < n
    · have hgu : gsF (symC (clP qs)) os (k + 1) = if mexS (symC (clP qs)) (lnF (symC (clP qs)) os k) (os.take k) (os.getD k 0) < (gsF (symC (clP qs)) os k).length then (gsF (symC (clP qs)) os k).set (mexS (symC (clP qs)) (lnF (symC (clP qs)) os k) (os.take k) (os.getD k 0)) ((gsF (symC (clP qs)) os k).getD (mexS (symC (clP qs)) (lnF (symC (clP qs)) os k) (os.take k) (os.getD k 0)) 0 ||| 2 ^ os.getD k 0)
          else (gsF (symC (clP qs)) os k ++ [0]).set (gsF (symC (clP qs)) os k).length (0 ||| 2 ^ os.getD k 0) := rfl
      obtain ⟨gs, hgs⟩ : ∃ gs, gs = gsF (symC (clP qs)) os k := ⟨_, rfl⟩
      rw [← hgs] at hg hgu ⊢
      have hg8 := hg.u8 ho hn.2
      have hgl := hg.len
      have ha := ho.at hkl
      have hla : ((natI os).map C.i)[mulS ((k : Nat) : Int).toNat 1]? = some (C.i ((os.getD k 0 : Nat) : Int)) := by rw [intLz rfl (by omega), natI_get (by omega)]
      have hmx := idxU_mex hg (t := (tabS n qs).getD (os.getD k 0) 0) (a := os.getD k 0) (fun b => tabS_cl hk _ b)
      have hfs : fnL (fun x => ((lnF (symC (clP qs)) os (k + 1) x : Nat) : Int)) n = (fnL (fun x => ((lnF (symC (clP qs)) os k x : Nat) : Int)) n).set (os.getD k 0) ((mexS (symC (clP qs)) (lnF (symC (clP qs)) os k) (os.take k) (os.getD k 0) : Nat) : Int) := by
        rw [fnL_set]
        refine fnL_congr fun x _ => ?_
        show (((if x = os.getD k 0 then _ else _) : Nat) : Int) = _
        split <;> rfl
      have hol1 : ((fnL (fun x => ((lnF (symC (clP qs)) os k x : Nat) : Int)) n).map C.i).length = n := by rw [List.length_map, fnL_len]
      obtain ⟨m, hm⟩ : ∃ m, m = mexS (symC (clP qs)) (lnF (symC (clP qs)) os k) (os.take k) (os.getD k 0) := ⟨_, rfl⟩
      rw [← hm] at hmx hfs hgu
      obtain ⟨a, hae⟩ : ∃ a, a = os.getD k 0 := ⟨_, rfl⟩
      rw [← hae] at ha hla hmx hgu hfs
      have hset : setL ((fnL (fun x => ((lnF (symC (clP qs)) os k x : Nat) : Int)) n).map C.i) (mulS ((a : Nat) : Int).toNat 1) [C.i (m : Nat)] = (fnL (fun x => ((lnF (symC (clP qs)) os (k + 1) x : Nat) : Int)) n).map C.i := by rw [setI rfl, hfs]
      rcases hmx with ⟨hm1, hm2⟩ | ⟨hm1, hm2⟩
      · have hi0 : ¬ ((m : Nat) : Int) < 0 := by omega
        have hgm8 : gs.getD m 0 < 256 := getD_lt (by omega) hg8 _
        have hlg : (gs.map C.u)[mulS ((m : Nat) : Int).toNat 1]? = some (C.u (gs.getD m 0)) := uLz rfl hm1
        have hw := with_spec (gs.getD m 0) a hgm8 (by omega)
        rw [if_pos hm1] at hgu
        have hgn2 : (gs.set m (gs.getD m 0 ||| 2 ^ a)).length = gs.length := List.length_set ..
        have hsg : setL (gs.map C.u) (mulS ((m : Nat) : Int).toNat 1) [C.u (gs.getD m 0 ||| 2 ^ a)] = (gs.set m (gs.getD m 0 ||| 2 ^ a)).map C.u := setU rfl rfl
        have hgml : (gs.map C.u).length = gs.length := List.length_map ..
        repeat ((conv => whnf); first | (refine And.intro (by first | omega | exact Nat.le_of_ble_eq_true rfl | (dsimp only [inK]; omega) | (simp only [mulS_eq]; omega) | (simp only [mulS_eq, setL_length]; omega) | (simp only [setL_length]; omega) | (simp only [setL_length, List.length_map]; omega) | (exact ⟨by omega, by omega, by first | exact Nat.le_of_ble_eq_true rfl | (dsimp only; omega) | (simp only [setL_length]; omega) | (simp only [setL_length, List.length_map]; omega)⟩) | (exact ⟨by omega, by first | rfl | omega, by omega, Nat.le_of_ble_eq_true rfl, Nat.le_of_ble_eq_true rfl⟩) | (exact ⟨rfl, rfl, rfl, Nat.le_of_ble_eq_true rfl, by first | rfl | omega | exact Nat.le_of_ble_eq_true rfl | (dsimp only; omega) | (simp; done) | (simp; omega), by first | rfl | omega | exact Nat.le_of_ble_eq_true rfl | (dsimp only; omega) | (simp; done) | (simp; omega), by omega, Nat.le_of_ble_eq_true rfl⟩) | exact Eq.refl true) ?_) | with_reducible refine ld (hla) ?_ | with_reducible refine ld (hlg) ?_ | refine Exists.intro _ (And.intro rfl ?_) | refine And.intro (And.intro rfl (chk_rowI _ _ _ _)) ?_ | refine br_t (by omega) ?_ | refine br_f (by omega) ?_ | refine bs_t (by omega) ?_ | refine bs_f (by omega) ?_ | refine fun (K' : K3) hK' => ?_ | (refine hK' _ _ _ ?_; clear hK' K') | refine draw_auto tok mixed (by kernel_rfl) ?_ | refine indexS_k (lg := 9) (lt := 4) (la := 10) (lr := 3) (gs := gs) (t := tabS n qs) htl ha hts (by omega) hg8 rfl rfl rfl rfl rfl ?_ | rw [hm2] | (refine HD_mk (fun _ h => CallK.val (R := []) hw (by kernel_rfl) rfl (by simp [V.wf, A.wf, C.wf, V.i]) trivial rfl rfl (by first | trivial | simp [V.wf, A.wf, C.wf]) h) ?_) | refine bs_bt (Eq.refl true) ?_ | refine bs_bf (Eq.refl false) ?_ | refine br_bt (Eq.refl true) ?_ | refine br_bf (Eq.refl false) ?_ | refine CallK.m ?_ | refine Two.l ?_ | refine And.intro (And.intro rfl rfl) ?_)
        refine ⟨k + 1, [], by omega, by omega, ?_⟩
        rw [hgu, hgn2]
        refine ⟨?_, ?_, rfl, rfl, by first | exact Nat.le_of_ble_eq_true rfl | exact Nat.le_refl _ | omega⟩
        · repeat (first | exact trivial | (refine And.intro (covS_syn (by first | rfl | (refine congrArg some (congrArg V.i ?_); omega)) rfl (by first | exact trivial | exact Nat.le_of_ble_eq_true rfl | exact hy | (first | ((show ∀ p ∈ (_ : List (Nat × Nat)), p.1 < _); decide) | exact (fun p hp => nomatch hp)) | (show (_ : Nat) < _; omega))) ?_) | refine And.intro (covS_bool rfl rfl (by rfl)) ?_)
        · repeat (first | exact trivial | refine And.intro (covE_u rfl (Nat.le_of_ble_eq_true rfl) rfl hsg) ?_ | refine And.intro (covE_i rfl (Nat.le_of_ble_eq_true rfl) rfl hset) ?_ | (refine And.intro (covE_id (Nat.le_of_ble_eq_true rfl) (by first | exact wf_ints _ _ | exact wf_bools _ _ | first | exact wf_us _ _ | exact wf_cells _ _ | exact wf_ints _ _ | (simp [C.wf]; done) | simp [C.wf]) rfl (by rfl)) ?_))
      · have hi0 : (-1 : Int) < 0 := by omega
        rw [if_neg (by omega)] at hgu
        have hgl2 : (gs ++ [0]).length = gs.length + 1 := by simp
        have hlg : ((gs ++ [0]).map C.u)[mulS ((gs.length : Nat) : Int).toNat 1]? = some (C.u 0) := by
          rw [uLz rfl (by omega)]; simp [List.getD_eq_getElem?_getD]
        have hw := with_spec 0 a (by omega) (by omega)
        have hgap : gs.map C.u ++ [C.int .u64 0] = (gs ++ [0]).map C.u := by simp
        have hlg' : (gs.map C.u ++ [C.int .u64 0])[mulS ((gs.length : Nat) : Int).toNat 1]? = some (C.u 0) := by rw [hgap]; exact hlg
        have hgn2 : ((gs ++ [0]).set gs.length (0 ||| 2 ^ a)).length = gs.length + 1 := by rw [List.length_set, hgl2]
        have hsg : setL (gs.map C.u ++ [C.int .u64 0]) (mulS ((gs.length : Nat) : Int).toNat 1) [C.u (0 ||| 2 ^ a)] = ((gs ++ [0]).set gs.length (0 ||| 2 ^ a)).map C.u := by rw [hgap]; exact setU rfl rfl
        have hgml : (gs.map C.u).length = gs.length := List.length_map ..
        have hgl3 : (gs.map C.u).length = gs.length * 1 := by omega
        have hpos : 0 < (gs.map C.u ++ [C.int .u64 0]).length := by simp
        have hpos2 : mulS ((gs.length : Nat) : Int).toNat 1 + 1 ≤ (gs.map C.u ++ [C.int .u64 0]).length := by rw [mulS_eq]; simp
        have hgl4 : gs.length + 1 ≤ 1000000 := by omega
        rw [hm1] at hset
        repeat ((conv => whnf); first | (refine And.intro (by first | omega | exact Nat.le_of_ble_eq_true rfl | (dsimp only [inK]; omega) | (simp only [mulS_eq]; omega) | (simp only [mulS_eq, setL_length]; omega) | (simp only [setL_length]; omega) | (simp only [setL_length, List.length_map]; omega) | (exact ⟨by omega, by omega, by first | exact Nat.le_of_ble_eq_true rfl | (dsimp only; omega) | (simp only [setL_length]; omega) | (simp only [setL_length, List.length_map]; omega)⟩) | (exact ⟨by omega, by first | rfl | omega, by omega, Nat.le_of_ble_eq_true rfl, Nat.le_of_ble_eq_true rfl⟩) | (exact ⟨rfl, rfl, rfl, Nat.le_of_ble_eq_true rfl, by first | rfl | omega | exact Nat.le_of_ble_eq_true rfl | (dsimp only; omega) | (simp; done) | (simp; omega), by first | rfl | omega | exact Nat.le_of_ble_eq_true rfl | (dsimp only; omega) | (simp; done) | (simp; omega), by omega, Nat.le_of_ble_eq_true rfl⟩) | exact Eq.refl true) ?_) | with_reducible refine ld (hla) ?_ | refine Exists.intro _ (And.intro rfl ?_) | refine And.intro (And.intro rfl (chk_rowI _ _ _ _)) ?_ | refine br_t (by omega) ?_ | refine br_f (by omega) ?_ | refine bs_t (by omega) ?_ | refine bs_f (by omega) ?_ | refine fun (K' : K3) hK' => ?_ | (refine hK' _ _ _ ?_; clear hK' K') | refine draw_auto tok mixed (by kernel_rfl) ?_ | refine indexS_k (lg := 9) (lt := 4) (la := 10) (lr := 3) (gs := gs) (t := tabS n qs) htl ha hts (by omega) hg8 rfl rfl rfl rfl rfl ?_ | rw [hm2] | refine And.intro ⟨rfl, rfl, rfl, Nat.le_of_ble_eq_true rfl, hgl3, Nat.le_of_ble_eq_true rfl, hgl4, Nat.le_of_ble_eq_true rfl⟩ ?_ | refine And.intro (And.intro (by omega) (And.intro (by omega) hpos)) ?_ | refine Exists.intro _ (And.intro hlg' ?_) | refine And.intro hpos2 ?_ | (refine HD_mk (fun _ h => CallK.val (R := []) hw (by kernel_rfl) rfl (by simp [V.wf, A.wf, C.wf, V.i]) trivial rfl rfl (by first | trivial | simp [V.wf, A.wf, C.wf]) h) ?_) | refine bs_bt (Eq.refl true) ?_ | refine bs_bf (Eq.refl false) ?_ | refine br_bt (Eq.refl true) ?_ | refine br_bf (Eq.refl false) ?_ | refine CallK.m ?_ | refine Two.l ?_ | refine And.intro (And.intro rfl rfl) ?_)
        refine ⟨k + 1, [(9, some 12)], by omega, by omega, ?_⟩
        rw [hgu, hgn2]
        refine ⟨?_, ?_, rfl, rfl, by first | exact Nat.le_of_ble_eq_true rfl | exact Nat.le_refl _ | omega⟩
        · repeat (first | exact trivial | (refine And.intro (covS_syn (by first | rfl | (refine congrArg some (congrArg V.i ?_); omega)) rfl (by first | exact trivial | exact Nat.le_of_ble_eq_true rfl | exact hy | (first | ((show ∀ p ∈ (_ : List (Nat × Nat)), p.1 < _); decide) | exact (fun p hp => nomatch hp)) | (show (_ : Nat) < _; omega))) ?_) | refine And.intro (covS_bool rfl rfl (by rfl)) ?_)
        · repeat (first | exact trivial | refine And.intro (covE_u rfl (Nat.le_of_ble_eq_true rfl) rfl hsg) ?_ | refine And.intro (covE_i rfl (Nat.le_of_ble_eq_true rfl) rfl hset) ?_ | refine And.intro (covE_some rfl (Nat.le_of_ble_eq_true rfl) (by simp [C.wf]) rfl rfl) ?_ | refine And.intro (covE_u rfl (Nat.le_of_ble_eq_true rfl) rfl rfl) ?_ | refine And.intro (covE_i rfl (Nat.le_of_ble_eq_true rfl) rfl rfl) ?_ | refine And.intro (covE_nil rfl (Nat.le_of_ble_eq_true rfl) rfl rfl) ?_ | (refine And.intro (covE_some rfl (Nat.le_of_ble_eq_true rfl) (by first | exact wf_ints _ _ | exact wf_bools _ _ | first | exact wf_us _ _ | exact wf_cells _ _ | exact wf_ints _ _ | (simp [C.wf]; done) | simp [C.wf]) rfl (by first | exact ren_ints _ _ | exact ren_bools _ _ | exact ren_shares _ _ | rfl)) ?_))
    · obtain rfl : k = n := by omega
      repeat ((conv => whnf); first | (refine And.intro (by first | omega | exact Nat.le_of_ble_eq_true rfl | (dsimp only [inK]; omega) | (simp only [mulS_eq]; omega) | (simp only [mulS_eq, setL_length]; omega) | (simp only [setL_length]; omega) | (simp only [setL_length, List.length_map]; omega) | (exact ⟨by omega, by omega, by first | exact Nat.le_of_ble_eq_true rfl | (dsimp only; omega) | (simp only [setL_length]; omega) | (simp only [setL_length, List.length_map]; omega)⟩) | (exact ⟨by omega, by first | rfl | omega, by omega, Nat.le_of_ble_eq_true rfl, Nat.le_of_ble_eq_true rfl⟩) | (exact ⟨rfl, rfl, rfl, Nat.le_of_ble_eq_true rfl, by first | rfl | omega | exact Nat.le_of_ble_eq_true rfl | (dsimp only; omega) | (simp; done) | (simp; omega), by first | rfl | omega | exact Nat.le_of_ble_eq_true rfl | (dsimp only; omega) | (simp; done) | (simp; omega), by omega, Nat.le_of_ble_eq_true rfl⟩) | exact Eq.refl true) ?_) | refine Exists.intro _ (And.intro rfl ?_) | refine And.intro (And.intro rfl (chk_rowI _ _ _ _)) ?_ | refine br_t (by omega) ?_ | refine br_f (by omega) ?_ | refine bs_t (by omega) ?_ | refine bs_f (by omega) ?_ | refine fun (K' : K3) hK' => ?_ | (refine hK' _ _ _ ?_; clear hK' K') | refine draw_auto tok mixed (by kernel_rfl) ?_ | refine bs_bt (Eq.refl true) ?_ | refine bs_bf (Eq.refl false) ?_ | refine br_bt (Eq.refl true) ?_ | refine br_bf (Eq.refl false) ?_ | refine CallK.m ?_ | refine Two.l ?_ | refine And.intro (And.intro rfl rfl) ?_)
      exact rfl
end Go.Proofs.YtijnimgmpocmaaaDoor

/- Waste: the document's first right filling, walked. -/
namespace Go.Proofs.YtijnimgmpocmaaaDoor
open Go.RowKit
set_option linter.unusedVariables false
set_option linter.unusedSimpArgs false
theorem chk_fe {cs cs' : List C} (he : cs' = cs) (hfl : FlatC cs) (p : Nat → Bool) (lab : Nat) (kd : Kd) : (([⟨lab, kd, cs'⟩] : List E).all fun e => e.cs.all (C.chk p)) = true := by
  subst he
  simp only [List.all_cons, List.all_nil, Bool.and_true]
  exact hfl.chk p
section
variable {P : Program} {n0 : Nat} {f : FuncId} {vs vs' : List V} {Lc L : List E} {nac nx : Nat} {R : Rn} {K : V → List E → Nat → Prop}
/-- A row and yes. -/
theorem CallK.rowB {t z m : Nat} {cs : List C} (hfl : FlatC cs) (spec : Spec P f vs Lc nac (fun v L' _ => ∃ lab, v = V.tup [A.c (.sl lab m), A.c C.tt] ∧ find L' lab = some ⟨lab, .vec t z, cs⟩)) (hok : callB P f = true)
    (hv : renVs R vs = some vs') (hvw : ∀ v ∈ vs, v.wf nac) (hL : roL R nac L Lc) (hLc : injB [] Lc = true)
    (hK : K (V.tup [A.c (.sl nx m), A.c C.tt]) [⟨nx, .vec t z, cs⟩] (nx + 1)) : CallK P n0 f vs' L nx K := by
  refine CallK.mk' hok spec hv hvw hL hLc ?_
  rintro v L' nx' hw ⟨lab, rfl, hf⟩
  refine ⟨V.tup [A.c (.sl nx m), A.c C.tt], [⟨nx, .vec t z, cs⟩], nx + 1, [(nx, some lab)], ⟨Nat.le_succ _, ?_, ?_, ⟨covE_some (renL_one _ _) (Nat.lt_succ_self nx) (hfl.wf _) hf (hfl.ren _), trivial⟩, rfl, ?_⟩, hK⟩
  · simp [V.ren, A.ren, C.ren, renL_one, seqO]
  · simp [V.chk, A.chk, C.chk, inLab_one]
  · simp only [List.all_cons, List.all_nil, Bool.and_true, inLab_one, Kd.isRo, Bool.not_false, Bool.true_and]
    exact hfl.chk _
/-- A row that came in, and yes. -/
theorem CallK.inRowB {x c m : Nat} (spec : Spec P f vs Lc nac (fun v L' _ => v = V.tup [A.c (.sl c m), A.c C.tt])) (hok : callB P f = true)
    (hv : renVs R vs = some vs') (hvw : ∀ v ∈ vs, v.wf nac) (hL : roL R nac L Lc) (hLc : injB [] Lc = true) (hc : c < nac) (hR : renL R c = some x) (hx : x < nx) (hK : K (V.tup [A.c (.sl x m), A.c C.tt]) [] nx) : CallK P n0 f vs' L nx K := by
  refine CallK.mkIn hok spec hv hvw hL hLc [(x, c)] (fun q hq => ?_) ?_
  · rw [List.mem_singleton.1 hq]; exact ⟨hc, hR, hx⟩
  · rintro v L' nx' hw rfl
    have h0 : renL [(x, some c)] x = some c := by simp [renL]
    refine ⟨V.tup [A.c (.sl x m), A.c C.tt], [], nx, [(x, some c)], ⟨Nat.le_refl _, ?_, ?_, trivial, rfl, rfl, fun q hq => ?_⟩, hK⟩
    · simp [V.ren, A.ren, C.ren, h0, seqO]
    · simp [V.chk, A.chk, C.chk, inOr]
    · rw [List.mem_singleton.1 hq]; exact h0
end
def okFp (cl : Nat → Nat → Bool) (fill : List Nat) (s k : Nat) : Bool := (List.range k).all fun i => !(decide (fill.getD i 0 = s)) || !cl i fill.length
theorem okFp_succ (cl : Nat → Nat → Bool) (fill : List Nat) (s k : Nat) : okFp cl fill s (k + 1) = (okFp cl fill s k && (!(decide (fill.getD k 0 = s)) || !cl k fill.length)) := by
  simp [okFp, List.range_succ, List.all_append]
theorem rfirst_0 (n : Nat) (qs : List (Nat × Nat)) (skips : Nat) (fill : List Nat) (hfl : fill.length = n) : Spec Tryd.prog 82 [V.agg [C.i n, C.sl 0 (castP qs).length], V.c (.sl 1 n), V.i skips] [⟨0, .ro 2, cellC (castP qs)⟩, ⟨1, .ro 0, (natI fill).map C.i⟩] 2 (fun v L' _ => v = V.tup [A.c (.sl 1 n), A.c C.tt]) := by
  refine Spec.of tok Tryd.func82 rfl rfl rfl fun n0 cx => vc_ok tok ?_
  repeat ((conv => whnf); first | (refine And.intro (by first | omega | exact Nat.le_of_ble_eq_true rfl) ?_) | refine Exists.intro _ (And.intro rfl ?_) | refine br_t (by omega) ?_ | refine fun (K' : K3) hK' => ?_ | (refine hK' _ _ _ ?_; clear hK' K'))
  rfl
def frR (n : Nat) (o : Option (List Nat)) (v : V) (L' : List E) : Prop := match o with
  | none => ∀ ρ, v.den ρ = (V.tup [A.c .nil, A.c C.ff]).den ρ
  | some l => ∃ lab, v = V.tup [A.c (.sl lab n), A.c C.tt] ∧ find L' lab = some ⟨lab, .vec 3 1, (natI l).map C.i⟩
set_option maxRecDepth 10000 in
set_option maxHeartbeats 16000000 in
theorem rfirst_step (n : Nat) (qs : List (Nat × Nat)) (hk : Knd n qs) (skips : Nat) (hs20 : skips ≤ 20) (m : Nat) (ih : ∀ m', m = m' + 1 → ∀ fill : List Nat, fill.length + (m' + 1) = n →
      Spec Tryd.prog 82 [V.agg [C.i n, C.sl 0 (castP qs).length], V.c (.sl 1 fill.length), V.i skips] [⟨0, .ro 2, cellC (castP qs)⟩, ⟨1, .ro 0, (natI fill).map C.i⟩] 2 (fun v L' _ => frR n (frst (symC (clP qs)) skips (m' + 1) fill) v L')) (fill : List Nat) (hfl : fill.length + (m + 1) = n) :
    Spec Tryd.prog 82 [V.agg [C.i n, C.sl 0 (castP qs).length], V.c (.sl 1 fill.length), V.i skips] [⟨0, .ro 2, cellC (castP qs)⟩, ⟨1, .ro 0, (natI fill).map C.i⟩] 2 (fun v L' _ => frR n (frst (symC (clP qs)) skips (m + 1) fill) v L') := by
  have hn := hk.rng
  have hfm : ((natI fill).map C.i).length = fill.length := by rw [List.length_map, natI_len]
  have hlf : ∀ b, b < fill.length → ((natI fill).map C.i)[mulS ((b : Nat) : Int).toNat 1]? = some (C.i ((fill.getD b 0 : Nat) : Int)) := fun b hb => by rw [intLz rfl (by rw [natI_len]; exact hb), natI_get hb]
  have hfr : frst (symC (clP qs)) skips (m + 1) fill = (List.range skips).findSome? (frI (symC (clP qs)) skips m fill) := rfl
  have hne0 : ¬ ((fill.length : Nat) : Int) = (n : Nat) := by omega
  refine Spec.of tok Tryd.func82 rfl rfl rfl fun n0 cx => vc_ok tok ?_
  repeat ((conv => whnf); first | (refine And.intro (by first | omega | exact Nat.le_of_ble_eq_true rfl) ?_) | refine Exists.intro _ (And.intro rfl ?_) | refine br_f (by omega) ?_ | refine fun (K' : K3) hK' => ?_ | (refine hK' _ _ _ ?_; clear hK' K'))
  refine Tri.loop (γ := Nat) (fun s => s ≤ skips ∧ ∀ r, r < s → frI (symC (clP qs)) skips m fill r = none) (fun s => [(1, V.c (.sl 1 fill.length)), (2, V.i skips), (3, V.c (.ptr 2 0)), (20, V.i skips), (21, V.i (s : Nat))])
    (fun s => [⟨2, .own 24, [C.i n, .sl 0 (castP qs).length]⟩, ⟨0, .ro 2, cellC (castP qs)⟩, ⟨1, .ro 0, (natI fill).map C.i⟩]) 3 (fun s => skips - s) 0 (R0 := []) ?_ ?_ ?_
  · exact ⟨Nat.zero_le _, fun r hr => by omega⟩
  · skip
    refine ⟨?_, ?_, rfl, rfl, by exact Nat.le_of_ble_eq_true rfl⟩
    · repeat (first | exact trivial | (refine And.intro (covS_syn (by rfl) rfl (by first | exact trivial | exact Nat.le_of_ble_eq_true rfl)) ?_))
    · repeat (first | exact trivial | (refine And.intro (covE_id (Nat.le_of_ble_eq_true rfl) (by first | exact wf_ints _ _ | first | exact wf_us _ _ | exact wf_cells _ _ | (simp [C.wf]; done)) rfl (by rfl)) ?_))
  · rintro s ⟨hs, hno⟩
    refine vc_ok tok ?_
    by_cases hsl : s < skips
    · repeat ((conv => whnf); first | refine br_t (by omega) ?_ | refine fun (K' : K3) hK' => ?_ | (refine hK' _ _ _ ?_; clear hK' K'))
      refine Tri.loop (γ := Nat) (fun i => i ≤ fill.length) (fun i => [(1, V.c (.sl 1 fill.length)), (2, V.i skips), (3, V.c (.ptr 2 0)), (8, V.i (s : Nat)), (9, V.c (.bool (okFp (symC (clP qs)) fill s i))), (20, V.i skips), (21, V.i (s : Nat)), (24, V.c (.sl 1 fill.length)), (25, V.i fill.length), (26, V.i (i : Nat))])
        (fun i => [⟨2, .own 24, [C.i n, .sl 0 (castP qs).length]⟩, ⟨0, .ro 2, cellC (castP qs)⟩, ⟨1, .ro 0, (natI fill).map C.i⟩]) 3 (fun i => fill.length - i) 0 (R0 := []) ?_ ?_ ?_
      · omega
      · skip
        refine ⟨?_, ?_, rfl, rfl, by exact Nat.le_of_ble_eq_true rfl⟩
        · repeat (first | exact trivial | (refine And.intro (covS_syn (by rfl) rfl (by first | exact trivial | exact Nat.le_of_ble_eq_true rfl)) ?_) | refine And.intro (covS_bool rfl rfl (by rfl)) ?_)
        · repeat (first | exact trivial | (refine And.intro (covE_id (Nat.le_of_ble_eq_true rfl) (by first | exact wf_ints _ _ | first | exact wf_us _ _ | exact wf_cells _ _ | (simp [C.wf]; done)) rfl (by rfl)) ?_))
      · intro i hi
        refine vc_ok tok ?_
        by_cases hil : i < fill.length
        · have hld := hlf i hil
          have hcs := clash_spec n qs hk i fill.length
          have hsu := okFp_succ (symC (clP qs)) fill s i
          obtain ⟨y, hy⟩ : ∃ y, y = okFp (symC (clP qs)) fill s i := ⟨_, rfl⟩
          rw [← hy] at hsu ⊢
          cases y with
          | false =>
            have hst : okFp (symC (clP qs)) fill s (i + 1) = false := by rw [hsu]; rfl
            repeat ((conv => whnf); first | (refine And.intro (by first | omega | (dsimp only [inK]; omega)) ?_) | with_reducible refine ld (hld) ?_ | refine br_t (by omega) ?_ | refine fun (K' : K3) hK' => ?_ | (refine hK' _ _ _ ?_; clear hK' K') | refine br_bf (Eq.refl false) ?_)
            refine ⟨i + 1, [], by omega, by omega, ?_⟩
            rw [hst]
            refine ⟨?_, ?_, rfl, rfl, by exact Nat.le_of_ble_eq_true rfl⟩
            · repeat (first | exact trivial | (refine And.intro (covS_syn (by rfl) rfl (by first | exact trivial | exact Nat.le_of_ble_eq_true rfl)) ?_) | refine And.intro (covS_bool rfl rfl (by rfl)) ?_)
            · repeat (first | exact trivial | (refine And.intro (covE_id (Nat.le_of_ble_eq_true rfl) (by first | exact wf_ints _ _ | first | exact wf_us _ _ | exact wf_cells _ _ | (simp [C.wf]; done)) rfl (by rfl)) ?_))
          | true =>
            by_cases h3 : (s : Int) ≠ (fill.getD i 0 : Nat)
            · have hst : okFp (symC (clP qs)) fill s (i + 1) = true := by rw [hsu, decide_eq_false (by omega)]; rfl
              repeat ((conv => whnf); first | (refine And.intro (by first | omega | (dsimp only [inK]; omega)) ?_) | with_reducible refine ld (hld) ?_ | refine br_t (by omega) ?_ | refine bs_t (by omega) ?_ | refine fun (K' : K3) hK' => ?_ | (refine hK' _ _ _ ?_; clear hK' K') | refine br_bt (Eq.refl true) ?_)
              refine ⟨i + 1, [], by omega, by omega, ?_⟩
              rw [hst]
              refine ⟨?_, ?_, rfl, rfl, by exact Nat.le_of_ble_eq_true rfl⟩
              · repeat (first | exact trivial | (refine And.intro (covS_syn (by rfl) rfl (by first | exact trivial | exact Nat.le_of_ble_eq_true rfl)) ?_) | refine And.intro (covS_bool rfl rfl (by rfl)) ?_)
              · repeat (first | exact trivial | (refine And.intro (covE_id (Nat.le_of_ble_eq_true rfl) (by first | exact wf_ints _ _ | first | exact wf_us _ _ | exact wf_cells _ _ | (simp [C.wf]; done)) rfl (by rfl)) ?_))
            · have hst : okFp (symC (clP qs)) fill s (i + 1) = !(symC (clP qs) i fill.length) := by rw [hsu, decide_eq_true (by omega)]; rfl
              repeat ((conv => whnf); first | (refine And.intro (by first | omega | (dsimp only [inK]; omega)) ?_) | with_reducible refine ld (hld) ?_ | refine Exists.intro _ (And.intro rfl ?_) | refine br_t (by omega) ?_ | refine bs_f (by omega) ?_ | refine fun (K' : K3) hK' => ?_ | (refine hK' _ _ _ ?_; clear hK' K') | (refine CallK.val (R := []) hcs (by kernel_rfl) rfl (by simp [V.wf, A.wf, C.wf, V.i]) ⟨roE_f (flat_c _) (l := 0) rfl (by omega) rfl (.inr rfl), trivial⟩ rfl rfl (by first | trivial | simp [V.wf, A.wf, C.wf]) ?_) | refine br_bt (Eq.refl true) ?_ | refine CallK.m ?_)
              refine ⟨i + 1, [], by omega, by omega, ?_⟩
              rw [hst]
              refine ⟨?_, ?_, rfl, rfl, by exact Nat.le_of_ble_eq_true rfl⟩
              · repeat (first | exact trivial | (refine And.intro (covS_syn (by rfl) rfl (by first | exact trivial | exact Nat.le_of_ble_eq_true rfl)) ?_))
              · repeat (first | exact trivial | (refine And.intro (covE_id (Nat.le_of_ble_eq_true rfl) (by first | exact wf_ints _ _ | first | exact wf_us _ _ | exact wf_cells _ _ | (simp [C.wf]; done)) rfl (by rfl)) ?_))
        · obtain rfl : i = fill.length := by omega
          have hoo : okFp (symC (clP qs)) fill s fill.length = okF (symC (clP qs)) fill s := rfl
          rw [hoo]
          cases hok : okF (symC (clP qs)) fill s with
          | false =>
            repeat ((conv => whnf); first | (refine And.intro (by first | omega | (dsimp only [inK]; omega)) ?_) | refine br_f (by omega) ?_ | refine fun (K' : K3) hK' => ?_ | (refine hK' _ _ _ ?_; clear hK' K') | refine br_bt (Eq.refl true) ?_)
            refine ⟨s + 1, [], ⟨by omega, fun r hr => ?_⟩, by omega, ?_⟩
            · by_cases h : r = s
              · subst h; unfold frI; rw [hok]; rfl
              · exact hno r (by omega)
            refine ⟨?_, ?_, rfl, rfl, by exact Nat.le_of_ble_eq_true rfl⟩
            · repeat (first | exact trivial | (refine And.intro (covS_syn (by rfl) rfl (by first | exact trivial | exact Nat.le_of_ble_eq_true rfl)) ?_))
            · repeat (first | exact trivial | (refine And.intro (covE_id (Nat.le_of_ble_eq_true rfl) (by first | exact wf_ints _ _ | first | exact wf_us _ _ | exact wf_cells _ _ | (simp [C.wf]; done)) rfl (by rfl)) ?_))
          | true =>
            have hfi : frI (symC (clP qs)) skips m fill s = frst (symC (clP qs)) skips m (fill ++ [s]) := by unfold frI; rw [if_pos hok]
            have hll : (fill ++ [s]).length = fill.length + 1 := by simp
            have hrow : ([] ++ List.take (fill.length * 1) ((natI fill).map C.i)) ++ [C.i s] = (natI (fill ++ [s])).map C.i := by
              rw [List.nil_append, List.take_of_length_le (by rw [hfm]; omega), natI_app]
            have hrow0 : ([] ++ List.take (fill.length * 1) ((natI fill).map C.i)) = (natI fill).map C.i := by
              rw [List.nil_append, List.take_of_length_le (by rw [hfm]; omega)]
            have hlen1 : ([] ++ List.take (fill.length * 1) ((natI fill).map C.i)).length = (0 + fill.length) * 1 := by
              rw [List.nil_append, List.length_take, hfm]; omega
            have h00 : fill.length + 1 = 0 + fill.length + 1 := by omega
            match m, ih, hfl, hno, hfr, hfi with
            | 0, _, hfl, hno, hfr, hfi =>
              have hres : frst (symC (clP qs)) skips 1 fill = some (fill ++ [s]) := by rw [hfr]; exact find_some hsl hno hfi
              rw [hres]
              have h0 := rfirst_0 n qs skips (fill ++ [s]) (by omega)
              have hn1 : V.c (.sl 1 n) = V.c (.sl 1 (0 + fill.length + 1)) := congrArg (fun z => V.c (.sl 1 z)) (by omega)
              have h0' : Spec Tryd.prog 82 [V.agg [C.i n, C.sl 0 (castP qs).length], V.c (.sl 1 (0 + fill.length + 1)), V.i skips] [⟨0, .ro 2, cellC (castP qs)⟩, ⟨1, .ro 0, (natI (fill ++ [s])).map C.i⟩] 2 (fun v L' _ => v = V.tup [A.c (.sl 1 n), A.c C.tt]) := by rw [← hn1]; exact h0
              repeat ((conv => whnf); first | (refine And.intro (by first | omega | (dsimp only [inK]; omega) | (exact ⟨rfl, rfl, rfl, Nat.le_of_ble_eq_true rfl, by rfl, by dsimp only; omega, by omega, Nat.le_of_ble_eq_true rfl⟩) | exact Eq.refl true) ?_) | refine Exists.intro _ (And.intro rfl ?_) | refine br_f (by omega) ?_ | refine fun (K' : K3) hK' => ?_ | (refine hK' _ _ _ ?_; clear hK' K') | refine draw_kill [3, 4] tok mixed (by decide +kernel) ?_ | refine And.intro (And.intro rfl (chk_fe hrow0 (flat_i _) _ _ _)) ?_ | refine And.intro (And.intro rfl (chk_fe hrow (flat_i _) _ _ _)) ?_ | refine And.intro ⟨rfl, rfl, rfl, Nat.le_of_ble_eq_true rfl, hlen1, Nat.le_of_ble_eq_true rfl, by omega, Nat.le_of_ble_eq_true rfl⟩ ?_ | refine HD_mk (fun _ h => CallK.inRowB (R := [(0, some 0), (1, some 6)]) (c := 1) (x := 6) h0' (by kernel_rfl) rfl (by simp [V.wf, A.wf, C.wf, V.i]) ⟨roE_f (flat_c _) (l := 0) rfl (by omega) rfl (.inr rfl), roE_fe (flat_i _) (l := 6) rfl (by omega) rfl (.inl rfl) hrow, trivial⟩ rfl (by omega) rfl (by omega) h) ?_ | refine br_bf (Eq.refl false) ?_ | refine And.intro (And.intro rfl rfl) ?_)
              exact congrArg (fun cs => some (⟨6, .vec 3 1, cs⟩ : E)) hrow
            | m + 1, ih, hfl, hno, hfr, hfi =>
              have h1 := ih m rfl (fill ++ [s]) (by omega)
              rw [hll, h00] at h1
              cases ho : frst (symC (clP qs)) skips (m + 1) (fill ++ [s]) with
              | none =>
                rw [ho] at h1 hfi
                have h1' : Spec Tryd.prog 82 [V.agg [C.i n, C.sl 0 (castP qs).length], V.c (.sl 1 (0 + fill.length + 1)), V.i skips] [⟨0, .ro 2, cellC (castP qs)⟩, ⟨1, .ro 0, (natI (fill ++ [s])).map C.i⟩] 2 (Is (V.tup [A.c .nil, A.c C.ff])) := h1
                repeat ((conv => whnf); first | (refine And.intro (by first | omega | (dsimp only [inK]; omega) | (exact ⟨rfl, rfl, rfl, Nat.le_of_ble_eq_true rfl, by rfl, by dsimp only; omega, by omega, Nat.le_of_ble_eq_true rfl⟩) | exact Eq.refl true) ?_) | refine Exists.intro _ (And.intro rfl ?_) | refine br_f (by omega) ?_ | refine fun (K' : K3) hK' => ?_ | (refine hK' _ _ _ ?_; clear hK' K') | refine draw_kill [3, 4] tok mixed (by decide +kernel) ?_ | refine And.intro (And.intro rfl (chk_fe hrow0 (flat_i _) _ _ _)) ?_ | refine And.intro (And.intro rfl (chk_fe hrow (flat_i _) _ _ _)) ?_ | refine And.intro ⟨rfl, rfl, rfl, Nat.le_of_ble_eq_true rfl, hlen1, Nat.le_of_ble_eq_true rfl, by omega, Nat.le_of_ble_eq_true rfl⟩ ?_ | refine HD_mk (fun _ h => CallK.val (R := [(0, some 0), (1, some 6)]) h1' (by kernel_rfl) rfl (by simp [V.wf, A.wf, C.wf, V.i]) ⟨roE_f (flat_c _) (l := 0) rfl (by omega) rfl (.inr rfl), roE_fe (flat_i _) (l := 6) rfl (by omega) rfl (.inl rfl) hrow, trivial⟩ rfl rfl (by simp [V.wf, A.wf, C.wf]) h) ?_ | refine br_bf (Eq.refl false) ?_ | refine And.intro (And.intro rfl rfl) ?_)
                refine ⟨s + 1, [], ⟨by omega, fun r hr => ?_⟩, by omega, ?_⟩
                · by_cases h : r = s
                  · subst h; exact hfi
                  · exact hno r (by omega)
                refine ⟨?_, ?_, rfl, rfl, by exact Nat.le_of_ble_eq_true rfl⟩
                · repeat (first | exact trivial | (refine And.intro (covS_syn (by rfl) rfl (by first | exact trivial | exact Nat.le_of_ble_eq_true rfl)) ?_))
                · repeat (first | exact trivial | (refine And.intro (covE_id (Nat.le_of_ble_eq_true rfl) (by first | exact wf_ints _ _ | first | exact wf_us _ _ | exact wf_cells _ _ | (simp [C.wf]; done)) rfl (by rfl)) ?_))
              | some l =>
                rw [ho] at h1 hfi
                have hres : frst (symC (clP qs)) skips (m + 1 + 1) fill = some l := by rw [hfr]; exact find_some hsl hno hfi
                rw [hres]
                have h1' : Spec Tryd.prog 82 [V.agg [C.i n, C.sl 0 (castP qs).length], V.c (.sl 1 (0 + fill.length + 1)), V.i skips] [⟨0, .ro 2, cellC (castP qs)⟩, ⟨1, .ro 0, (natI (fill ++ [s])).map C.i⟩] 2 (fun v L' _ => ∃ lab, v = V.tup [A.c (.sl lab n), A.c C.tt] ∧ find L' lab = some ⟨lab, .vec 3 1, (natI l).map C.i⟩) := h1
                repeat ((conv => whnf); first | (refine And.intro (by first | omega | (dsimp only [inK]; omega) | (exact ⟨rfl, rfl, rfl, Nat.le_of_ble_eq_true rfl, by rfl, by dsimp only; omega, by omega, Nat.le_of_ble_eq_true rfl⟩) | exact Eq.refl true) ?_) | refine Exists.intro _ (And.intro rfl ?_) | refine And.intro (And.intro rfl (chk_rowI _ _ _ _)) ?_ | refine br_f (by omega) ?_ | refine fun (K' : K3) hK' => ?_ | (refine hK' _ _ _ ?_; clear hK' K') | refine draw_kill [3, 4] tok mixed (by decide +kernel) ?_ | refine And.intro (And.intro rfl (chk_fe hrow0 (flat_i _) _ _ _)) ?_ | refine And.intro (And.intro rfl (chk_fe hrow (flat_i _) _ _ _)) ?_ | refine And.intro ⟨rfl, rfl, rfl, Nat.le_of_ble_eq_true rfl, hlen1, Nat.le_of_ble_eq_true rfl, by omega, Nat.le_of_ble_eq_true rfl⟩ ?_ | refine HD_mk (fun _ h => CallK.rowB (R := [(0, some 0), (1, some 6)]) (flat_i _) h1' (by kernel_rfl) rfl (by simp [V.wf, A.wf, C.wf, V.i]) ⟨roE_f (flat_c _) (l := 0) rfl (by omega) rfl (.inr rfl), roE_fe (flat_i _) (l := 6) rfl (by omega) rfl (.inl rfl) hrow, trivial⟩ rfl h) ?_ | refine br_bf (Eq.refl false) ?_ | refine And.intro (And.intro rfl rfl) ?_)
                exact rfl
    · have hres : frst (symC (clP qs)) skips (m + 1) fill = none := by rw [hfr]; exact find_none fun r hr => hno r (by omega)
      rw [hres]
      repeat ((conv => whnf); first | refine br_f (by omega) ?_ | refine fun (K' : K3) hK' => ?_ | (refine hK' _ _ _ ?_; clear hK' K'))
      intro ρ; rfl
theorem rfirst_spec (n : Nat) (qs : List (Nat × Nat)) (hk : Knd n qs) (skips : Nat) (hs20 : skips ≤ 20) : ∀ (m : Nat) (fill : List Nat), fill.length + (m + 1) = n →
    Spec Tryd.prog 82 [V.agg [C.i n, C.sl 0 (castP qs).length], V.c (.sl 1 fill.length), V.i skips] [⟨0, .ro 2, cellC (castP qs)⟩, ⟨1, .ro 0, (natI fill).map C.i⟩] 2 (fun v L' _ => frR n (frst (symC (clP qs)) skips (m + 1) fill) v L')
  | 0 => rfirst_step n qs hk skips hs20 0 (fun m' h => by omega)
  | m + 1 => rfirst_step n qs hk skips hs20 (m + 1) (fun m' h => by
    obtain rfl : m' = m := by omega
    exact rfirst_spec n qs hk skips hs20 m')
theorem rfirst_top (n : Nat) (qs : List (Nat × Nat)) (hk : Knd n qs) (skips : Nat) (hs20 : skips ≤ 20) : Spec Tryd.prog 82 [V.agg [C.i n, C.sl 0 (castP qs).length], V.c (.sl 1 0), V.i skips] [⟨0, .ro 2, cellC (castP qs)⟩, ⟨1, .ro 0, []⟩] 2 (fun v L' _ => frR n (frst (symC (clP qs)) skips n []) v L') := by
  have hn := hk.rng
  obtain ⟨m, rfl⟩ : ∃ m, n = m + 1 := ⟨n - 1, by omega⟩
  exact rfirst_spec (m + 1) qs hk skips hs20 m [] (by simp)
end Go.Proofs.YtijnimgmpocmaaaDoor

/- Waste: the document's First and Fewest, walked. -/
namespace Go.Proofs.YtijnimgmpocmaaaDoor
open Go.RowKit
set_option linter.unusedVariables false
set_option linter.unusedSimpArgs false
theorem frst_min (cl : Nat → Nat → Bool) (n skips : Nat) : frst cl (min skips n) n [] = frst cl skips n [] := by
  rcases Nat.le_total skips n with h | h
  · rw [Nat.min_eq_left h]
  · rw [Nat.min_eq_right h]
    exact (frst_many (cl := cl) (m := n) (n := n) (fill := []) (by simp) h).1.symm
theorem frst_zero (cl : Nat → Nat → Bool) {n : Nat} (hn : 1 ≤ n) : frst cl 0 n [] = none := by
  obtain ⟨m, rfl⟩ : ∃ m, n = m + 1 := ⟨n - 1, by omega⟩
  rfl
set_option maxRecDepth 10000 in
theorem rFirst_err (N z : Int) (ps : List Cell) (hl : ps.length ≤ 100) (he : okK' N ps = false) : Spec Tryd.prog 51 [V.agg [C.i N, C.sl 0 ps.length], V.i z] [⟨0, .ro 2, cellC ps⟩] 1 (Is (V.tup [A.c .nil, A.c (C.i 70)])) := by
  have hva := rvalid_spec N ps hl
  rw [he] at hva
  refine Spec.of tok Tryd.func51 rfl rfl rfl fun n0 cx => vc_ok tok ?_
  repeat ((conv => whnf); first | refine Exists.intro _ (And.intro rfl ?_) | refine fun (K' : K3) hK' => ?_ | (refine hK' _ _ _ ?_; clear hK' K') | (refine CallK.val (R := []) hva (by kernel_rfl) rfl (by simp [V.wf, A.wf, C.wf, V.i]) ⟨roE_f (flat_c _) (l := 0) rfl (by omega) rfl (.inr rfl), trivial⟩ rfl rfl (by first | trivial | simp [V.wf, A.wf, C.wf]) ?_) | refine br_bt (Eq.refl true) ?_ | refine CallK.m ?_)
  intro ρ; rfl
set_option maxRecDepth 10000 in
theorem rFirst_arg (n : Nat) (z : Int) (qs : List (Nat × Nat)) (hk : Knd n qs) (hz : ¬ (0 ≤ z ∧ z ≤ 20)) : Spec Tryd.prog 51 [V.agg [C.i n, C.sl 0 (castP qs).length], V.i z] [⟨0, .ro 2, cellC (castP qs)⟩] 1 (Is (V.tup [A.c .nil, A.c (C.i 2)])) := by
  have hpl := castP_len qs
  have hql := knd_len hk
  have hva := rvalid_spec n (castP qs) (by omega)
  rw [knd_ok hk] at hva
  by_cases h0 : z < 0
  · refine Spec.of tok Tryd.func51 rfl rfl rfl fun n0 cx => vc_ok tok ?_
    repeat ((conv => whnf); first | refine Exists.intro _ (And.intro rfl ?_) | refine bs_t (by omega) ?_ | refine fun (K' : K3) hK' => ?_ | (refine hK' _ _ _ ?_; clear hK' K') | (refine CallK.val (R := []) hva (by kernel_rfl) rfl (by simp [V.wf, A.wf, C.wf, V.i]) ⟨roE_f (flat_c _) (l := 0) rfl (by omega) rfl (.inr rfl), trivial⟩ rfl rfl (by first | trivial | simp [V.wf, A.wf, C.wf]) ?_) | refine br_bf (Eq.refl false) ?_ | refine CallK.m ?_)
    intro ρ; rfl
  · have h1 : z > 20 := by omega
    refine Spec.of tok Tryd.func51 rfl rfl rfl fun n0 cx => vc_ok tok ?_
    repeat ((conv => whnf); first | refine Exists.intro _ (And.intro rfl ?_) | refine br_t (by omega) ?_ | refine bs_f (by omega) ?_ | refine fun (K' : K3) hK' => ?_ | (refine hK' _ _ _ ?_; clear hK' K') | (refine CallK.val (R := []) hva (by kernel_rfl) rfl (by simp [V.wf, A.wf, C.wf, V.i]) ⟨roE_f (flat_c _) (l := 0) rfl (by omega) rfl (.inr rfl), trivial⟩ rfl rfl (by first | trivial | simp [V.wf, A.wf, C.wf]) ?_) | refine br_bf (Eq.refl false) ?_ | refine CallK.m ?_)
    intro ρ; rfl
set_option maxRecDepth 10000 in
theorem rFirst_none (n skips : Nat) (qs : List (Nat × Nat)) (hk : Knd n qs) (hs20 : skips ≤ 20) (ho : frst (symC (clP qs)) skips n [] = none) : Spec Tryd.prog 51 [V.agg [C.i n, C.sl 0 (castP qs).length], V.i skips] [⟨0, .ro 2, cellC (castP qs)⟩] 1 (Is (V.tup [A.c .nil, A.c (C.i 5)])) := by
  have hn := hk.rng
  have hpl := castP_len qs
  have hql := knd_len hk
  have hva := rvalid_spec n (castP qs) (by omega)
  rw [knd_ok hk] at hva
  have h0 : ¬ (skips : Int) < 0 := by omega
  have h1 : ¬ (skips : Int) > 20 := by omega
  have hft := rfirst_top n qs hk (min skips n) (by omega)
  rw [frst_min, ho] at hft
  have hmi : ((min skips n : Nat) : Int) = (if (n : Int) < skips then (n : Int) else skips) := by split <;> omega
  rw [hmi] at hft
  have hft' : Spec Tryd.prog 82 [V.agg [C.i n, C.sl 0 (castP qs).length], V.c (.sl 1 0), V.i (if (n : Int) < skips then (n : Int) else skips)] [⟨0, .ro 2, cellC (castP qs)⟩, ⟨1, .ro 0, []⟩] 2 (Is (V.tup [A.c .nil, A.c C.ff])) := hft
  refine Spec.of tok Tryd.func51 rfl rfl rfl fun n0 cx => vc_ok tok ?_
  repeat ((conv => whnf); first | (refine And.intro (by first | omega | exact Nat.le_of_ble_eq_true rfl) ?_) | refine Exists.intro _ (And.intro rfl ?_) | refine br_f (by omega) ?_ | refine bs_f (by omega) ?_ | refine fun (K' : K3) hK' => ?_ | (refine hK' _ _ _ ?_; clear hK' K') | (refine CallK.val (R := []) hva (by kernel_rfl) rfl (by simp [V.wf, A.wf, C.wf, V.i]) ⟨roE_f (flat_c _) (l := 0) rfl (by omega) rfl (.inr rfl), trivial⟩ rfl rfl (by first | trivial | simp [V.wf, A.wf, C.wf]) ?_) | refine br_f h0 ?_ | (refine CallK.val (R := [(0, some 0), (1, none)]) hft' (by kernel_rfl) rfl (by simp [V.wf, A.wf, C.wf, V.i]) ⟨roE_f (flat_c _) (l := 0) rfl (by omega) rfl (.inr rfl), roE_none rfl (by omega), trivial⟩ rfl rfl (by first | trivial | simp [V.wf, A.wf, C.wf]) ?_) | refine CallK.m ?_)
  intro ρ; rfl
set_option maxRecDepth 10000 in
theorem rFirst_some (n skips : Nat) (qs : List (Nat × Nat)) (hk : Knd n qs) (hs20 : skips ≤ 20) (l : List Nat) (ho : frst (symC (clP qs)) skips n [] = some l) : Spec Tryd.prog 51 [V.agg [C.i n, C.sl 0 (castP qs).length], V.i skips] [⟨0, .ro 2, cellC (castP qs)⟩] 1 (fun v L' _ => rowI l v L') := by
  have hn := hk.rng
  have hpl := castP_len qs
  have hql := knd_len hk
  have hva := rvalid_spec n (castP qs) (by omega)
  rw [knd_ok hk] at hva
  have h0 : ¬ (skips : Int) < 0 := by omega
  have h1 : ¬ (skips : Int) > 20 := by omega
  have hft := rfirst_top n qs hk (min skips n) (by omega)
  rw [frst_min, ho] at hft
  have hmi : ((min skips n : Nat) : Int) = (if (n : Int) < skips then (n : Int) else skips) := by split <;> omega
  rw [hmi] at hft
  have hll := frst_sound' ho
  have hll : l.length = n := by simpa using hll
  have hft' : Spec Tryd.prog 82 [V.agg [C.i n, C.sl 0 (castP qs).length], V.c (.sl 1 0), V.i (if (n : Int) < skips then (n : Int) else skips)] [⟨0, .ro 2, cellC (castP qs)⟩, ⟨1, .ro 0, []⟩] 2 (fun v L' _ => ∃ lab, v = V.tup [A.c (.sl lab n), A.c C.tt] ∧ find L' lab = some ⟨lab, .vec 3 1, (natI l).map C.i⟩) := hft
  subst hll
  refine Spec.of tok Tryd.func51 rfl rfl rfl fun n0 cx => vc_ok tok ?_
  repeat ((conv => whnf); first | (refine And.intro (by first | omega | exact Nat.le_of_ble_eq_true rfl) ?_) | refine Exists.intro _ (And.intro rfl ?_) | refine br_f (by omega) ?_ | refine bs_f (by omega) ?_ | refine fun (K' : K3) hK' => ?_ | (refine hK' _ _ _ ?_; clear hK' K') | (refine CallK.val (R := []) hva (by kernel_rfl) rfl (by simp [V.wf, A.wf, C.wf, V.i]) ⟨roE_f (flat_c _) (l := 0) rfl (by omega) rfl (.inr rfl), trivial⟩ rfl rfl (by first | trivial | simp [V.wf, A.wf, C.wf]) ?_) | refine br_f h0 ?_ | refine CallK.rowB (R := [(0, some 0), (1, none)]) (flat_i _) hft' (by kernel_rfl) rfl (by simp [V.wf, A.wf, C.wf, V.i]) ⟨roE_f (flat_c _) (l := 0) rfl (by omega) rfl (.inr rfl), roE_none rfl (by omega), trivial⟩ rfl ?_ | refine CallK.m ?_)
  exact rfl
set_option maxRecDepth 10000 in
theorem rFewest_err (N : Int) (ps : List Cell) (hl : ps.length ≤ 100) (he : okK' N ps = false) : Spec Tryd.prog 50 [V.agg [C.i N, C.sl 0 ps.length]] [⟨0, .ro 2, cellC ps⟩] 1 (Is (V.tup [A.c (C.i 0), A.c (C.i 70)])) := by
  have hva := rvalid_spec N ps hl
  rw [he] at hva
  refine Spec.of tok Tryd.func50 rfl rfl rfl fun n0 cx => vc_ok tok ?_
  repeat ((conv => whnf); first | refine Exists.intro _ (And.intro rfl ?_) | refine fun (K' : K3) hK' => ?_ | (refine hK' _ _ _ ?_; clear hK' K') | (refine CallK.val (R := []) hva (by kernel_rfl) rfl (by simp [V.wf, A.wf, C.wf, V.i]) ⟨roE_f (flat_c _) (l := 0) rfl (by omega) rfl (.inr rfl), trivial⟩ rfl rfl (by first | trivial | simp [V.wf, A.wf, C.wf]) ?_) | refine br_bt (Eq.refl true) ?_ | refine CallK.m ?_)
  intro ρ; rfl
set_option maxRecDepth 10000 in
set_option maxHeartbeats 4000000 in
theorem rFewest_spec (n : Nat) (qs : List (Nat × Nat)) (hk : Knd n qs) : Spec Tryd.prog 50 [V.agg [C.i n, C.sl 0 (castP qs).length]] [⟨0, .ro 2, cellC (castP qs)⟩] 1 (Is (V.tup [A.c (C.i (fewI (tabS n qs) n)), A.c (C.i 0)])) := by
  have hn := hk.rng
  have hpl := castP_len qs
  have hql := knd_len hk
  have hva := rvalid_spec n (castP qs) (by omega)
  rw [knd_ok hk] at hva
  have hfe := frst_few hk
  obtain ⟨k, hkn, hke, _, _⟩ := fewI_least hk
  refine Spec.of tok Tryd.func50 rfl rfl rfl fun n0 cx => vc_ok tok ?_
  repeat ((conv => whnf); first | refine Exists.intro _ (And.intro rfl ?_) | refine fun (K' : K3) hK' => ?_ | (refine hK' _ _ _ ?_; clear hK' K') | (refine CallK.val (R := []) hva (by kernel_rfl) rfl (by simp [V.wf, A.wf, C.wf, V.i]) ⟨roE_f (flat_c _) (l := 0) rfl (by omega) rfl (.inr rfl), trivial⟩ rfl rfl (by first | trivial | simp [V.wf, A.wf, C.wf]) ?_) | refine br_bf (Eq.refl false) ?_ | refine CallK.m ?_)
  refine Tri.loop (γ := Nat) (fun x => 1 ≤ x ∧ x ≤ n ∧ ∀ y, y < x → frst (symC (clP qs)) y n [] = none) (fun x => [(1, V.c (.ptr 1 0)), (4, V.i (x : Nat))])
    (fun x => [⟨1, .own 24, [C.i n, .sl 0 (castP qs).length]⟩, ⟨0, .ro 2, cellC (castP qs)⟩]) 2 (fun x => n - x) 1 (R0 := []) ?_ ?_ ?_
  · refine ⟨Nat.le_refl _, hn.1, fun y hy => ?_⟩
    obtain rfl : y = 0 := by omega
    exact frst_zero _ hn.1
  · skip
    refine ⟨?_, ?_, rfl, rfl, by exact Nat.le_of_ble_eq_true rfl⟩
    · repeat (first | exact trivial | (refine And.intro (covS_syn (by rfl) rfl (by first | exact trivial | exact Nat.le_of_ble_eq_true rfl)) ?_))
    · repeat (first | exact trivial | refine And.intro (covE_id (Nat.le_of_ble_eq_true rfl) (by first | exact wf_us _ _ | exact wf_cells _ _ | (simp [C.wf]; done)) rfl (by rfl)) ?_)
  · rintro x ⟨hx1, hxn, hno⟩
    refine vc_ok tok ?_
    have hlow : ¬ fewI (tabS n qs) n ≤ ((x - 1 : Nat) : Int) := fun h => by
      obtain ⟨l, hl⟩ := (hfe (x - 1)).2 h
      rw [hno _ (by omega)] at hl; cases hl
    by_cases hxl : x < n
    · have hft := rfirst_top n qs hk x (by omega)
      cases ho : frst (symC (clP qs)) x n [] with
      | none =>
        rw [ho] at hft
        have hft' : Spec Tryd.prog 82 [V.agg [C.i n, C.sl 0 (castP qs).length], V.c (.sl 1 0), V.i x] [⟨0, .ro 2, cellC (castP qs)⟩, ⟨1, .ro 0, []⟩] 2 (Is (V.tup [A.c .nil, A.c C.ff])) := hft
        repeat ((conv => whnf); first | (refine And.intro (by first | omega | exact Nat.le_of_ble_eq_true rfl | (dsimp only [inK]; omega)) ?_) | refine Exists.intro _ (And.intro rfl ?_) | refine br_t (by omega) ?_ | refine fun (K' : K3) hK' => ?_ | (refine hK' _ _ _ ?_; clear hK' K') | (refine CallK.val (R := [(0, some 0), (1, none)]) hft' (by kernel_rfl) rfl (by simp [V.wf, A.wf, C.wf, V.i]) ⟨roE_f (flat_c _) (l := 0) rfl (by omega) rfl (.inr rfl), roE_none rfl (by omega), trivial⟩ rfl rfl (by first | trivial | simp [V.wf, A.wf, C.wf]) ?_) | refine CallK.m ?_)
        refine ⟨x + 1, [], ⟨by omega, by omega, fun y hy => ?_⟩, by omega, ?_⟩
        · by_cases h : y = x
          · subst h; exact ho
          · exact hno y (by omega)
        refine ⟨?_, ?_, rfl, rfl, by exact Nat.le_of_ble_eq_true rfl⟩
        · repeat (first | exact trivial | (refine And.intro (covS_syn (by rfl) rfl (by first | exact trivial | exact Nat.le_of_ble_eq_true rfl)) ?_))
        · repeat (first | exact trivial | refine And.intro (covE_id (Nat.le_of_ble_eq_true rfl) (by first | exact wf_us _ _ | exact wf_cells _ _ | (simp [C.wf]; done)) rfl (by rfl)) ?_)
      | some l =>
        rw [ho] at hft
        have hft' : Spec Tryd.prog 82 [V.agg [C.i n, C.sl 0 (castP qs).length], V.c (.sl 1 0), V.i x] [⟨0, .ro 2, cellC (castP qs)⟩, ⟨1, .ro 0, []⟩] 2 (fun v L' _ => ∃ lab, v = V.tup [A.c (.sl lab n), A.c C.tt] ∧ find L' lab = some ⟨lab, .vec 3 1, (natI l).map C.i⟩) := hft
        have hup := (hfe x).1 ⟨l, ho⟩
        have heq : fewI (tabS n qs) n = (x : Int) := by omega
        rw [heq]
        repeat ((conv => whnf); first | (refine And.intro (by first | omega | exact Nat.le_of_ble_eq_true rfl) ?_) | refine Exists.intro _ (And.intro rfl ?_) | refine br_t (by omega) ?_ | refine fun (K' : K3) hK' => ?_ | (refine hK' _ _ _ ?_; clear hK' K') | refine CallK.rowB (R := [(0, some 0), (1, none)]) (flat_i _) hft' (by kernel_rfl) rfl (by simp [V.wf, A.wf, C.wf, V.i]) ⟨roE_f (flat_c _) (l := 0) rfl (by omega) rfl (.inr rfl), roE_none rfl (by omega), trivial⟩ rfl ?_ | refine CallK.m ?_)
        intro ρ; rfl
    · obtain rfl : x = n := by omega
      have heq : fewI (tabS x qs) x = (x : Int) := by omega
      rw [heq]
      repeat ((conv => whnf); first | (refine And.intro (by first | omega | exact Nat.le_of_ble_eq_true rfl) ?_) | refine Exists.intro _ (And.intro rfl ?_) | refine br_f (by omega) ?_ | refine fun (K' : K3) hK' => ?_ | (refine hK' _ _ _ ?_; clear hK' K'))
      intro ρ; rfl
end Go.Proofs.YtijnimgmpocmaaaDoor

