/- Texts of the proof, part 7: T1, T2, R2s, O1, T3, T4, J1, E1, E2, J2, J3, V4, O2, L0, L3, J4, LT, D1. -/
import Derived.Test.YtijnimgmpocmaaaDoorI6
import Derived.WalkKit
import Derived.Below
import Derived.Lib.TrailingZeros
import Derived.Laws.OwnMore
import Derived.Maps.AppendAt
import Derived.Laws.IdiomCopy
import Derived.Laws.CopyRow
import Derived.IntWalk
import Derived.StillTail
import Derived.Scope
import Derived.ChangeKeysEq
import Derived.Laws.Small
import Derived.OrdersIn
import Derived.TacticsIn
import Derived.OwnWalkIn
import Derived.RangeFuncNested
import Derived.RangeFuncLeaves
import Derived.RangeFuncRecord
import Derived.Maps.Keyed
import Derived.Maps.RangeRun
import Derived.DeepKeys4
import Derived.Test.YtijnimgmpocmaaaDoorRows
import Derived.KernelRfl
import Derived.Shelf.Spec.TrailingZeros
import Derived.PlainAid
import Derived.StillTailTactics
import Derived.WalkSpells
import Derived.OwnWalk
import Derived.Deep.RegionLaw
import Derived.Lib.SliceRun
import Derived.ProofKit
import Derived.OpenShut
import Derived.Lib.SmallJoins
import Derived.Deep.Slices
import Derived.Deep.RegionHeld3
import Derived.Lib.Hide
import Derived.LaidMore
import Derived.Stop.Joined
/- slices.Delete of one cell. -/
namespace Go.Proofs.YtijnimgmpocmaaaDoor
open Go.RowKit
set_option linter.unusedVariables false
set_option linter.unusedSimpArgs false
section
variable {P : Program}
theorem run_app_in (w : World) (t ty e : TypeId) (i : TypeInfo) (ht : P.underlying t = some (.slice e)) (hi : P.info? e = some i) (hsz : i.size = 2) (g off n cap : Nat) (cur : Array Value) (hg : w.heap[g]? = some (.cells cur e (0, 0)))
    (a : Addr) (m c : Nat) (news : List Value) (hl : news.length = m * 2) (hnews : ∀ j u, news[j]? = some u → w.cell? (a.add j) = some u) (h1 : ∀ u ∈ news, u.oneCell' = true) (hroom : n + m ≤ cap) (hcs : off + cap * 2 ≤ cur.size) :
    (Builtin.append_ #[t, t] ty #[.slice (some ⟨g, off, none⟩) n cap, .slice (some a) m c]).run P w = .ok (.slice (some ⟨g, off, none⟩) (n + m) cap) (w.setRow g (cur.toList.take (off + n * 2) ++ news ++ cur.toList.drop (off + n * 2 + news.length)).toArray) := by
  have hf := run_firstCells_some (P := P) w i.size m a m c news (by rw [hsz]; exact hl) hnews
  have hst := run_storeCells_at P g (off + n * i.size) e news 0 cur w hg (by rw [hsz]; omega) h1
  simp only [Nat.add_zero] at hst
  have hadd : (⟨g, off, none⟩ : Addr).add (n * i.size) = ⟨g, off + n * i.size, none⟩ := by unfold Addr.add; split <;> simp_all
  rw [← hsz]
  simp [Builtin.append_, run_underlying ht, sizeOf, typeInfo, hi, Builtin.lenOf, hroom, hf, hadd, hst]
theorem run_clear_one (w : World) (t e ty : TypeId) (z : Value) (ht : P.underlying t = some (.slice e)) (hv : ∀ w, (zeroValue e).run P w = .ok z w) (x y : Value) (hz : z.cells = #[x, y]) (h1 : x.oneCell' = true) (h2 : y.oneCell' = true) (g o c : Nat) (cur : Array Value) (hg : w.heap[g]? = some (.cells cur e (0, 0))) (hcs : o + 2 ≤ cur.size) :
    (Builtin.clear_ #[t] ty #[.slice (some ⟨g, o, none⟩) 1 c]).run P w = .ok (.tuple #[]) (w.setRow g (cur.toList.take o ++ [x, y] ++ cur.toList.drop (o + 2)).toArray) := by
  have hst := run_storeCells_at P g o e [x, y] 0 cur w hg (by simpa using hcs) (by intro v hv; simp at hv; rcases hv with rfl | rfl; exact h1; exact h2)
  simp only [Nat.add_zero] at hst
  have hzc : (Builtin.zeroCells z.cells 1).toList = [x, y] := by rw [hz]; simp [Builtin.zeroCells, Array.toList_range, List.range_succ]
  simp [Builtin.clear_, run_underlying ht, hv, hzc, hst]
/-- An append in a region that draws its order, by its run. -/
theorem step_append_any {ops : Array Oper} {o : Oper} {a : Act} {w : World} {K : Act → World → Prop} {Q : Exit → Act → World → Prop} {E : Prop}
    (hg : o.guard = none) (s x : Operand) (t : TypeId) (hop : o.op = Op.call { callee := Callee.builtin Builtin.append, args := #[s, x], argTypes := #[t, t] })
    (vs vx v' : Value) (w' : World) (hs : a.eval s = vs) (hx : a.eval x = vx) (hrun : ∀ ty, (Builtin.append_ #[t, t] ty #[vs, vx]).run P w = .ok v' w') (hK : K (a.put o.dst v') w') :
    if Region.wanted o (yielded ops a.tmps) = true then Oper.wp P o a w K Q else E := by
  have hw : Region.wanted o (yielded ops a.tmps) = true := by simp [Region.wanted, hg]
  rw [if_pos hw]
  unfold Oper.wp
  simp [execOp, hop, resolve, invoke, builtin, hs, hx, hrun, Result.andThen]
  exact hK
end
theorem row_del {w : World} {n0 g off n cap i : Nat} {xs : List Value} {cur : Array Value} {x y : Value} (hg : w.heap[g]? = some (.cells cur 59 (0, 0))) (hx : xs.length = n * 2) (hb : n0 ≤ g) (hnc : n ≤ cap) (hcm : cap ≤ maxLen) (hcs : off + cap * 2 ≤ cur.size) (htake : (cur.toList.drop off).take (n * 2) = xs) (hi : i < n) (w1 w2 : World)
    (hw1 : w1 = w.drew.setRow g (cur.toList.take (off + i * 2) ++ xs.drop ((i + 1) * 2) ++ cur.toList.drop (off + i * 2 + (xs.drop ((i + 1) * 2)).length)).toArray)
    (hw2 : ∀ cur1, w1.heap[g]? = some (.cells cur1 59 (0, 0)) → w2 = w1.setRow g (cur1.toList.take (off + (i + (n - (i + 1))) * 2) ++ [x, y] ++ cur1.toList.drop (off + (i + (n - (i + 1))) * 2 + 2)).toArray) :
    w.grownBy w2 (some g) ∧ rowO w2 n0 59 2 (.slice (some ⟨g, off, none⟩) (i + (n - (i + 1))) cap) (i + (n - (i + 1))) (xs.take (i * 2) ++ xs.drop ((i + 1) * 2)) := by
  have hlx : (xs.drop ((i + 1) * 2)).length = (n - (i + 1)) * 2 := by rw [List.length_drop, hx]; omega
  have hg1 : w1.heap[g]? = some (.cells (cur.toList.take (off + i * 2) ++ xs.drop ((i + 1) * 2) ++ cur.toList.drop (off + i * 2 + (xs.drop ((i + 1) * 2)).length)).toArray 59 (0, 0)) := by
    rw [hw1]; exact setRow_heap w.drew g cur _ 59 _ hg
  have h2 := hw2 _ hg1
  have hcl : cur.toList.length = cur.size := Array.length_toList
  have ht1 : (cur.toList.take (off + i * 2)).length = off + i * 2 := by rw [List.length_take]; omega
  have hgg := setRow_heap w1 g _ (List.toArray (List.take (off + (i + (n - (i + 1))) * 2) (cur.toList.take (off + i * 2) ++ xs.drop ((i + 1) * 2) ++ cur.toList.drop (off + i * 2 + (xs.drop ((i + 1) * 2)).length)) ++ [x, y] ++ List.drop (off + (i + (n - (i + 1))) * 2 + 2) (cur.toList.take (off + i * 2) ++ xs.drop ((i + 1) * 2) ++ cur.toList.drop (off + i * 2 + (xs.drop ((i + 1) * 2)).length)))) 59 _ hg1
  simp only [List.toList_toArray] at h2
  rw [← h2] at hgg
  have e1 : (cur.toList.take (off + i * 2) ++ xs.drop ((i + 1) * 2) ++ cur.toList.drop (off + i * 2 + (xs.drop ((i + 1) * 2)).length)).take (off + (i + (n - (i + 1))) * 2) = cur.toList.take (off + i * 2) ++ xs.drop ((i + 1) * 2) := by
    rw [List.take_left' (by rw [List.length_append, ht1, hlx]; omega)]
  rw [e1] at hgg
  refine ⟨?_, ?_, .inr ⟨g, off, cap, _, rfl, hb, hgg, by omega, hcm, ?_, ?_⟩⟩
  · rw [h2, hw1]
    exact ⟨rfl, rfl, rfl, by simp, fun k hk hne => by rw [setRow_other _ g k _ (fun e => hne (by rw [e])), setRow_other _ g k _ (fun e => hne (by rw [e]))]; rfl⟩
  · rw [List.length_append, List.length_take, hlx, hx]; omega
  · simp only [List.size_toArray, List.length_append, List.length_drop, ht1, hlx, List.length_cons, List.length_nil]; omega
  · rw [List.append_assoc, List.append_assoc, List.drop_append_of_le_length (by rw [ht1]; omega), List.drop_take, show off + i * 2 - off = i * 2 by omega]
    have : (cur.toList.drop off).take (i * 2) = xs.take (i * 2) := by rw [← htake, List.take_take]; congr 1; omega
    rw [this, ← List.append_assoc, List.take_left' (by rw [List.length_append, List.length_take, hlx, hx]; omega)]
set_option maxRecDepth 1000000 in
set_option maxHeartbeats 4000000 in
theorem delete_any (g off n cap i j : Nat) (w : World) (n0 : Nat) (xs : List Value) (hown : rowO w n0 59 2 (.slice (some ⟨g, off, none⟩) n cap) n xs) (h1 : ∀ u ∈ xs, u.oneCell' = true) (hij : j = i + 1) (hj : j ≤ n) :
    Calls Tryd.prog 65 #[.slice (some ⟨g, off, none⟩) n cap, .int .i64 i, .int .i64 j] w fun e w' => e = .returned (.slice (some ⟨g, off, none⟩) (i + (n - j)) cap) ∧ w.grownBy w' (some g) ∧ rowO w' n0 59 2 (.slice (some ⟨g, off, none⟩) (i + (n - j)) cap) (i + (n - j)) (xs.take (i * 2) ++ xs.drop (j * 2)) := by
  obtain ⟨hx, ⟨h', _⟩ | ⟨g', off', cap', cur, h', hb, hg, hnc, hcm, hcs, htake⟩⟩ := hown
  · simp at h'
  simp only [Value.slice.injEq, Option.some.injEq, Addr.mk.injEq, and_true, true_and] at h'
  obtain ⟨⟨rfl, rfl⟩, rfl⟩ := h'
  obtain ⟨i0, hi0, hz0⟩ : ∃ i, Tryd.prog.info? 59 = some i ∧ i.size = 2 := ⟨(Tryd.prog.info? 59).getD default, by kernel_rfl, by kernel_rfl⟩
  have hcell : ∀ t u, xs[t]? = some u → w.drew.cell? ⟨g, off + t, none⟩ = some u := by
    intro t u hu
    have ht : t < n * 2 := by rw [← hx]; exact (List.getElem?_eq_some_iff.1 hu).1
    show w.cell? _ = _
    rw [cell_of_row w g (off + t) cur 59 (0, 0) hg, ← hu, ← htake, List.getElem?_take, if_pos ht, List.getElem?_drop]
    simp
  obtain ⟨news, hnews⟩ : ∃ news, news = xs.drop (j * 2) := ⟨_, rfl⟩
  have hlen : news.length = (n - j) * 2 := by rw [hnews, List.length_drop, hx]; omega
  obtain ⟨A, hA, hsrc⟩ : ∃ A : Addr, (if cap = j then some (⟨g, off, none⟩ : Addr) else some ⟨g, off + j * 2, none⟩) = some A ∧ (∀ t u, news[t]? = some u → w.drew.cell? (A.add t) = some u) := by
    by_cases h : cap = j
    · refine ⟨⟨g, off, none⟩, by simp [h], fun t u hu => ?_⟩
      have h0 : news.length = 0 := by rw [hlen]; omega
      rw [List.length_eq_zero_iff.1 h0] at hu
      simp at hu
    · refine ⟨⟨g, off + j * 2, none⟩, by simp [h], fun t u hu => ?_⟩
      rw [hnews, List.getElem?_drop] at hu
      rw [Addr.add_lit, Nat.add_assoc]
      exact hcell _ _ hu
  obtain ⟨W1, hW1⟩ : ∃ W1, W1 = w.drew.setRow g (cur.toList.take (off + i * 2) ++ news ++ cur.toList.drop (off + i * 2 + news.length)).toArray := ⟨_, rfl⟩
  have hrun : ∀ ty, (Builtin.append_ #[22, 22] ty #[.slice (some ⟨g, off, none⟩) i cap, .slice (some A) (n - j) (cap - j)]).run Tryd.prog w.drew = .ok (.slice (some ⟨g, off, none⟩) (i + (n - j)) cap) W1 := fun ty => by
    rw [hW1]
    exact run_app_in w.drew 22 ty 59 i0 Tryd.underlying22 hi0 hz0 g off i cap cur hg A (n - j) (cap - j) news hlen hsrc (fun u hu => h1 u (List.mem_of_mem_drop (hnews ▸ hu))) (by omega) hcs
  have hg1 : W1.heap[g]? = some (.cells (cur.toList.take (off + i * 2) ++ news ++ cur.toList.drop (off + i * 2 + news.length)).toArray 59 (0, 0)) := by
    rw [hW1]; exact setRow_heap w.drew g cur _ 59 _ hg
  have hsz1 : off + (i + (n - j)) * 2 + 2 ≤ (cur.toList.take (off + i * 2) ++ news ++ cur.toList.drop (off + i * 2 + news.length)).toArray.size := by
    simp only [List.size_toArray, List.length_append, List.length_take, List.length_drop, Array.length_toList, hlen]; omega
  obtain ⟨cur1, hcur1⟩ : ∃ c, c = (cur.toList.take (off + i * 2) ++ news ++ cur.toList.drop (off + i * 2 + news.length)).toArray := ⟨_, rfl⟩
  rw [← hcur1] at hg1 hsz1
  have hone : n - (i + (n - j)) = 1 := by omega
  obtain ⟨W2, hW2⟩ : ∃ W2, W2 = W1.setRow g (cur1.toList.take (off + (i + (n - j)) * 2) ++ [Value.int .i64 0, Value.int .i64 0] ++ cur1.toList.drop (off + (i + (n - j)) * 2 + 2)).toArray := ⟨_, rfl⟩
  have hcl : ∀ ty, (Builtin.clear_ #[22] ty #[.slice (some ⟨g, off + (i + (n - j)) * 2, none⟩) (n - (i + (n - j))) (cap - (i + (n - j)))]).run Tryd.prog W1 = .ok (.tuple #[]) W2 := fun ty => by
    rw [hone, hW2]
    exact run_clear_one W1 22 59 ty _ Tryd.underlying22 (fun w => Tryd.zeroValue59 w) _ _ rfl rfl rfl g _ _ cur1 hg1 hsz1
  have hfin := row_del (w := w) (n0 := n0) (x := .int .i64 0) (y := .int .i64 0) hg hx hb hnc hcm hcs htake (i := i) (by omega) W1 W2 (by rw [hW1, hnews, hij]) (fun c hc => by rw [hg1] at hc; cases hc; rw [hW2, hij])
  rw [← hij] at hfin
  have hic : i ≤ cap := by omega
  have hjc : j ≤ cap := by omega
  have hij' : i ≠ j := by omega
  have hle : i ≤ j := by omega
  have H1 : Hid (∀ ty, (Builtin.append_ #[22, 22] ty #[.slice (some ⟨g, off, none⟩) i cap, .slice (some A) (n - j) (cap - j)]).run Tryd.prog w.drew = .ok (.slice (some ⟨g, off, none⟩) (i + (n - j)) cap) W1) := hrun
  clear hij hrun hcell hsrc hW1 hW2 hg1 hsz1 hcur1 hg htake h1 hone hnews hlen
  go_enter Tryd.func65, Tryd.ntmps65
  go_wp2_with fail
  go_region_law (refine step_append_any rfl (.tmp 22) (.tmp 25) 22 rfl (.slice (some ⟨g, off, none⟩) i cap) (.slice (some A) (n - j) (cap - j)) (.slice (some ⟨g, off, none⟩) (i + (n - j)) cap) W1 (by simp [Act.eval, Act.put]) (by simp [Act.eval, Act.put, *]) H1.out ?_)
  go_wp2
  go_ret
  exact ⟨rfl, hfin⟩
end Go.Proofs.YtijnimgmpocmaaaDoor

/- slices.Clone, slices.Delete, slices.Backward at cells: calls of the calculus. -/
namespace Go.Proofs.YtijnimgmpocmaaaDoor
open Go.RowKit
set_option linter.unusedVariables false
set_option linter.unusedSimpArgs false
theorem ro_getC {w : World} {ao : Option Addr} {l : List Value} {k : Nat} (h : RoAt w ao l) (hk : k < l.length) : ∃ b off, ao = some ⟨b, off, none⟩ ∧ b < w.heap.size ∧ w.cell? ⟨b, off + k, none⟩ = some (l.getD k undef) := by
  obtain ⟨b, off, h1, h2, h3⟩ := h (by intro e; rw [e] at hk; simp at hk)
  exact ⟨b, off, h1, h2, h3 k hk⟩
set_option maxRecDepth 100000 in
set_option maxHeartbeats 400000 in
theorem cloneC_any (ao : Option Addr) (c n : Nat) (xs : List Value) (w : World) (hl : RoAt w ao xs) (h2 : xs.length = n * 2) (h1 : ∀ u ∈ xs, u.oneCell' = true) (hn : n ≤ 1000000) :
    Calls Tryd.prog 66 #[.slice ao n c] w fun e w' => ∃ rv, e = .returned rv ∧ w'.ownsRow w.heap.size 59 2 rv n xs ∧ Below w.heap.size w w' := by
  cases ao with
  | none =>
    have h0 : n = 0 := by
      cases n with
      | zero => rfl
      | succ n => obtain ⟨b, off, h, _⟩ := ro_getC hl (k := 0) (by omega); cases h
    subst h0
    have hx : xs = [] := List.eq_nil_of_length_eq_zero (by simpa using h2)
    subst hx
    have he := fun W => Lib.run_eql_slice_nil (P := Tryd.prog) W 22 59 none 0 c 0 0 Tryd.underlying22
    go_enter Tryd.func66, Tryd.ntmps66
    go_wp2
    go_ret
    exact ⟨_, rfl, World.ownsRow_nil _ _ _ _, Below.refl _ _⟩
  | some a =>
    have he := fun W => Lib.run_eql_slice_nil (P := Tryd.prog) W 22 59 (some a) n c 0 0 Tryd.underlying22
    obtain ⟨i0, hi, hz0, hz1, hz2⟩ : ∃ i, Tryd.prog.info? 59 = some i ∧ i.size = 2 ∧ i.bytes = 16 ∧ i.zero = some (.agg #[.int .i64 0, .int .i64 0]) := ⟨(Tryd.prog.info? 59).getD default, by kernel_rfl, by kernel_rfl, by kernel_rfl, by kernel_rfl⟩
    have hown : (w.alloc (.cells #[] 59)).ownsRow w.heap.size 59 2 (.slice (some ⟨w.heap.size, 0, none⟩) 0 0) 0 [] :=
      ⟨rfl, .inr ⟨w.heap.size, 0, #[], rfl, Nat.le_refl _, World.alloc_heap_new _ _, Nat.le_refl _, by simp [maxLen], rfl, rfl⟩⟩
    have hnews : ∀ j u, xs[j]? = some u → (w.alloc (.cells #[] 59)).cell? (a.add j) = some u := by
      intro j u hj
      obtain ⟨hj1, hj2⟩ := List.getElem?_eq_some_iff.1 hj
      obtain ⟨b, off, ha, hb, hc⟩ := ro_getC hl hj1
      obtain rfl : a = ⟨b, off, none⟩ := by simpa using ha
      have : (⟨b, off, none⟩ : Addr).add j = ⟨b, off + j, none⟩ := by
        unfold Addr.add; split
        · rename_i h; subst h; rfl
        · rfl
      rw [this, World.cell?_alloc_lt _ _ _ hb, hc, ← hj2]
      simp [List.getD_eq_getElem?_getD, List.getElem?_eq_getElem hj1]
    have hxl : xs.length = n * 2 := h2
    go_enter Tryd.func66, Tryd.ntmps66
    go_wp2_with (first | (at_builtin; go_loud (refine wpList_append_own _ rfl _ _ 22 rfl w.heap.size 59 i0 (.agg #[.int .i64 0, .int .i64 0]) 2 16 Tryd.underlying22 hi hz2 hz0 hz1 rfl (by decide) _ _ _ rfl hown a n c xs rfl hxl hnews h1 (by simp [maxLen]; omega) (by omega) (by simp) ?_; intro v' w1 hown1 hgrow1 _)))
    go_ret
    exact ⟨_, rfl, by simpa using hown1, ((Below.refl _ _).alloc (Nat.le_refl _) _).grown hgrow1 (by simp) (fun k e => by cases e; exact Nat.le_refl _)⟩
/-- The cells of a list but one. -/
theorem cellC_erase : ∀ (l : List Cell) (k : Nat), (cellC l).take (k * 2) ++ (cellC l).drop ((k + 1) * 2) = cellC (l.eraseIdx k)
  | [], k => by simp [cellC]
  | x :: r, 0 => by simp [cellC_cons]
  | x :: r, k + 1 => by
    have := cellC_erase r k
    rw [List.eraseIdx_cons_succ, cellC_cons, cellC_cons, ← this, show (k + 1 + 1) * 2 = ((k + 1) * 2 + 1) + 1 by omega, show (cellC r).take (k * 2) = (cellC r).take (k * 2) from rfl]
    simp only [show (k + 1) * 2 = (k * 2 + 1) + 1 by omega, List.take_succ_cons, List.drop_succ_cons, List.cons_append]
end Go.Proofs.YtijnimgmpocmaaaDoor

/- Waste: SameInts. -/
namespace Go.Proofs.YtijnimgmpocmaaaDoor
open Go.RowKit
set_option linter.unusedVariables false
set_option linter.unusedSimpArgs false
end Go.Proofs.YtijnimgmpocmaaaDoor

/- Waste: how kinds, fillings and numbers that came in read. -/
namespace Go.Proofs.YtijnimgmpocmaaaDoor
open Go.RowKit
set_option linter.unusedVariables false
set_option linter.unusedSimpArgs false
open Go.ChangeShapes Go.WideShapes Go.ChangeAt Go.RowKit Go.Deep Go.Joins
theorem u8_bd {n : Int} (h : (Lit.int .u8 n).wf = true) : 0 ≤ n ∧ n ≤ 255 := by
  simp [Lit.wf, IntKind.min, IntKind.max, IntKind.signed, IntKind.bits] at h; omega
theorem ro_at {w : World} {a : Addr} {cs : List Value} (h : ∀ i, i < cs.length → w.cell? (a.add i) = some (cs.getD i undef)) : RoAt w (some a) cs := by
  intro hne
  have hp : 0 < cs.length := List.length_pos_iff.2 hne
  obtain ⟨b, off, spot⟩ := a
  have hspot : spot = none := by simpa [Addr.add] using World.cell?_spot (h 0 hp)
  subst hspot
  refine ⟨b, off, rfl, ?_, fun j hj => by rw [← Go.WideShapes.add_plain]; exact h j hj⟩
  have := World.block_lt_of_cell? _ _ (h 0 hp)
  simpa [Addr.add] using this
theorem add_add (a : Addr) (i j : Nat) : (a.add i).add j = a.add (i + j) := by
  unfold Addr.add
  by_cases hi : i = 0
  · subst hi; simp
  · by_cases hj : j = 0
    · subst hj; simp [hi]
    · simp [hi, hj, Nat.add_assoc]
def cellV (l : List Cell) : List Value := l.flatMap fun x => [.int .i64 x.1, .int .i64 x.2]
theorem cellV_len (l : List Cell) : (cellV l).length = 2 * l.length := by
  induction l with
  | nil => rfl
  | cons x l ih => simp only [cellV, List.flatMap_cons, List.length_append] at *; simp [ih]; omega
theorem cellV_get : ∀ {l : List Cell} {k : Nat}, k < l.length → (cellV l).getD (k * 2) undef = .int .i64 (l.getD k (0, 0)).1 ∧ (cellV l).getD (k * 2 + 1) undef = .int .i64 (l.getD k (0, 0)).2
  | x :: l, 0, _ => ⟨rfl, rfl⟩
  | x :: l, k + 1, h => by
    have := cellV_get (l := l) (k := k) (by simpa using h)
    simp only [cellV, List.flatMap_cons] at *
    rw [show (k + 1) * 2 + 1 = k * 2 + 1 + 1 + 1 by omega, show (k + 1) * 2 = k * 2 + 1 + 1 by omega]
    simpa using this
theorem den_cells (ρ : Env) (l : List Cell) : (cellC l).map (C.den ρ) = cellV l := by
  induction l with
  | nil => rfl
  | cons x l ih => simp only [cellC, cellV, List.flatMap_cons, List.map_append] at *; rw [ih]; rfl
def CellsAt (W : World) (ao : Option Addr) (c : Nat) (l : List Cell) : Prop := RoAt W ao (cellV l) ∧ l.length ≤ c ∧ l.length < 9223372036854775808
def IntsAt (W : World) (ao : Option Addr) (l : List Int) : Prop := RoAt W ao (l.map (Value.int .i64)) ∧ l.length < 9223372036854775808
section
variable {H : Type} {enc : TypeId × Value → H} {W : World} {sp : Nat → Bool}
set_option maxRecDepth 10000 in
theorem open_cells22 {n : Nat} {v : Value} {x : DataW H × List MemPlace} (h : DataW.trod enc Tryd.prog W 0 sp true n 22 [v] = some x) :
    ∃ (ao : Option Addr) (c : Nat) (l : List Cell), v = .slice ao l.length c ∧ CellsAt W ao c l := by
  rcases open_slice Tryd.underlying22 h with ⟨hcs, _⟩ | ⟨a, len, cap, m, f, D, Pl, hcs, _, hl, hmax, hm, _, hx⟩
  · cases hcs
    exact ⟨none, 0, [], rfl, fun hne => absurd rfl hne, by simp, by simp⟩
  · cases hcs
    have hc2 : Tryd.prog.cellsOf 59 = 2 := by kernel_rfl
    have hc1 : Tryd.prog.cellsOf 3 = 1 := by kernel_rfl
    have hlm : len ≤ m := by rw [hm]; split <;> omega
    have hlen : len < 9223372036854775808 := by unfold maxLen at hmax; omega
    rw [hc2] at hx
    obtain ⟨b, hb⟩ := choose_lt (α := Cell) (n := len) (p := fun i y => W.cell? (a.add (i * 2)) = some (.int .i64 y.1) ∧ W.cell? (a.add (i * 2 + 1)) = some (.int .i64 y.2)) (fun i hi => by
      obtain ⟨cs', h1, h2⟩ := hx i (by omega)
      obtain ⟨_, hlen, hcell⟩ := World.cells?_some h1
      obtain ⟨xs, k, _, _, hl2, hxl, hgo⟩ := DataW.trod_array Tryd.underlying59 h2
      match cs', hlen with
      | [c0, c1], _ =>
        have h3 := hgo 0 (by omega)
        have h4 := hgo 1 (by omega)
        simp [hc1] at h3 h4
        obtain ⟨y0, hy0⟩ : ∃ y, xs[0]? = some y := ⟨xs[0]'(by omega), List.getElem?_eq_getElem _⟩
        obtain ⟨y1, hy1⟩ : ∃ y, xs[1]? = some y := ⟨xs[1]'(by omega), List.getElem?_eq_getElem _⟩
        rw [hy0] at h3
        rw [hy1] at h4
        obtain ⟨z0, e0, _, _⟩ := DataW.trod_int Tryd.underlying3 h3
        obtain ⟨z1, e1, _, _⟩ := DataW.trod_int Tryd.underlying3 h4
        cases e0
        cases e1
        have g0 := hcell 0 (by omega)
        have g1 := hcell 1 (by omega)
        rw [add_add] at g0 g1
        exact ⟨(z0, z1), by simpa using g0, by simpa using g1⟩)
    refine ⟨some a, cap, (List.range len).map b, by simp, ro_at (fun i hi => ?_), by simpa using hl, by simpa using hlen⟩
    rw [cellV_len] at hi
    simp only [List.length_map, List.length_range] at hi
    have hq : i / 2 < len := by omega
    obtain ⟨g0, g1⟩ := hb (i / 2) hq
    obtain ⟨k0, k1⟩ := cellV_get (l := (List.range len).map b) (k := i / 2) (by simpa using hq)
    have hgd : ((List.range len).map b).getD (i / 2) (0, 0) = b (i / 2) := by simp [List.getD_eq_getElem?_getD, hq]
    rw [hgd] at k0 k1
    rcases Nat.mod_two_eq_zero_or_one i with hi2 | hi2
    · rw [show i / 2 * 2 = i by omega] at g0 k0
      rw [g0, k0]
    · rw [show i / 2 * 2 + 1 = i by omega] at g1 k1
      rw [g1, k1]
theorem open_ints25 {n : Nat} {v : Value} {x : DataW H × List MemPlace} (h : DataW.trod enc Tryd.prog W 0 sp true n 25 [v] = some x) :
    ∃ (ao : Option Addr) (c : Nat) (l : List Int), v = .slice ao l.length c ∧ IntsAt W ao l := by
  rcases open_slice1 Tryd.underlying25 (by kernel_rfl) h with ⟨hcs, _⟩ | ⟨a, len, cap, m, f, V, D, Pl, hcs, _, hl, hmax, hm, _, hx⟩
  · cases hcs
    exact ⟨none, 0, [], rfl, fun hne => absurd rfl hne, by simp⟩
  · cases hcs
    have hlm : len ≤ m := by rw [hm]; split <;> omega
    have hlen : len < 9223372036854775808 := by unfold maxLen at hmax; omega
    obtain ⟨b, hb⟩ := choose_lt (α := Int) (n := len) (p := fun i b => V i = .int .i64 b) (fun i hi => by
      obtain ⟨b, hb, _, hw⟩ := DataW.trod_int Tryd.underlying3 (hx i (by omega)).2
      exact ⟨b, by simpa using hb⟩)
    refine ⟨some a, cap, (List.range len).map b, by simp, ro_at (fun i hi => ?_), by simpa using hlen⟩
    have hi' : i < len := by simpa using hi
    rw [(hx i (by omega)).1, hb i hi']
    simp [List.getD_eq_getElem?_getD, hi']
set_option maxRecDepth 100000 in
theorem open_kinds {v : Value} {d : DataW H} {p : List MemPlace} {r : Reach} {b0 : Nat} (hv : Value.okWide Tryd.prog W r b0 24 v) (h : DataW.Trod enc Tryd.prog W 0 sp true 24 v d p) :
    ∃ (N : Int) (ps : List Cell) (ao : Option Addr) (c : Nat), v = .agg #[.int .i64 N, .slice ao ps.length c] ∧ CellsAt W ao c ps := by
  obtain ⟨v0, v1, y0, y1, n, rfl, _, _, h0, h1⟩ := open_agg2 Tryd.underlying24 (by kernel_rfl) (by kernel_rfl) hv h
  obtain ⟨k, e0, _, f0⟩ := DataW.trod_int Tryd.underlying3 h0
  obtain ⟨ao, c, l, rfl, hl⟩ := open_cells22 h1
  cases e0
  exact ⟨k, l, ao, c, rfl, hl⟩
set_option maxRecDepth 100000 in
theorem open_intsv {v : Value} {d : DataW H} {p : List MemPlace} {r : Reach} {b0 : Nat} (hv : Value.okWide Tryd.prog W r b0 25 v) (h : DataW.Trod enc Tryd.prog W 0 sp true 25 v d p) :
    ∃ (ao : Option Addr) (c : Nat) (l : List Int), v = .slice ao l.length c ∧ IntsAt W ao l := by
  obtain ⟨fuel, hf⟩ := h
  obtain ⟨ao, n, cp, rfl⟩ := okWide_slice Tryd.underlying25 hv
  simp only [Value.cells] at hf
  exact open_ints25 hf
end
/-- Memory that comes in, with the room behind it. -/
theorem Hp.rosz {ρ : Env} {w : World} {L : List E} {nx : Nat} (h : ∀ e ∈ L, (∃ z, e.kd = .ro z ∧ (z = 0 ∨ e.cs.length ≤ (ρ e.lab).2 * z)) ∧ e.lab < nx ∧ (∀ c ∈ e.cs, c.wf nx) ∧ RoAt w (ρ e.lab).1 (e.cs.map (C.den ρ))) (hd : injB [] L = true) (hF : Fct w.heap.size w) : Hp w.heap.size ρ w L nx := by
  refine ⟨⟨Nat.le_refl _, hF⟩, fun e he => ?_, fun e he => ⟨(h e he).2.1, (h e he).2.2.1⟩, fun e he e' he' hl => injB_spec hd e he e' he' (.inl hl), fun e he e' he' hro => ?_⟩
  · obtain ⟨⟨z, h1, h2⟩, h3, h4, h5⟩ := h e he
    obtain ⟨lab, kd, cs⟩ := e
    simp only at h1 h2
    subst h1
    exact ⟨h5, h2⟩
  · obtain ⟨⟨z, h1, _⟩, _⟩ := h e he
    rw [h1] at hro; cases hro
/-- Where what came in lies: label k at place k. -/
def envL (l : List (Option Addr × Nat)) : Env := fun k => l.getD k (none, 0)
theorem ent_ints {W : World} {ρ : Env} {l : List Int} {k nx : Nat} {ao : Option Addr} (h : IntsAt W ao l) (hk : k < nx) (hr : (ρ k).1 = ao) : (∃ z, (Kd.ro 0) = .ro z ∧ (z = 0 ∨ (l.map C.i).length ≤ (ρ k).2 * z)) ∧ k < nx ∧ (∀ c ∈ l.map C.i, c.wf nx) ∧ RoAt W (ρ k).1 ((l.map C.i).map (C.den ρ)) := by
  refine ⟨⟨0, rfl, .inl rfl⟩, hk, wf_ints _ _, ?_⟩
  rw [List.map_map, hr]; exact h.1
theorem ent_cells {W : World} {ρ : Env} {l : List Cell} {k nx c : Nat} {ao : Option Addr} (h : CellsAt W ao c l) (hk : k < nx) (hr : ρ k = (ao, c)) : (∃ z, (Kd.ro 2) = .ro z ∧ (z = 0 ∨ (cellC l).length ≤ (ρ k).2 * z)) ∧ k < nx ∧ (∀ c ∈ cellC l, c.wf nx) ∧ RoAt W (ρ k).1 ((cellC l).map (C.den ρ)) := by
  refine ⟨⟨2, rfl, .inr ?_⟩, hk, wf_cells _ _, ?_⟩
  · rw [hr, cellC_len]; have := h.2.1; simp only; omega
  · rw [den_cells, hr]; exact h.1
theorem isTrue_any {f : FuncId} {vs : List V} {L : List E} {na : Nat} {ρ : Env} {w : World} {args : Array Value} (spec : Spec Tryd.prog f vs L na (Is (V.c (.bool true)))) (hp : Hp w.heap.size ρ w L na) (hv : ∀ v ∈ vs, v.wf na) (ha : (vs.map (V.den ρ)).toArray = args) :
    Calls Tryd.prog f args w fun e w' => e = .returned (.bool true) ∧ Below w.heap.size w w' := by
  subst ha
  refine (spec ρ w hp hv).mono ?_
  rintro e w' ⟨v, ρ', L', nx', rfl, h1, h2, h3, h4, h5, h6⟩
  exact ⟨by rw [h6 ρ']; rfl, h4⟩
end Go.Proofs.YtijnimgmpocmaaaDoor

/- Waste: Without, walked by the kit's tactics (its last region draws its order and turns a row). -/
namespace Go.Proofs.YtijnimgmpocmaaaDoor
open Go.RowKit
set_option linter.unusedVariables false
set_option linter.unusedSimpArgs false
open Go.ChangeShapes Go.WideShapes Go.ChangeAt Go.RowKit Go.Deep Go.Joins
theorem setCell_grownA (W : World) (b o : Nat) (v : Value) : W.grownBy (W.setCell ⟨b, o, none⟩ v) (some b) :=
  ⟨rfl, rfl, rfl, (KeepsWalks.setCell W _ v).size, fun k _ hk => Below.heap_setCell _ _ _ k (fun e => hk (by rw [e]))⟩
theorem own_pos {w : World} {b n : Nat} {v : Value} {xs : List Value} (h : w.ownsRow b 59 2 v n xs) (hn : 0 < n) : ∃ g cap, v = .slice (some ⟨g, 0, none⟩) n cap ∧ b ≤ g ∧ rowO w b 59 2 (.slice (some ⟨g, 0, none⟩) n cap) n xs := by
  have h0 := rowO.of h
  obtain ⟨_, ⟨_, hz⟩ | ⟨g, cap, cur, rfl, hg, _⟩⟩ := h
  · omega
  · exact ⟨g, cap, rfl, hg, h0⟩
theorem rowO.base {w : World} {b b' e sz n : Nat} {v : Value} {xs : List Value} (h : rowO w b e sz v n xs) (hb : b' ≤ b) : rowO w b' e sz v n xs := by
  obtain ⟨h1, h2 | ⟨g, off, cap, cur, hv, hg, h3⟩⟩ := h
  · exact ⟨h1, .inl h2⟩
  · exact ⟨h1, .inr ⟨g, off, cap, cur, hv, by omega, h3⟩⟩
set_option maxRecDepth 100000 in
set_option maxHeartbeats 1000000 in
theorem without_raw (n : Int) (i : Nat) (ps : List Cell) (ao : Option Addr) (c : Nat) (w : World) (hro : RoAt w ao (cellV ps)) (hl : ps.length ≤ 100) (hi : i < ps.length)
    (hpd : ∀ W, Below w.heap.size w W → Calls Tryd.prog 64 #[.agg #[.int .i64 n, .slice ao ps.length c], .int .i64 i] W fun e W' => e = .returned (.int .i64 0) ∧ Below W.heap.size W W') :
    Calls Tryd.prog 28 #[.agg #[.int .i64 n, .slice ao ps.length c], .int .i64 i] w fun e w' => ∃ g off cap, e = .returned (.tuple #[.agg #[.int .i64 n, .slice (some ⟨g, off, none⟩) (ps.length - 1) cap], .int .i64 0]) ∧
      rowO w' w.heap.size 59 2 (.slice (some ⟨g, off, none⟩) (ps.length - 1) cap) (ps.length - 1) (cellV (ps.eraseIdx i)) ∧ w.heap.size ≤ g ∧ Below w.heap.size w w' := by
  go_enter Tryd.func28, Tryd.ntmps28
  have hps : 0 < ps.length := by omega
  have hcl := cellV_len ps
  have h1c : ∀ u ∈ cellV ps, u.oneCell' = true := fun u hu => by
    simp only [cellV, List.mem_flatMap] at hu
    obtain ⟨x, _, hx⟩ := hu
    simp only [List.mem_cons, List.not_mem_nil, or_false] at hx
    rcases hx with rfl | rfl <;> rfl
  have hwi : IntKind.i64.wrap ((i : Int) + 1) = ((i + 1 : Nat) : Int) := by rw [IntWalk.i64_in _ (by omega)]; omega
  go_wp2_with fail
  obtain ⟨W1, hW1⟩ : ∃ W1, W1 = (w.alloc (Obj.cells #[Value.int IntKind.i64 n, Value.slice ao ps.length c] 24)).alloc (Obj.cells #[Value.int IntKind.i64 0, Value.slice none 0 0] 24) := ⟨_, rfl⟩
  rw [← hW1]
  have hb1 : Below w.heap.size w W1 := by rw [hW1]; exact ((Below.refl _ _).alloc (Nat.le_refl _) _).alloc (by simp) _
  have hsz1 : W1.heap.size = w.heap.size + 2 := by rw [hW1]; simp
  have hk0 : W1.heap[w.heap.size]? = some (.cells #[Value.int IntKind.i64 n, Value.slice ao ps.length c] 24 (0, 0)) := by
    rw [hW1, Below.heap_alloc _ _ _ (by simp)]; exact World.alloc_heap_new _ _
  have hk1 : W1.heap[w.heap.size + 1]? = some (.cells #[Value.int IntKind.i64 0, Value.slice none 0 0] 24 (0, 0)) := by
    rw [hW1]
    have := World.alloc_heap_new (w.alloc (Obj.cells #[Value.int IntKind.i64 n, Value.slice ao ps.length c] 24)) (Obj.cells #[Value.int IntKind.i64 0, Value.slice none 0 0] 24)
    simpa using this
  clear hW1
  refine (hpd W1 hb1).mono ?_
  rintro e w2 ⟨rfl, hb2⟩
  have hs2 := hb2.size
  have hB2 : Below w.heap.size w w2 := hb1.trans (hb2.mono (by omega))
  have hS : ∀ W', Below w2.heap.size w2 W' → W'.cell? ⟨w.heap.size, 0, none⟩ = some (.int .i64 n) ∧ W'.cell? ⟨w.heap.size, 1, none⟩ = some (.slice ao ps.length c) := fun W' hW => by
    have h1 := (hW.block w.heap.size (by omega)).trans ((hb2.block w.heap.size (by omega)).trans hk0)
    constructor <;> (unfold World.cell?; rw [h1]; rfl)
  have hT : ∀ W', Below w2.heap.size w2 W' → W'.cell? ⟨w.heap.size + 1, 0, none⟩ = some (.int .i64 0) ∧ W'.cell? ⟨w.heap.size + 1, 1, none⟩ = some (.slice none 0 0) ∧ W'.frozen? ⟨w.heap.size + 1, 0, none⟩ = false ∧ W'.frozen? ⟨w.heap.size + 1, 1, none⟩ = false := fun W' hW => by
    have h1 := (hW.block (w.heap.size + 1) (by omega)).trans ((hb2.block (w.heap.size + 1) (by omega)).trans hk1)
    refine ⟨?_, ?_, ?_, ?_⟩
    · unfold World.cell?; rw [h1]; rfl
    · unfold World.cell?; rw [h1]; rfl
    · unfold World.frozen?; rw [h1]; rfl
    · unfold World.frozen?; rw [h1]; rfl
  have HT := Lib.hid hT
  have hR : ∀ W', Below w2.heap.size w2 W' → RoAt W' ao (cellV ps) := fun W' hW hne => by
    obtain ⟨b, off, e1, e2, e3⟩ := hro hne
    have hbb := hb1.size
    refine ⟨b, off, e1, by have := hW.size; omega, fun j hj => ?_⟩
    rw [← e3 j hj]
    exact World.cell?_of_block ((hW.block b (by omega)).trans ((hB2.block b e2)))
  have hD : Below w2.heap.size w2 w2.drew := (Below.refl _ _).drew
  have hg0 := Lib.hid (show w2.heap.size ≤ w2.drew.heap.size from Nat.le_refl _)
  have HS := Lib.hid hS
  have HR := Lib.hid hR
  have HDD := Lib.hid hD
  have H1C := Lib.hid h1c
  have HCL := Lib.hid hcl
  have S0 := hS _ hD
  clear hS hR hT hD h1c hcl hpd hro
  go_wp2_with fail
  go_region_held3 (fun w' => w'.cell? ⟨w.heap.size, 0, none⟩ = some (.int .i64 n) ∧ w'.cell? ⟨w.heap.size, 1, none⟩ = some (.slice ao ps.length c))
    (first | (with_reducible exact HS.out _ hB6.out) | (with_reducible exact HS.out _ hB5.out) | (with_reducible exact HS.out _ HDD.out) | go_keep)
    (first
      | (go_at_call 66; refine (cloneC_any ao c ps.length (cellV ps) _ (HR.out _ HDD.out) (by rw [HCL.out]; omega) H1C.out (by omega)).mono ?_; rintro e w5 ⟨rv, rfl, hown5, hb5⟩; have hB5 := Lib.hid (HDD.out.trans hb5); obtain ⟨g, cap, rfl, hg, hrow⟩ := own_pos hown5 hps; have hrow5 := Lib.hid (rowO.base hrow hg0.out); have hg5 := Lib.hid (Nat.le_trans hg0.out hg); clear hown5 hb5 hrow hg)
      | (go_at_call 65; refine (delete_any g 0 ps.length cap i (i + 1) w5 w2.heap.size (cellV ps) hrow5.out H1C.out rfl (by omega)).mono ?_; rintro e w6 ⟨rfl, hgr, hrow6⟩; have hB6 := Lib.hid (hB5.out.grown hgr hB5.out.size (fun k hk => by cases hk; exact hg5.out)); have hrow6' := Lib.hid hrow6; obtain ⟨k0, k1, k2, k3⟩ := HT.out _ hB6.out; clear hgr hrow6))
  go_wp2
  have hne : (⟨w.heap.size + 1, 0, none⟩ : Addr) ≠ ⟨w.heap.size + 1, 1, none⟩ := by simp
  have hm1 : i + (ps.length - (i + 1)) = ps.length - 1 := by omega
  rw [hm1] at *
  have hrw := hrow6'.out
  have hB6' := hB6.out
  have hgb := hg5.out
  have hs6 := hB6'.size
  have g1 : w6.grownBy (w6.setCell ⟨w.heap.size + 1, 0, none⟩ (Value.int IntKind.i64 n)) (some (w.heap.size + 1)) := setCell_grownA _ _ _ _
  obtain ⟨w7, hw7⟩ : ∃ w7, w7 = w6.setCell ⟨w.heap.size + 1, 0, none⟩ (Value.int IntKind.i64 n) := ⟨_, rfl⟩
  have c0 : w7.cell? ⟨w.heap.size + 1, 0, none⟩ = some (.int .i64 n) := by rw [hw7]; exact World.cell?_setCell_same _ _ _ k0
  have c1 : w7.cell? ⟨w.heap.size + 1, 1, none⟩ = some (.slice none 0 0) := by rw [hw7, World.cell?_setCell_other (h := hne)]; exact k1
  rw [← hw7] at g1 ⊢
  have g2 : w7.grownBy (w7.setCell ⟨w.heap.size + 1, 1, none⟩ (Value.slice (some ⟨g, 0, none⟩) (ps.length - 1) cap)) (some (w.heap.size + 1)) := setCell_grownA _ _ _ _
  obtain ⟨w8, hw8⟩ : ∃ w8, w8 = w7.setCell ⟨w.heap.size + 1, 1, none⟩ (Value.slice (some ⟨g, 0, none⟩) (ps.length - 1) cap) := ⟨_, rfl⟩
  have d0 : w8.cell? ⟨w.heap.size + 1, 0, none⟩ = some (.int .i64 n) := by rw [hw8, World.cell?_setCell_other (h := Ne.symm hne)]; exact c0
  have d1 : w8.cell? ⟨w.heap.size + 1, 1, none⟩ = some (.slice (some ⟨g, 0, none⟩) (ps.length - 1) cap) := by rw [hw8]; exact World.cell?_setCell_same _ _ _ c1
  rw [← hw8] at g2 ⊢
  refine bodyPost_ret (v := .tuple #[.agg #[.int .i64 n, .slice (some ⟨g, 0, none⟩) (ps.length - 1) cap], .int .i64 0]) (by simp [results, Tryd.results28, go_sem, d0, d1]) rfl ⟨g, 0, cap, rfl, ?_, by omega, ?_⟩
  · have h9 := (hrw.kept g1 (.inr (by simp [Value.ownBlock]; omega))).kept g2 (.inr (by simp [Value.ownBlock]; omega))
    have hce : List.take (i * 2) (cellV ps) ++ List.drop ((i + 1) * 2) (cellV ps) = cellV (ps.eraseIdx i) := by
      have := congrArg (List.map (C.den fun _ => (none, 0))) (cellC_erase ps i)
      rw [List.map_append, List.map_take, List.map_drop, den_cells, den_cells] at this
      exact this
    have hm2 : i + (ps.length - (i + 1)) = ps.length - 1 := by omega
    rw [hce, hm2] at h9
    exact rowO.base h9 hB2.size
  · have h7 : Below w.heap.size w w6 := hB2.trans (hB6'.mono hB2.size)
    exact (h7.grown g1 h7.size (fun k hk => by cases hk; omega)).grown g2 (by have := g1.size; have := h7.size; omega) (fun k hk => by cases hk; omega)
end Go.Proofs.YtijnimgmpocmaaaDoor

/- Waste: Without. -/
namespace Go.Proofs.YtijnimgmpocmaaaDoor
open Go.RowKit
set_option linter.unusedVariables false
set_option linter.unusedSimpArgs false
@[reducible] def kX (N : Int) (ps : List Cell) : V := V.agg [C.i N, C.sl 0 ps.length]
/-- The error of a pair. -/
def pairE (N : Int) (ps : List Cell) (z : Int) : Int := if okK' N ps then (if 0 ≤ z ∧ z ≤ (ps.length : Int) - 1 then 0 else 2) else 70
set_option maxRecDepth 10000 in
theorem paired_spec (N z : Int) (ps : List Cell) (hl : ps.length ≤ 100) : Spec Tryd.prog 64 [kX N ps, V.i z] [⟨0, .ro 2, cellC ps⟩] 1 (Is (V.i (pairE N ps z))) := by
  have hva := valid_spec N ps hl
  have hbt := between_spec 0 z ((ps.length : Int) - 1)
  refine Spec.of tok Tryd.func64 rfl rfl rfl fun n0 cx => vc_ok tok ?_
  cases hv : okK' N ps with
  | false =>
    rw [hv] at hva
    repeat ((conv => whnf); first | (refine And.intro (by first | omega | exact Nat.le_of_ble_eq_true rfl | (dsimp only [inK]; omega) | (simp only [mulS_eq]; omega) | (simp only [mulS_eq, setL_length]; omega) | (simp only [setL_length]; omega) | (simp only [setL_length, List.length_map]; omega) | (exact ⟨by omega, by omega, by first | exact Nat.le_of_ble_eq_true rfl | (dsimp only; omega) | (simp only [setL_length]; omega) | (simp only [setL_length, List.length_map]; omega)⟩) | (exact ⟨by omega, by first | rfl | omega, by omega, Nat.le_of_ble_eq_true rfl, Nat.le_of_ble_eq_true rfl⟩) | (exact ⟨rfl, rfl, rfl, Nat.le_of_ble_eq_true rfl, by first | rfl | omega | exact Nat.le_of_ble_eq_true rfl | (dsimp only; omega) | (simp; done) | (simp; omega), by first | rfl | omega | exact Nat.le_of_ble_eq_true rfl | (dsimp only; omega) | (simp; done) | (simp; omega), by omega, Nat.le_of_ble_eq_true rfl⟩) | exact Eq.refl true) ?_) | refine Exists.intro _ (And.intro rfl ?_) | refine And.intro (And.intro rfl (chk_rowI _ _ _ _)) ?_ | refine br_t (by omega) ?_ | refine br_f (by omega) ?_ | refine bs_t (by omega) ?_ | refine bs_f (by omega) ?_ | refine fun (K' : K3) hK' => ?_ | (refine hK' _ _ _ ?_; clear hK' K') | refine draw_auto tok mixed (by kernel_rfl) ?_ | refine CallK.val (R := []) hva (by kernel_rfl) rfl (by simp [V.wf, A.wf, C.wf]) ⟨roE_f (flat_c _) (l := 0) rfl (by omega) rfl (.inr rfl), trivial⟩ rfl rfl trivial ?_ | refine bs_bt (Eq.refl true) ?_ | refine bs_bf (Eq.refl false) ?_ | refine br_bt (Eq.refl true) ?_ | refine br_bf (Eq.refl false) ?_ | refine CallK.m ?_ | refine Two.l ?_ | refine And.intro (And.intro rfl rfl) ?_)
    intro ρ; unfold pairE; rw [hv]; rfl
  | true =>
    rw [hv] at hva
    by_cases h : 0 ≤ z ∧ z ≤ (ps.length : Int) - 1
    · repeat ((conv => whnf); first | (refine And.intro (by first | omega | exact Nat.le_of_ble_eq_true rfl | (dsimp only [inK]; omega) | (simp only [mulS_eq]; omega) | (simp only [mulS_eq, setL_length]; omega) | (simp only [setL_length]; omega) | (simp only [setL_length, List.length_map]; omega) | (exact ⟨by omega, by omega, by first | exact Nat.le_of_ble_eq_true rfl | (dsimp only; omega) | (simp only [setL_length]; omega) | (simp only [setL_length, List.length_map]; omega)⟩) | (exact ⟨by omega, by first | rfl | omega, by omega, Nat.le_of_ble_eq_true rfl, Nat.le_of_ble_eq_true rfl⟩) | (exact ⟨rfl, rfl, rfl, Nat.le_of_ble_eq_true rfl, by first | rfl | omega | exact Nat.le_of_ble_eq_true rfl | (dsimp only; omega) | (simp; done) | (simp; omega), by first | rfl | omega | exact Nat.le_of_ble_eq_true rfl | (dsimp only; omega) | (simp; done) | (simp; omega), by omega, Nat.le_of_ble_eq_true rfl⟩) | exact Eq.refl true) ?_) | refine Exists.intro _ (And.intro rfl ?_) | refine And.intro (And.intro rfl (chk_rowI _ _ _ _)) ?_ | refine br_t (by omega) ?_ | refine br_f (by omega) ?_ | refine bs_t (by omega) ?_ | refine bs_f (by omega) ?_ | refine fun (K' : K3) hK' => ?_ | (refine hK' _ _ _ ?_; clear hK' K') | refine draw_auto tok mixed (by kernel_rfl) ?_ | refine CallK.val (R := []) hva (by kernel_rfl) rfl (by simp [V.wf, A.wf, C.wf]) ⟨roE_f (flat_c _) (l := 0) rfl (by omega) rfl (.inr rfl), trivial⟩ rfl rfl trivial ?_ | refine CallK.val (R := []) hbt (by kernel_rfl) rfl (by simp [V.wf, A.wf, C.wf, V.i]) trivial rfl rfl trivial ?_ | refine br_bf (nd_f h) ?_ | refine bs_bt (Eq.refl true) ?_ | refine bs_bf (Eq.refl false) ?_ | refine br_bt (Eq.refl true) ?_ | refine br_bf (Eq.refl false) ?_ | refine CallK.m ?_ | refine Two.l ?_ | refine And.intro (And.intro rfl rfl) ?_)
      intro ρ; unfold pairE; rw [hv, if_pos h]; rfl
    · repeat ((conv => whnf); first | (refine And.intro (by first | omega | exact Nat.le_of_ble_eq_true rfl | (dsimp only [inK]; omega) | (simp only [mulS_eq]; omega) | (simp only [mulS_eq, setL_length]; omega) | (simp only [setL_length]; omega) | (simp only [setL_length, List.length_map]; omega) | (exact ⟨by omega, by omega, by first | exact Nat.le_of_ble_eq_true rfl | (dsimp only; omega) | (simp only [setL_length]; omega) | (simp only [setL_length, List.length_map]; omega)⟩) | (exact ⟨by omega, by first | rfl | omega, by omega, Nat.le_of_ble_eq_true rfl, Nat.le_of_ble_eq_true rfl⟩) | (exact ⟨rfl, rfl, rfl, Nat.le_of_ble_eq_true rfl, by first | rfl | omega | exact Nat.le_of_ble_eq_true rfl | (dsimp only; omega) | (simp; done) | (simp; omega), by first | rfl | omega | exact Nat.le_of_ble_eq_true rfl | (dsimp only; omega) | (simp; done) | (simp; omega), by omega, Nat.le_of_ble_eq_true rfl⟩) | exact Eq.refl true) ?_) | refine Exists.intro _ (And.intro rfl ?_) | refine And.intro (And.intro rfl (chk_rowI _ _ _ _)) ?_ | refine br_t (by omega) ?_ | refine br_f (by omega) ?_ | refine bs_t (by omega) ?_ | refine bs_f (by omega) ?_ | refine fun (K' : K3) hK' => ?_ | (refine hK' _ _ _ ?_; clear hK' K') | refine draw_auto tok mixed (by kernel_rfl) ?_ | refine CallK.val (R := []) hva (by kernel_rfl) rfl (by simp [V.wf, A.wf, C.wf]) ⟨roE_f (flat_c _) (l := 0) rfl (by omega) rfl (.inr rfl), trivial⟩ rfl rfl trivial ?_ | refine CallK.val (R := []) hbt (by kernel_rfl) rfl (by simp [V.wf, A.wf, C.wf, V.i]) trivial rfl rfl trivial ?_ | refine br_bt (nd_t h) ?_ | refine bs_bt (Eq.refl true) ?_ | refine bs_bf (Eq.refl false) ?_ | refine br_bt (Eq.refl true) ?_ | refine br_bf (Eq.refl false) ?_ | refine CallK.m ?_ | refine Two.l ?_ | refine And.intro (And.intro rfl rfl) ?_)
      intro ρ; unfold pairE; rw [hv, if_neg h]; rfl
/-- A call of Without that leaves a pair out. -/
theorem without_k {n0 nx a : Nat} {N z : Int} {ps : List Cell} {L : List E} {K : V → List E → Nat → Prop} {k : Kd} (i : Nat) (hz : z = i) (hl : ps.length ≤ 100) (hi : i < ps.length) (he : pairE N ps z = 0) (hk : k = .ro 2 ∨ k.z = some 2) (ha : find L a = some ⟨a, k, cellC ps⟩)
    (hK : K (V.tup [A.agg [C.i N, .sl nx (ps.length - 1)], A.c (C.i 0)]) [⟨nx, .vec 59 2, cellC (ps.eraseIdx i)⟩] (nx + 1)) : CallK Tryd.prog n0 28 [V.agg [C.i N, .sl a ps.length], V.i z] L nx K := by
  subst hz
  refine ⟨by kernel_rfl, fun ρ w hp _ => ?_⟩
  have hro : RoAt w (ρ a).1 (cellV ps) := by have := (hp.row ha).1; rwa [den_cells] at this
  have hpd : ∀ W, Below w.heap.size w W → Calls Tryd.prog 64 #[.agg #[.int .i64 N, .slice (ρ a).1 ps.length (ρ a).2], .int .i64 i] W fun e W' => e = .returned (.int .i64 0) ∧ Below W.heap.size W W' := fun W hW => by
    have hp' : Hp n0 ρ W L nx := (hp.news' (new := []) News.nil hW (Agr.refl _ _) (Nat.le_refl _))
    have hc : CallK Tryd.prog n0 64 [V.agg [C.i N, .sl a ps.length], V.i (i : Nat)] L nx (fun v new nx' => v = V.i 0 ∧ new = [] ∧ nx' = nx) := by
      have hsp := paired_spec N i ps hl
      rw [he] at hsp
      exact CallK.val (R := [(0, some a)]) hsp (by kernel_rfl) rfl (by simp [V.wf, A.wf, C.wf, V.i]) ⟨roE_f (flat_c _) (l := a) rfl (by omega) ha (.inr (by rcases hk with rfl | hk; rfl; exact hk)), trivial⟩ rfl rfl trivial ⟨rfl, rfl, rfl⟩
    refine (hc.run ρ W hp' (fun v hv => ?_)).mono ?_
    · simp only [List.mem_cons, List.not_mem_nil, or_false] at hv
      rcases hv with rfl | rfl
      · exact fun c hc => by
          simp only [List.mem_cons, List.not_mem_nil, or_false] at hc
          rcases hc with rfl | rfl
          · trivial
          · have h7 := (hp.wf _ (find_mem ha).1).1; exact h7
      · trivial
    · rintro e W' ⟨v, new, nx', ρ', rfl, h1, h2, h3, h4, h5, rfl, rfl, rfl⟩
      exact ⟨rfl, h4⟩
  have hc := without_raw N i ps (ρ a).1 (ρ a).2 w hro hl hi hpd
  refine Calls.mono (show Calls Tryd.prog 28 ([V.agg [C.i N, .sl a ps.length], V.i (i : Nat)].map (V.den ρ)).toArray w _ from hc) ?_
  rintro e w' ⟨g, off, cap, rfl, hrow, hg, hbw⟩
  refine ⟨V.tup [A.agg [C.i N, .sl nx (ps.length - 1)], A.c (C.i 0)], [⟨nx, .vec 59 2, cellC (ps.eraseIdx i)⟩], nx + 1, ρ.put nx (some ⟨g, off, none⟩) cap, ?_, Nat.le_succ _, ?_, Env.put_agr _ _ _ _, hbw, News.one ?_ rfl (wf_cells _ _) ?_, hK⟩
  · simp [V.den, A.den, C.den, Env.put_same]
  · intro x hx
    simp only [List.mem_cons, List.not_mem_nil, or_false] at hx
    rcases hx with rfl | rfl
    · exact fun c hc => by
        simp only [List.mem_cons, List.not_mem_nil, or_false] at hc
        rcases hc with rfl | rfl
        · trivial
        · exact Nat.lt_succ_self nx
    · trivial
  · refine ⟨ps.length - 1, ?_⟩
    simp only [Env.put_same]
    rw [den_cells]
    exact rowO.base hrow hp.base
  · intro b hb
    simp only [blk, Env.put_same, Option.map_some, Option.some.injEq] at hb
    omega
end Go.Proofs.YtijnimgmpocmaaaDoor

/- Waste: the kinds of a table. -/
namespace Go.Proofs.YtijnimgmpocmaaaDoor
open Go.RowKit
set_option linter.unusedVariables false
set_option linter.unusedSimpArgs false
/-- The pairs of a row, of its first k kinds. -/
def prI (s a k : Nat) : List (Nat × Nat) := (((bitsL s).take k).filter fun b => decide (a < b)).map fun b => (a, b)
def prK (t : List Nat) (a : Nat) : List (Nat × Nat) := (List.range a).flatMap fun i => prI (t.getD i 0) i (bitsL (t.getD i 0)).length
theorem prK_succ (t : List Nat) (a : Nat) : prK t (a + 1) = prK t a ++ prI (t.getD a 0) a (bitsL (t.getD a 0)).length := by
  simp [prK, List.range_succ, List.flatMap_append]
theorem prI_succ {s a k : Nat} (h : k < (bitsL s).length) : prI s a (k + 1) = prI s a k ++ if a < (bitsL s).getD k 0 then [(a, (bitsL s).getD k 0)] else [] := by
  have e : (bitsL s)[k]?.toList = [(bitsL s).getD k 0] := by rw [List.getD_eq_getElem?_getD, List.getElem?_eq_getElem h]; rfl
  unfold prI
  rw [List.take_add_one, e, List.filter_append, List.map_append]
  congr 1
  by_cases h2 : a < (bitsL s).getD k 0
  · rw [if_pos h2, List.filter_cons, if_pos (by simpa using h2)]; rfl
  · rw [if_neg h2, List.filter_cons, if_neg (by simpa using h2)]; rfl
theorem mem_prI {s a : Nat} {p : Nat × Nat} : p ∈ prI s a (bitsL s).length ↔ p.1 = a ∧ a < p.2 ∧ p.2 ∈ bitsL s := by
  unfold prI
  rw [List.take_length, List.mem_map]
  constructor
  · rintro ⟨b, hb, rfl⟩
    rw [List.mem_filter] at hb
    exact ⟨rfl, by simpa using hb.2, hb.1⟩
  · rintro ⟨rfl, h1, h2⟩
    exact ⟨p.2, List.mem_filter.2 ⟨h2, by simpa using h1⟩, rfl⟩
theorem mem_prK {t : List Nat} {n : Nat} {p : Nat × Nat} : p ∈ prK t n ↔ p.1 < n ∧ p.1 < p.2 ∧ p.2 ∈ bitsL (t.getD p.1 0) := by
  unfold prK
  rw [List.mem_flatMap]
  constructor
  · rintro ⟨i, hi, hp⟩
    obtain ⟨rfl, h1, h2⟩ := mem_prI.1 hp
    exact ⟨List.mem_range.1 hi, h1, h2⟩
  · rintro ⟨h1, h2, h3⟩
    exact ⟨p.1, List.mem_range.2 h1, mem_prI.2 ⟨rfl, h2, h3⟩⟩
theorem prI_len (s a k : Nat) : (prI s a k).length ≤ 8 := by
  unfold prI
  rw [List.length_map]
  have h1 := List.length_filter_le (fun b => decide (a < b)) ((bitsL s).take k)
  have h2 := bitsL_len s
  rw [List.length_take] at h1
  omega
theorem prK_len (t : List Nat) : ∀ a, (prK t a).length ≤ 8 * a
  | 0 => by simp [prK]
  | a + 1 => by
    rw [prK_succ, List.length_append]
    have := prK_len t a; have := prI_len (t.getD a 0) a (bitsL (t.getD a 0)).length
    omega
theorem castP_app (a b : List (Nat × Nat)) : castP (a ++ b) = castP a ++ castP b := List.map_append
/-- Kinds whose pairs may be nil. -/
def optK (n : Int) (ps : List Cell) (v : V) (L' : List E) : Prop :=
  ∃ o : C, v = V.agg [C.i n, o] ∧ ((o = C.nil ∧ ps = []) ∨ ∃ lab, o = C.sl lab ps.length ∧ find L' lab = some ⟨lab, .vec 59 2, cellC ps⟩)
section
variable {P : Program} {n0 nx nac : Nat} {f : FuncId} {vs vs' : List V} {Lc L : List E} {R : Rn} {K : V → List E → Nat → Prop}
theorem CallK.optK {n : Int} {ps : List Cell} (spec : Spec P f vs Lc nac (fun v L' _ => optK n ps v L')) (hok : callB P f = true)
    (hv : renVs R vs = some vs') (hvw : ∀ v ∈ vs, v.wf nac) (hL : roL R nac L Lc) (hLc : injB [] Lc = true)
    (hK : K (V.agg [C.i n, .sl nx ps.length]) [⟨nx, .vec 59 2, cellC ps⟩] (nx + 1)) : CallK P n0 f vs' L nx K := by
  refine CallK.mk' hok spec hv hvw hL hLc ?_
  rintro v L' nx' hw ⟨o, rfl, ⟨rfl, rfl⟩ | ⟨lab, rfl, hf⟩⟩
  · refine ⟨V.agg [C.i n, .sl nx 0], [⟨nx, .vec 59 2, []⟩], nx + 1, [(nx, none)], ⟨Nat.le_succ _, ?_, ?_, ⟨covE_nil (renL_one _ _) (Nat.lt_succ_self nx) rfl rfl, trivial⟩, rfl, ?_⟩, hK⟩
    · simp [V.ren, A.ren, C.ren, renL_one, C.i, seqO]
    · simp [V.chk, A.chk, C.chk, inLab_one, C.i]
    · simp only [List.all_cons, List.all_nil, Bool.and_true, inLab_one, Kd.isRo, Bool.not_false]
  · refine ⟨V.agg [C.i n, .sl nx ps.length], [⟨nx, .vec 59 2, cellC ps⟩], nx + 1, [(nx, some lab)], ⟨Nat.le_succ _, ?_, ?_, ⟨covE_some (renL_one _ _) (Nat.lt_succ_self nx) (wf_cells _ _) hf (ren_cells _ _), trivial⟩, rfl, ?_⟩, hK⟩
    · simp [V.ren, A.ren, C.ren, renL_one, C.i, seqO]
    · simp [V.chk, A.chk, C.chk, inLab_one, C.i]
    · simp only [List.all_cons, List.all_nil, Bool.and_true, inLab_one, Kd.isRo, Bool.not_false, Bool.true_and]
      exact chk_cells _ _
end
theorem covE_c {R : Rn} {nx lab l : Nat} {L : List E} {us : List Cell} {kd : Kd} {cs' : List C} (hr : renL R lab = some l) (h1 : lab < nx) (h3 : find L l = some ⟨l, kd, cs'⟩) (h4 : cs' = cellC us) : covE R nx L ⟨lab, kd, cellC us⟩ := by
  subst h4; exact covE_some hr h1 (wf_cells _ _) h3 (ren_cells _ _)
set_option maxRecDepth 10000 in
set_option maxHeartbeats 8000000 in
theorem kinds_spec (t : List Nat) (n : Nat) (htl : t.length = n) (hn : n ≤ 8) (ht : ∀ x ∈ t, x < 256) : Spec Tryd.prog 69 [V.c (.sl 0 n)] [⟨0, .ro 0, t.map C.u⟩] 1 (fun v L' _ => optK n (castP (prK t n)) v L') := by
  have htm : (t.map C.u).length = n := by rw [List.length_map, htl]
  refine Spec.of tok Tryd.func69 rfl rfl rfl fun n0 cx => vc_ok tok ?_
  repeat ((conv => whnf); first | (refine And.intro (by first | omega | exact Nat.le_of_ble_eq_true rfl | (dsimp only [inK]; omega) | (simp only [mulS_eq]; omega) | (simp only [mulS_eq, setL_length]; omega) | (simp only [setL_length]; omega) | (simp only [setL_length, List.length_map]; omega) | (exact ⟨by omega, by omega, by first | exact Nat.le_of_ble_eq_true rfl | (dsimp only; omega) | (simp only [setL_length]; omega) | (simp only [setL_length, List.length_map]; omega)⟩) | (exact ⟨by omega, by first | rfl | omega, by omega, Nat.le_of_ble_eq_true rfl, Nat.le_of_ble_eq_true rfl⟩) | (exact ⟨rfl, rfl, rfl, Nat.le_of_ble_eq_true rfl, by first | rfl | omega | exact Nat.le_of_ble_eq_true rfl | (dsimp only; omega) | (simp; done) | (simp; omega), by first | rfl | omega | exact Nat.le_of_ble_eq_true rfl | (dsimp only; omega) | (simp; done) | (simp; omega), by omega, Nat.le_of_ble_eq_true rfl⟩) | exact Eq.refl true) ?_) | refine Exists.intro _ (And.intro rfl ?_) | refine And.intro (And.intro rfl (chk_rowI _ _ _ _)) ?_ | refine br_t (by omega) ?_ | refine br_f (by omega) ?_ | refine bs_t (by omega) ?_ | refine bs_f (by omega) ?_ | refine fun (K' : K3) hK' => ?_ | (refine hK' _ _ _ ?_; clear hK' K') | refine draw_auto tok mixed (by kernel_rfl) ?_ | refine bs_bt (Eq.refl true) ?_ | refine bs_bf (Eq.refl false) ?_ | refine br_bt (Eq.refl true) ?_ | refine br_bf (Eq.refl false) ?_ | refine CallK.m ?_ | refine Two.l ?_ | refine And.intro (And.intro rfl rfl) ?_)
  refine Tri.loop (γ := Nat) (fun a => a ≤ n) (fun a => [(2, V.c (.ptr 1 0)), (3, V.c (.ptr 2 0)), (10, V.c (.sl 0 n)), (11, V.i n), (12, V.i (a : Nat))])
    (fun a => [⟨3, .vec 59 2, cellC (castP (prK t a))⟩, ⟨2, .own 24, [C.i n, .sl 3 (castP (prK t a)).length]⟩, ⟨1, .own 24, [C.i 0, .nil]⟩, ⟨0, .ro 0, t.map C.u⟩]) 4 (fun a => n - a) 0 (R0 := [(3, none)]) ?_ ?_ ?_
  · omega
  · skip
    refine ⟨?_, ?_, rfl, rfl, by first | exact Nat.le_of_ble_eq_true rfl | exact Nat.le_refl _ | omega⟩
    · repeat (first | exact trivial | (refine And.intro (covS_syn (by rfl) rfl (by first | exact trivial | exact Nat.le_of_ble_eq_true rfl | exact hy | (first | ((show ∀ p ∈ (_ : List (Nat × Nat)), p.1 < _); decide) | exact (fun p hp => nomatch hp)) | (show (_ : Nat) < _; omega))) ?_) | refine And.intro (covS_bool rfl rfl (by rfl)) ?_)
    · repeat (first | exact trivial | refine And.intro (covE_u rfl (Nat.le_of_ble_eq_true rfl) rfl rfl) ?_ | refine And.intro ⟨Nat.le_of_ble_eq_true rfl, by simp [C.wf], _, _, rfl, .inl rfl, fun ρ => rfl⟩ ?_ | refine And.intro (covE_nil rfl (Nat.le_of_ble_eq_true rfl) rfl rfl) ?_ | (refine And.intro (covE_some rfl (Nat.le_of_ble_eq_true rfl) (by first | exact wf_ints _ _ | exact wf_bools _ _ | first | exact wf_us _ _ | exact wf_cells _ _ | (simp [C.wf]; done) | simp [C.wf]) rfl (by first | exact ren_ints _ _ | exact ren_bools _ _ | exact ren_shares _ _ | rfl)) ?_))
  · intro a ha
    refine vc_ok tok ?_
    by_cases hlt : a < n
    · have hld : (t.map C.u)[mulS ((a : Nat) : Int).toNat 1]? = some (C.u (t.getD a 0)) := uLz rfl (by omega)
      have hs8 := getD_lt (by omega) ht a
      have hpk := prK_len t a
      have hps := prK_succ t a
      obtain ⟨s, hs⟩ : ∃ s, s = t.getD a 0 := ⟨_, rfl⟩
      rw [← hs] at hld hs8 hps
      have hbl := bitsL_len s
      obtain ⟨p0, hp0⟩ : ∃ p0, p0 = prK t a := ⟨_, rfl⟩
      rw [← hp0] at hpk hps ⊢
      repeat ((conv => whnf); first | (refine And.intro (by first | omega | exact Nat.le_of_ble_eq_true rfl | (dsimp only [inK]; omega) | (simp only [mulS_eq]; omega) | (simp only [mulS_eq, setL_length]; omega) | (simp only [setL_length]; omega) | (simp only [setL_length, List.length_map]; omega) | (exact ⟨by omega, by omega, by first | exact Nat.le_of_ble_eq_true rfl | (dsimp only; omega) | (simp only [setL_length]; omega) | (simp only [setL_length, List.length_map]; omega)⟩) | (exact ⟨by omega, by first | rfl | omega, by omega, Nat.le_of_ble_eq_true rfl, Nat.le_of_ble_eq_true rfl⟩) | (exact ⟨rfl, rfl, rfl, Nat.le_of_ble_eq_true rfl, by first | rfl | omega | exact Nat.le_of_ble_eq_true rfl | (dsimp only; omega) | (simp; done) | (simp; omega), by first | rfl | omega | exact Nat.le_of_ble_eq_true rfl | (dsimp only; omega) | (simp; done) | (simp; omega), by omega, Nat.le_of_ble_eq_true rfl⟩) | exact Eq.refl true) ?_) | with_reducible refine ld (hld) ?_ | refine Exists.intro _ (And.intro rfl ?_) | refine And.intro (And.intro rfl (chk_rowI _ _ _ _)) ?_ | refine br_t (by omega) ?_ | refine br_f (by omega) ?_ | refine bs_t (by omega) ?_ | refine bs_f (by omega) ?_ | refine fun (K' : K3) hK' => ?_ | (refine hK' _ _ _ ?_; clear hK' K') | refine draw_auto tok mixed (by kernel_rfl) ?_ | refine CallK.fresh (by kernel_rfl) (all_spec _ _ _) rfl ?_ | refine bs_bt (Eq.refl true) ?_ | refine bs_bf (Eq.refl false) ?_ | refine br_bt (Eq.refl true) ?_ | refine br_bf (Eq.refl false) ?_ | refine CallK.m ?_ | refine Two.l ?_ | refine And.intro (And.intro rfl rfl) ?_)
      refine Tri.opq fun K' hK' => ?_
      refine Tri.rangeFunc tok (by exact rfl) (by kernel_rfl) (by exact rfl) (by exact rfl) (by exact rfl) (by exact rfl) (by exact rfl) (by exact rfl) ?_
      intro y cxi oo ob od hy hY
      refine vc_ok tok ?_
      repeat ((conv => whnf); first | (refine And.intro (by first | omega | exact Nat.le_of_ble_eq_true rfl | (dsimp only [inK]; omega) | (simp only [mulS_eq]; omega) | (simp only [mulS_eq, setL_length]; omega) | (simp only [setL_length]; omega) | (simp only [setL_length, List.length_map]; omega) | (exact ⟨by omega, by omega, by first | exact Nat.le_of_ble_eq_true rfl | (dsimp only; omega) | (simp only [setL_length]; omega) | (simp only [setL_length, List.length_map]; omega)⟩) | (exact ⟨by omega, by first | rfl | omega, by omega, Nat.le_of_ble_eq_true rfl, Nat.le_of_ble_eq_true rfl⟩) | (exact ⟨rfl, rfl, rfl, Nat.le_of_ble_eq_true rfl, by first | rfl | omega | exact Nat.le_of_ble_eq_true rfl | (dsimp only; omega) | (simp; done) | (simp; omega), by first | rfl | omega | exact Nat.le_of_ble_eq_true rfl | (dsimp only; omega) | (simp; done) | (simp; omega), by omega, Nat.le_of_ble_eq_true rfl⟩) | exact Eq.refl true) ?_) | refine Exists.intro _ (And.intro rfl ?_) | refine And.intro (And.intro rfl (chk_rowI _ _ _ _)) ?_ | refine br_t (by omega) ?_ | refine br_f (by omega) ?_ | refine bs_t (by omega) ?_ | refine bs_f (by omega) ?_ | refine fun (K' : K3) hK' => ?_ | (refine hK' _ _ _ ?_; clear hK' K') | refine draw_auto tok mixed (by kernel_rfl) ?_ | refine bs_bt (Eq.refl true) ?_ | refine bs_bf (Eq.refl false) ?_ | refine br_bt (Eq.refl true) ?_ | refine br_bf (Eq.refl false) ?_ | refine CallK.m ?_ | refine Two.l ?_ | refine And.intro (And.intro rfl rfl) ?_)
      refine Tri.loop (γ := Nat) (fun k => k ≤ (bitsL s).length) (fun k => [(0, V.c (.v y)), (1, V.c (.ptr 5 0)), (3, V.u (rs s k))])
        (fun k => [⟨20, .vec 59 2, cellC (castP (p0 ++ prI s a k))⟩, ⟨6, .obj oo, []⟩, ⟨5, .own 75, [C.u s]⟩, ⟨4, .own 3, [C.i (a : Nat)]⟩, ⟨2, .own 24, [C.i n, .sl 20 (castP (p0 ++ prI s a k)).length]⟩, ⟨1, .own 24, [C.i 0, .nil]⟩, ⟨0, .ro 0, t.map C.u⟩]) 21 (fun k => (bitsL s).length - k) 0 (R0 := [(20, some 3)]) ?_ ?_ ?_
      · omega
      · have hz : p0 ++ prI s a 0 = p0 := by simp [prI]
        rw [hz]
        refine ⟨?_, ?_, rfl, rfl, by first | exact Nat.le_of_ble_eq_true rfl | exact Nat.le_refl _ | omega⟩
        · repeat (first | exact trivial | (refine And.intro (covS_syn (by rfl) rfl (by first | exact trivial | exact Nat.le_of_ble_eq_true rfl | exact hy | (first | ((show ∀ p ∈ (_ : List (Nat × Nat)), p.1 < _); decide) | exact (fun p hp => nomatch hp)) | (show (_ : Nat) < _; omega))) ?_) | refine And.intro (covS_bool rfl rfl (by rfl)) ?_)
        · repeat (first | exact trivial | refine And.intro (covE_c rfl (Nat.le_of_ble_eq_true rfl) rfl rfl) ?_ | refine And.intro (covE_u rfl (Nat.le_of_ble_eq_true rfl) rfl rfl) ?_ | refine And.intro (covE_nil rfl (Nat.le_of_ble_eq_true rfl) rfl rfl) ?_ | (refine And.intro (covE_some rfl (Nat.le_of_ble_eq_true rfl) (by first | exact wf_ints _ _ | exact wf_bools _ _ | first | exact wf_us _ _ | exact wf_cells _ _ | (simp [C.wf]; done) | simp [C.wf]) rfl (by first | exact ren_ints _ _ | exact ren_bools _ _ | exact ren_shares _ _ | rfl)) ?_))
      · intro k hk
        refine vc_ok tok ?_
        obtain ⟨f1, f2, f3⟩ := all_fact s hs8 k (by omega)
        by_cases hkl : k < (bitsL s).length
        · obtain ⟨f4, f5⟩ := f2 hkl
          have hmem := mem_bitsL.1 (bitsL_get hkl)
          have hrs : rs s (k + 1) = rs s k &&& (rs s k - 1) := rfl
          have hsucc := prI_succ (a := a) hkl
          have hpl := prI_len s a k
          obtain ⟨b, hb⟩ : ∃ b, b = (bitsL s).getD k 0 := ⟨_, rfl⟩
          obtain ⟨r, hr⟩ : ∃ r, r = rs s k := ⟨_, rfl⟩
          rw [← hb] at f5 hsucc hmem
          rw [← hr] at f1 f4 f5 hrs ⊢
          have hne : (r : Int) ≠ 0 := by omega
          have hde := and_dec f1 f4
          rw [← hrs] at hde
          have htz := fun {n0 nx : Nat} {L : List E} {K : V → List E → Nat → Prop} => tz_k (n0 := n0) (nx := nx) (L := L) (K := K) f4 f1
          rw [f5] at htz
          obtain ⟨p1, hp1⟩ : ∃ p1, p1 = p0 ++ prI s a k := ⟨_, rfl⟩
          have hp1l : p1.length ≤ 100 := by rw [hp1, List.length_append]; omega
          have hcl1 := cellC_len (castP p1)
          have hcp1 := castP_len p1
          rw [← hp1]
          by_cases hc : (a : Int) < (b : Nat)
          · have hst : p0 ++ prI s a (k + 1) = p1 ++ [(a, b)] := by rw [hsucc, if_pos (by omega), hp1, List.append_assoc]
            have happ : cellC (castP p1) ++ [C.i (a : Nat), C.i (b : Nat)] = cellC (castP (p1 ++ [(a, b)])) := by rw [castP_app, cellC_app]; rfl
            have hll : (castP (p1 ++ [(a, b)])).length = (castP p1).length + 1 := by rw [castP_app, List.length_append]; rfl
            repeat ((conv => whnf); first | (refine And.intro (by first | omega | exact Nat.le_of_ble_eq_true rfl | (dsimp only [inK]; omega) | (simp only [mulS_eq]; omega) | (simp only [mulS_eq, setL_length]; omega) | (simp only [setL_length]; omega) | (simp only [setL_length, List.length_map]; omega) | (exact ⟨by omega, by omega, by first | exact Nat.le_of_ble_eq_true rfl | (dsimp only; omega) | (simp only [setL_length]; omega) | (simp only [setL_length, List.length_map]; omega)⟩) | (exact ⟨by omega, by first | rfl | omega, by omega, Nat.le_of_ble_eq_true rfl, Nat.le_of_ble_eq_true rfl⟩) | (exact ⟨rfl, rfl, rfl, Nat.le_of_ble_eq_true rfl, by first | rfl | omega | exact Nat.le_of_ble_eq_true rfl | (dsimp only; omega) | (simp; done) | (simp; omega), by first | rfl | omega | exact Nat.le_of_ble_eq_true rfl | (dsimp only; omega) | (simp; done) | (simp; omega), by omega, Nat.le_of_ble_eq_true rfl⟩) | exact Eq.refl true) ?_) | refine Exists.intro _ (And.intro rfl ?_) | refine And.intro (And.intro rfl (chk_rowI _ _ _ _)) ?_ | refine br_t (by omega) ?_ | refine br_f (by omega) ?_ | refine bs_t (by omega) ?_ | refine bs_f (by omega) ?_ | refine fun (K' : K3) hK' => ?_ | (refine hK' _ _ _ ?_; clear hK' K') | refine draw_auto tok mixed (by kernel_rfl) ?_ | refine bs_t hne ?_ | refine br_t hne ?_ | refine htz ?_ | refine bs_bt (Eq.refl true) ?_ | refine bs_bf (Eq.refl false) ?_ | refine br_bt (Eq.refl true) ?_ | refine br_bf (Eq.refl false) ?_ | refine CallK.m ?_ | refine Two.l ?_ | refine And.intro (And.intro rfl rfl) ?_)
            refine hY _ _ _ _ (Nat.le_of_ble_eq_true rfl) rfl ⟨rfl, trivial⟩ ?_
            intro cxb hcx
            refine vc_ok tok ?_
            repeat ((conv => whnf); first | (refine And.intro (by first | omega | exact Nat.le_of_ble_eq_true rfl | (dsimp only [inK]; omega) | (simp only [mulS_eq]; omega) | (simp only [mulS_eq, setL_length]; omega) | (simp only [setL_length]; omega) | (simp only [setL_length, List.length_map]; omega) | (exact ⟨by omega, by omega, by first | exact Nat.le_of_ble_eq_true rfl | (dsimp only; omega) | (simp only [setL_length]; omega) | (simp only [setL_length, List.length_map]; omega)⟩) | (exact ⟨by omega, by first | rfl | omega, by omega, Nat.le_of_ble_eq_true rfl, Nat.le_of_ble_eq_true rfl⟩) | (exact ⟨rfl, rfl, rfl, Nat.le_of_ble_eq_true rfl, by first | rfl | omega | exact Nat.le_of_ble_eq_true rfl | (dsimp only; omega) | (simp; done) | (simp; omega), by first | rfl | omega | exact Nat.le_of_ble_eq_true rfl | (dsimp only; omega) | (simp; done) | (simp; omega), by omega, Nat.le_of_ble_eq_true rfl⟩) | exact Eq.refl true) ?_) | refine Exists.intro _ (And.intro rfl ?_) | refine And.intro (And.intro rfl (chk_rowI _ _ _ _)) ?_ | refine br_t (by omega) ?_ | refine br_f (by omega) ?_ | refine bs_t (by omega) ?_ | refine bs_f (by omega) ?_ | refine fun (K' : K3) hK' => ?_ | (refine hK' _ _ _ ?_; clear hK' K') | refine draw_auto tok mixed (by kernel_rfl) ?_ | refine And.intro (Eq.refl oo) ?_ | refine bs_bt (Eq.refl true) ?_ | refine bs_bf (Eq.refl false) ?_ | refine br_bt (Eq.refl true) ?_ | refine br_bf (Eq.refl false) ?_ | refine CallK.m ?_ | refine Two.l ?_ | refine And.intro (And.intro rfl rfl) ?_)
            refine vc_ok tok ?_
            repeat ((conv => whnf); first | (refine And.intro (by first | omega | exact Nat.le_of_ble_eq_true rfl | (dsimp only [inK]; omega) | (simp only [mulS_eq]; omega) | (simp only [mulS_eq, setL_length]; omega) | (simp only [setL_length]; omega) | (simp only [setL_length, List.length_map]; omega) | (exact ⟨by omega, by omega, by first | exact Nat.le_of_ble_eq_true rfl | (dsimp only; omega) | (simp only [setL_length]; omega) | (simp only [setL_length, List.length_map]; omega)⟩) | (exact ⟨by omega, by first | rfl | omega, by omega, Nat.le_of_ble_eq_true rfl, Nat.le_of_ble_eq_true rfl⟩) | (exact ⟨rfl, rfl, rfl, Nat.le_of_ble_eq_true rfl, by first | rfl | omega | exact Nat.le_of_ble_eq_true rfl | (dsimp only; omega) | (simp; done) | (simp; omega), by first | rfl | omega | exact Nat.le_of_ble_eq_true rfl | (dsimp only; omega) | (simp; done) | (simp; omega), by omega, Nat.le_of_ble_eq_true rfl⟩) | exact Eq.refl true) ?_) | refine Exists.intro _ (And.intro rfl ?_) | refine And.intro (And.intro rfl (chk_rowI _ _ _ _)) ?_ | refine br_t (by omega) ?_ | refine br_f (by omega) ?_ | refine bs_t (by omega) ?_ | refine bs_f (by omega) ?_ | refine fun (K' : K3) hK' => ?_ | (refine hK' _ _ _ ?_; clear hK' K') | refine draw_auto tok mixed (by kernel_rfl) ?_ | refine bs_t hc ?_ | refine br_t hc ?_ | refine And.intro (Eq.refl ob) ?_ | refine bs_bt (Eq.refl true) ?_ | refine bs_bf (Eq.refl false) ?_ | refine br_bt (Eq.refl true) ?_ | refine br_bf (Eq.refl false) ?_ | refine CallK.m ?_ | refine Two.l ?_ | refine And.intro (And.intro rfl rfl) ?_)
            refine ⟨k + 1, [(20, some 22)], by omega, by omega, ?_⟩
            rw [hst, hll]
            refine ⟨?_, ?_, rfl, rfl, by first | exact Nat.le_of_ble_eq_true rfl | exact Nat.le_refl _ | omega⟩
            · repeat (first | exact trivial | (refine And.intro (covS_syn (by first | rfl | exact congrArg (fun z => some (V.c (C.int .u64 z))) hde) rfl (by first | exact trivial | exact Nat.le_of_ble_eq_true rfl | exact hy | (first | ((show ∀ p ∈ (_ : List (Nat × Nat)), p.1 < _); decide) | exact (fun p hp => nomatch hp)) | (show (_ : Nat) < _; omega))) ?_) | refine And.intro (covS_bool rfl rfl (by rfl)) ?_)
            · repeat (first | exact trivial | refine And.intro (covE_c rfl (Nat.le_of_ble_eq_true rfl) rfl happ) ?_ | refine And.intro (covE_u rfl (Nat.le_of_ble_eq_true rfl) rfl rfl) ?_ | refine And.intro (covE_nil rfl (Nat.le_of_ble_eq_true rfl) rfl rfl) ?_ | (refine And.intro (covE_some rfl (Nat.le_of_ble_eq_true rfl) (by first | exact wf_ints _ _ | exact wf_bools _ _ | first | exact wf_us _ _ | exact wf_cells _ _ | (simp [C.wf]; done) | simp [C.wf]) rfl (by first | exact ren_ints _ _ | exact ren_bools _ _ | exact ren_shares _ _ | rfl)) ?_))
          · have hst : p0 ++ prI s a (k + 1) = p1 := by rw [hsucc, if_neg (by omega), hp1, List.append_nil]
            repeat ((conv => whnf); first | (refine And.intro (by first | omega | exact Nat.le_of_ble_eq_true rfl | (dsimp only [inK]; omega) | (simp only [mulS_eq]; omega) | (simp only [mulS_eq, setL_length]; omega) | (simp only [setL_length]; omega) | (simp only [setL_length, List.length_map]; omega) | (exact ⟨by omega, by omega, by first | exact Nat.le_of_ble_eq_true rfl | (dsimp only; omega) | (simp only [setL_length]; omega) | (simp only [setL_length, List.length_map]; omega)⟩) | (exact ⟨by omega, by first | rfl | omega, by omega, Nat.le_of_ble_eq_true rfl, Nat.le_of_ble_eq_true rfl⟩) | (exact ⟨rfl, rfl, rfl, Nat.le_of_ble_eq_true rfl, by first | rfl | omega | exact Nat.le_of_ble_eq_true rfl | (dsimp only; omega) | (simp; done) | (simp; omega), by first | rfl | omega | exact Nat.le_of_ble_eq_true rfl | (dsimp only; omega) | (simp; done) | (simp; omega), by omega, Nat.le_of_ble_eq_true rfl⟩) | exact Eq.refl true) ?_) | refine Exists.intro _ (And.intro rfl ?_) | refine And.intro (And.intro rfl (chk_rowI _ _ _ _)) ?_ | refine br_t (by omega) ?_ | refine br_f (by omega) ?_ | refine bs_t (by omega) ?_ | refine bs_f (by omega) ?_ | refine fun (K' : K3) hK' => ?_ | (refine hK' _ _ _ ?_; clear hK' K') | refine draw_auto tok mixed (by kernel_rfl) ?_ | refine bs_t hne ?_ | refine br_t hne ?_ | refine htz ?_ | refine bs_bt (Eq.refl true) ?_ | refine bs_bf (Eq.refl false) ?_ | refine br_bt (Eq.refl true) ?_ | refine br_bf (Eq.refl false) ?_ | refine CallK.m ?_ | refine Two.l ?_ | refine And.intro (And.intro rfl rfl) ?_)
            refine hY _ _ _ _ (Nat.le_of_ble_eq_true rfl) rfl ⟨rfl, trivial⟩ ?_
            intro cxb hcx
            refine vc_ok tok ?_
            repeat ((conv => whnf); first | (refine And.intro (by first | omega | exact Nat.le_of_ble_eq_true rfl | (dsimp only [inK]; omega) | (simp only [mulS_eq]; omega) | (simp only [mulS_eq, setL_length]; omega) | (simp only [setL_length]; omega) | (simp only [setL_length, List.length_map]; omega) | (exact ⟨by omega, by omega, by first | exact Nat.le_of_ble_eq_true rfl | (dsimp only; omega) | (simp only [setL_length]; omega) | (simp only [setL_length, List.length_map]; omega)⟩) | (exact ⟨by omega, by first | rfl | omega, by omega, Nat.le_of_ble_eq_true rfl, Nat.le_of_ble_eq_true rfl⟩) | (exact ⟨rfl, rfl, rfl, Nat.le_of_ble_eq_true rfl, by first | rfl | omega | exact Nat.le_of_ble_eq_true rfl | (dsimp only; omega) | (simp; done) | (simp; omega), by first | rfl | omega | exact Nat.le_of_ble_eq_true rfl | (dsimp only; omega) | (simp; done) | (simp; omega), by omega, Nat.le_of_ble_eq_true rfl⟩) | exact Eq.refl true) ?_) | refine Exists.intro _ (And.intro rfl ?_) | refine And.intro (And.intro rfl (chk_rowI _ _ _ _)) ?_ | refine br_t (by omega) ?_ | refine br_f (by omega) ?_ | refine bs_t (by omega) ?_ | refine bs_f (by omega) ?_ | refine fun (K' : K3) hK' => ?_ | (refine hK' _ _ _ ?_; clear hK' K') | refine draw_auto tok mixed (by kernel_rfl) ?_ | refine And.intro (Eq.refl oo) ?_ | refine bs_bt (Eq.refl true) ?_ | refine bs_bf (Eq.refl false) ?_ | refine br_bt (Eq.refl true) ?_ | refine br_bf (Eq.refl false) ?_ | refine CallK.m ?_ | refine Two.l ?_ | refine And.intro (And.intro rfl rfl) ?_)
            refine vc_ok tok ?_
            repeat ((conv => whnf); first | (refine And.intro (by first | omega | exact Nat.le_of_ble_eq_true rfl | (dsimp only [inK]; omega) | (simp only [mulS_eq]; omega) | (simp only [mulS_eq, setL_length]; omega) | (simp only [setL_length]; omega) | (simp only [setL_length, List.length_map]; omega) | (exact ⟨by omega, by omega, by first | exact Nat.le_of_ble_eq_true rfl | (dsimp only; omega) | (simp only [setL_length]; omega) | (simp only [setL_length, List.length_map]; omega)⟩) | (exact ⟨by omega, by first | rfl | omega, by omega, Nat.le_of_ble_eq_true rfl, Nat.le_of_ble_eq_true rfl⟩) | (exact ⟨rfl, rfl, rfl, Nat.le_of_ble_eq_true rfl, by first | rfl | omega | exact Nat.le_of_ble_eq_true rfl | (dsimp only; omega) | (simp; done) | (simp; omega), by first | rfl | omega | exact Nat.le_of_ble_eq_true rfl | (dsimp only; omega) | (simp; done) | (simp; omega), by omega, Nat.le_of_ble_eq_true rfl⟩) | exact Eq.refl true) ?_) | refine Exists.intro _ (And.intro rfl ?_) | refine And.intro (And.intro rfl (chk_rowI _ _ _ _)) ?_ | refine br_t (by omega) ?_ | refine br_f (by omega) ?_ | refine bs_t (by omega) ?_ | refine bs_f (by omega) ?_ | refine fun (K' : K3) hK' => ?_ | (refine hK' _ _ _ ?_; clear hK' K') | refine draw_auto tok mixed (by kernel_rfl) ?_ | refine bs_f hc ?_ | refine br_f hc ?_ | refine And.intro (Eq.refl ob) ?_ | refine bs_bt (Eq.refl true) ?_ | refine bs_bf (Eq.refl false) ?_ | refine br_bt (Eq.refl true) ?_ | refine br_bf (Eq.refl false) ?_ | refine CallK.m ?_ | refine Two.l ?_ | refine And.intro (And.intro rfl rfl) ?_)
            refine ⟨k + 1, [], by omega, by omega, ?_⟩
            rw [hst]
            refine ⟨?_, ?_, rfl, rfl, by first | exact Nat.le_of_ble_eq_true rfl | exact Nat.le_refl _ | omega⟩
            · repeat (first | exact trivial | (refine And.intro (covS_syn (by first | rfl | exact congrArg (fun z => some (V.c (C.int .u64 z))) hde) rfl (by first | exact trivial | exact Nat.le_of_ble_eq_true rfl | exact hy | (first | ((show ∀ p ∈ (_ : List (Nat × Nat)), p.1 < _); decide) | exact (fun p hp => nomatch hp)) | (show (_ : Nat) < _; omega))) ?_) | refine And.intro (covS_bool rfl rfl (by rfl)) ?_)
            · repeat (first | exact trivial | (refine And.intro (covE_id (Nat.le_of_ble_eq_true rfl) (by first | exact wf_ints _ _ | exact wf_bools _ _ | first | exact wf_us _ _ | exact wf_cells _ _ | (simp [C.wf]; done) | simp [C.wf]) rfl (by rfl)) ?_))
        · have f6 := f3 (by omega)
          obtain rfl : k = (bitsL s).length := by omega
          rw [f6, ← hps]
          repeat ((conv => whnf); first | (refine And.intro (by first | omega | exact Nat.le_of_ble_eq_true rfl | (dsimp only [inK]; omega) | (simp only [mulS_eq]; omega) | (simp only [mulS_eq, setL_length]; omega) | (simp only [setL_length]; omega) | (simp only [setL_length, List.length_map]; omega) | (exact ⟨by omega, by omega, by first | exact Nat.le_of_ble_eq_true rfl | (dsimp only; omega) | (simp only [setL_length]; omega) | (simp only [setL_length, List.length_map]; omega)⟩) | (exact ⟨by omega, by first | rfl | omega, by omega, Nat.le_of_ble_eq_true rfl, Nat.le_of_ble_eq_true rfl⟩) | (exact ⟨rfl, rfl, rfl, Nat.le_of_ble_eq_true rfl, by first | rfl | omega | exact Nat.le_of_ble_eq_true rfl | (dsimp only; omega) | (simp; done) | (simp; omega), by first | rfl | omega | exact Nat.le_of_ble_eq_true rfl | (dsimp only; omega) | (simp; done) | (simp; omega), by omega, Nat.le_of_ble_eq_true rfl⟩) | exact Eq.refl true) ?_) | refine Exists.intro _ (And.intro rfl ?_) | refine And.intro (And.intro rfl (chk_rowI _ _ _ _)) ?_ | refine br_t (by omega) ?_ | refine br_f (by omega) ?_ | refine bs_t (by omega) ?_ | refine bs_f (by omega) ?_ | refine fun (K' : K3) hK' => ?_ | (refine hK' _ _ _ ?_; clear hK' K') | refine draw_auto tok mixed (by kernel_rfl) ?_ | refine Or.inl ?_ | refine And.intro (Eq.refl oo) ?_ | refine bs_bt (Eq.refl true) ?_ | refine bs_bf (Eq.refl false) ?_ | refine br_bt (Eq.refl true) ?_ | refine br_bf (Eq.refl false) ?_ | refine CallK.m ?_ | refine Two.l ?_ | refine And.intro (And.intro rfl rfl) ?_)
          refine hK' _ _ _ _ ?_
          repeat ((conv => whnf); first | (refine And.intro (by first | omega | exact Nat.le_of_ble_eq_true rfl | (dsimp only [inK]; omega) | (simp only [mulS_eq]; omega) | (simp only [mulS_eq, setL_length]; omega) | (simp only [setL_length]; omega) | (simp only [setL_length, List.length_map]; omega) | (exact ⟨by omega, by omega, by first | exact Nat.le_of_ble_eq_true rfl | (dsimp only; omega) | (simp only [setL_length]; omega) | (simp only [setL_length, List.length_map]; omega)⟩) | (exact ⟨by omega, by first | rfl | omega, by omega, Nat.le_of_ble_eq_true rfl, Nat.le_of_ble_eq_true rfl⟩) | (exact ⟨rfl, rfl, rfl, Nat.le_of_ble_eq_true rfl, by first | rfl | omega | exact Nat.le_of_ble_eq_true rfl | (dsimp only; omega) | (simp; done) | (simp; omega), by first | rfl | omega | exact Nat.le_of_ble_eq_true rfl | (dsimp only; omega) | (simp; done) | (simp; omega), by omega, Nat.le_of_ble_eq_true rfl⟩) | exact Eq.refl true) ?_) | refine Exists.intro _ (And.intro rfl ?_) | refine And.intro (And.intro rfl (chk_rowI _ _ _ _)) ?_ | refine br_t (by omega) ?_ | refine br_f (by omega) ?_ | refine bs_t (by omega) ?_ | refine bs_f (by omega) ?_ | refine fun (K' : K3) hK' => ?_ | (refine hK' _ _ _ ?_; clear hK' K') | refine draw_auto tok mixed (by kernel_rfl) ?_ | refine bs_bt (Eq.refl true) ?_ | refine bs_bf (Eq.refl false) ?_ | refine br_bt (Eq.refl true) ?_ | refine br_bf (Eq.refl false) ?_ | refine CallK.m ?_ | refine Two.l ?_ | refine And.intro (And.intro rfl rfl) ?_)
          refine ⟨a + 1, [(3, some 20)], by omega, by omega, ?_⟩
          refine ⟨?_, ?_, rfl, rfl, by first | exact Nat.le_of_ble_eq_true rfl | exact Nat.le_refl _ | omega⟩
          · repeat (first | exact trivial | (refine And.intro (covS_syn (by first | rfl | (refine congrArg some (congrArg V.i ?_); omega)) rfl (by first | exact trivial | exact Nat.le_of_ble_eq_true rfl | exact hy | (first | ((show ∀ p ∈ (_ : List (Nat × Nat)), p.1 < _); decide) | exact (fun p hp => nomatch hp)) | (show (_ : Nat) < _; omega))) ?_) | refine And.intro (covS_bool rfl rfl (by rfl)) ?_)
          · repeat (first | exact trivial | refine And.intro (covE_c rfl (Nat.le_of_ble_eq_true rfl) rfl rfl) ?_ | refine And.intro (covE_u rfl (Nat.le_of_ble_eq_true rfl) rfl rfl) ?_ | refine And.intro (covE_nil rfl (Nat.le_of_ble_eq_true rfl) rfl rfl) ?_ | (refine And.intro (covE_some rfl (Nat.le_of_ble_eq_true rfl) (by first | exact wf_ints _ _ | exact wf_bools _ _ | first | exact wf_us _ _ | exact wf_cells _ _ | (simp [C.wf]; done) | simp [C.wf]) rfl (by first | exact ren_ints _ _ | exact ren_bools _ _ | exact ren_shares _ _ | rfl)) ?_))
    · obtain rfl : a = n := by omega
      repeat ((conv => whnf); first | (refine And.intro (by first | omega | exact Nat.le_of_ble_eq_true rfl | (dsimp only [inK]; omega) | (simp only [mulS_eq]; omega) | (simp only [mulS_eq, setL_length]; omega) | (simp only [setL_length]; omega) | (simp only [setL_length, List.length_map]; omega) | (exact ⟨by omega, by omega, by first | exact Nat.le_of_ble_eq_true rfl | (dsimp only; omega) | (simp only [setL_length]; omega) | (simp only [setL_length, List.length_map]; omega)⟩) | (exact ⟨by omega, by first | rfl | omega, by omega, Nat.le_of_ble_eq_true rfl, Nat.le_of_ble_eq_true rfl⟩) | (exact ⟨rfl, rfl, rfl, Nat.le_of_ble_eq_true rfl, by first | rfl | omega | exact Nat.le_of_ble_eq_true rfl | (dsimp only; omega) | (simp; done) | (simp; omega), by first | rfl | omega | exact Nat.le_of_ble_eq_true rfl | (dsimp only; omega) | (simp; done) | (simp; omega), by omega, Nat.le_of_ble_eq_true rfl⟩) | exact Eq.refl true) ?_) | refine Exists.intro _ (And.intro rfl ?_) | refine And.intro (And.intro rfl (chk_rowI _ _ _ _)) ?_ | refine br_t (by omega) ?_ | refine br_f (by omega) ?_ | refine bs_t (by omega) ?_ | refine bs_f (by omega) ?_ | refine fun (K' : K3) hK' => ?_ | (refine hK' _ _ _ ?_; clear hK' K') | refine draw_auto tok mixed (by kernel_rfl) ?_ | refine bs_bt (Eq.refl true) ?_ | refine bs_bf (Eq.refl false) ?_ | refine br_bt (Eq.refl true) ?_ | refine br_bf (Eq.refl false) ?_ | refine CallK.m ?_ | refine Two.l ?_ | refine And.intro (And.intro rfl rfl) ?_)
      exact .inr ⟨3, rfl, rfl⟩
end Go.Proofs.YtijnimgmpocmaaaDoor

/- Waste: the fewest skips. -/
namespace Go.Proofs.YtijnimgmpocmaaaDoor
open Go.RowKit
set_option linter.unusedVariables false
set_option linter.unusedSimpArgs false
theorem pos_spec (x : Int) : Spec Tryd.prog 97 [V.i x] [] 1 (Is (V.c (.bool (decide (x > 0))))) := by
  refine Spec.of tok Tryd.func97 rfl rfl rfl fun n0 cx => vc_ok tok ?_
  repeat ((conv => whnf); first | (refine And.intro (by first | omega | exact Nat.le_of_ble_eq_true rfl | (dsimp only [inK]; omega) | (simp only [mulS_eq]; omega) | (simp only [mulS_eq, setL_length]; omega) | (simp only [setL_length]; omega) | (simp only [setL_length, List.length_map]; omega) | (exact ⟨by omega, by omega, by first | exact Nat.le_of_ble_eq_true rfl | (dsimp only; omega) | (simp only [setL_length]; omega) | (simp only [setL_length, List.length_map]; omega)⟩) | (exact ⟨by omega, by first | rfl | omega, by omega, Nat.le_of_ble_eq_true rfl, Nat.le_of_ble_eq_true rfl⟩) | (exact ⟨rfl, rfl, rfl, Nat.le_of_ble_eq_true rfl, by first | rfl | omega | exact Nat.le_of_ble_eq_true rfl | (dsimp only; omega) | (simp; done) | (simp; omega), by first | rfl | omega | exact Nat.le_of_ble_eq_true rfl | (dsimp only; omega) | (simp; done) | (simp; omega), by omega, Nat.le_of_ble_eq_true rfl⟩) | exact Eq.refl true) ?_) | refine Exists.intro _ (And.intro rfl ?_) | refine And.intro (And.intro rfl (chk_rowI _ _ _ _)) ?_ | refine br_t (by omega) ?_ | refine br_f (by omega) ?_ | refine bs_t (by omega) ?_ | refine bs_f (by omega) ?_ | refine fun (K' : K3) hK' => ?_ | (refine hK' _ _ _ ?_; clear hK' K') | refine draw_auto tok mixed (by kernel_rfl) ?_ | refine bs_bt (Eq.refl true) ?_ | refine bs_bf (Eq.refl false) ?_ | refine br_bt (Eq.refl true) ?_ | refine br_bf (Eq.refl false) ?_ | refine CallK.m ?_ | refine Two.l ?_ | refine And.intro (And.intro rfl rfl) ?_)
  intro ρ; rfl
def fewI (t : List Nat) (n : Nat) : Int := idxV (fnL (srtW t) (n + 1)) fun x => decide (x > 0)
theorem fewest_spec (t : List Nat) (n : Nat) (htl : t.length = n) (hn : n ≤ 8) (ht : ∀ s ∈ t, s < 256) : Spec Tryd.prog 70 [V.c (.sl 0 n)] [⟨0, .ro 0, t.map C.u⟩] 1 (Is (V.i (fewI t n))) := by
  have hso := sorts_spec t n htl hn ht
  have hix := index_any (Lc := []) (na := 1) (p := fun x => decide (x > 0)) (l := fnL (srtW t) (n + 1)) (f := 97) (caps := []) (by rw [fnL_len]; omega) (by kernel_rfl) (fun i hi => pos_spec _) (by simp) (by omega) (by simp) (fun _ _ => trivial) rfl
  rw [fnL_len] at hix
  refine Spec.of tok Tryd.func70 rfl rfl rfl fun n0 cx => vc_ok tok ?_
  repeat ((conv => whnf); first | (refine And.intro (by first | omega | exact Nat.le_of_ble_eq_true rfl | (dsimp only [inK]; omega) | (simp only [mulS_eq]; omega) | (simp only [mulS_eq, setL_length]; omega) | (simp only [setL_length]; omega) | (simp only [setL_length, List.length_map]; omega) | (exact ⟨by omega, by omega, by first | exact Nat.le_of_ble_eq_true rfl | (dsimp only; omega) | (simp only [setL_length]; omega) | (simp only [setL_length, List.length_map]; omega)⟩) | (exact ⟨by omega, by first | rfl | omega, by omega, Nat.le_of_ble_eq_true rfl, Nat.le_of_ble_eq_true rfl⟩) | (exact ⟨rfl, rfl, rfl, Nat.le_of_ble_eq_true rfl, by first | rfl | omega | exact Nat.le_of_ble_eq_true rfl | (dsimp only; omega) | (simp; done) | (simp; omega), by first | rfl | omega | exact Nat.le_of_ble_eq_true rfl | (dsimp only; omega) | (simp; done) | (simp; omega), by omega, Nat.le_of_ble_eq_true rfl⟩) | exact Eq.refl true) ?_) | refine Exists.intro _ (And.intro rfl ?_) | refine And.intro (And.intro rfl (chk_rowI _ _ _ _)) ?_ | refine br_t (by omega) ?_ | refine br_f (by omega) ?_ | refine bs_t (by omega) ?_ | refine bs_f (by omega) ?_ | refine fun (K' : K3) hK' => ?_ | (refine hK' _ _ _ ?_; clear hK' K') | refine draw_auto tok mixed (by kernel_rfl) ?_ | refine CallK.rowF (R := []) (flat_i _) hso (by kernel_rfl) rfl (by simp [V.wf, A.wf, C.wf]) ⟨roE_f (flat_u _) (l := 0) rfl (by omega) rfl (.inl rfl), trivial⟩ rfl ?_ | refine CallK.val (R := [(0, some 1)]) hix (by kernel_rfl) rfl (by simp [V.wf, A.wf, C.wf]) ⟨roE_f (flat_i _) (l := 1) rfl (by omega) rfl (.inl rfl), trivial⟩ rfl rfl trivial ?_ | refine bs_bt (Eq.refl true) ?_ | refine bs_bf (Eq.refl false) ?_ | refine br_bt (Eq.refl true) ?_ | refine br_bf (Eq.refl false) ?_ | refine CallK.m ?_ | refine Two.l ?_ | refine And.intro (And.intro rfl rfl) ?_)
  intro ρ; rfl
set_option maxRecDepth 10000 in
theorem Fewest_spec (n : Nat) (qs : List (Nat × Nat)) (hk : Knd n qs) : Spec Tryd.prog 31 [V.agg [C.i n, C.sl 0 (castP qs).length]] [⟨0, .ro 2, cellC (castP qs)⟩] 1 (Is (V.tup [A.c (C.i (fewI (tabS n qs) n)), A.c (C.i 0)])) := by
  have hnt := newTable_spec n qs hk
  have hfe := fewest_spec (tabS n qs) n (tabS_len n qs) hk.rng.2 (tabS_256 hk)
  refine Spec.of tok Tryd.func31 rfl rfl rfl fun n0 cx => vc_ok tok ?_
  repeat ((conv => whnf); first | (refine And.intro (by first | omega | exact Nat.le_of_ble_eq_true rfl | (dsimp only [inK]; omega) | (simp only [mulS_eq]; omega) | (simp only [mulS_eq, setL_length]; omega) | (simp only [setL_length]; omega) | (simp only [setL_length, List.length_map]; omega) | (exact ⟨by omega, by omega, by first | exact Nat.le_of_ble_eq_true rfl | (dsimp only; omega) | (simp only [setL_length]; omega) | (simp only [setL_length, List.length_map]; omega)⟩) | (exact ⟨by omega, by first | rfl | omega, by omega, Nat.le_of_ble_eq_true rfl, Nat.le_of_ble_eq_true rfl⟩) | (exact ⟨rfl, rfl, rfl, Nat.le_of_ble_eq_true rfl, by first | rfl | omega | exact Nat.le_of_ble_eq_true rfl | (dsimp only; omega) | (simp; done) | (simp; omega), by first | rfl | omega | exact Nat.le_of_ble_eq_true rfl | (dsimp only; omega) | (simp; done) | (simp; omega), by omega, Nat.le_of_ble_eq_true rfl⟩) | exact Eq.refl true) ?_) | refine Exists.intro _ (And.intro rfl ?_) | refine And.intro (And.intro rfl (chk_rowI _ _ _ _)) ?_ | refine br_t (by omega) ?_ | refine br_f (by omega) ?_ | refine bs_t (by omega) ?_ | refine bs_f (by omega) ?_ | refine fun (K' : K3) hK' => ?_ | (refine hK' _ _ _ ?_; clear hK' K') | refine draw_auto tok mixed (by kernel_rfl) ?_ | refine CallK.rowE (R := []) (flat_u _) hnt (by kernel_rfl) rfl (by simp [V.wf, A.wf, C.wf]) ⟨roE_f (flat_c _) (l := 0) rfl (by omega) rfl (.inr rfl), trivial⟩ rfl ?_ | refine CallK.val (R := [(0, some 2)]) hfe (by kernel_rfl) rfl (by simp [V.wf, A.wf, C.wf]) ⟨roE_f (flat_u _) (l := 2) rfl (by omega) rfl (.inl rfl), trivial⟩ rfl rfl trivial ?_ | refine bs_bt (Eq.refl true) ?_ | refine bs_bf (Eq.refl false) ?_ | refine br_bt (Eq.refl true) ?_ | refine br_bf (Eq.refl false) ?_ | refine CallK.m ?_ | refine Two.l ?_ | refine And.intro (And.intro rfl rfl) ?_)
  intro ρ; rfl
theorem srt_sig {n : Nat} {qs : List (Nat × Nat)} (hk : Knd n qs) (j : Nat) : srtW (tabS n qs) j = sig (symC (clP qs)) (List.range n) j := by
  have hl := tabS_len n qs
  have := waysB_sig (cl := symC (clP qs)) (t := tabS n qs) (fun a b _ _ => tabS_cl hk a b) j
  rw [hl] at this
  unfold srtW; rw [hl]; exact this
theorem fewI_least {n : Nat} {qs : List (Nat × Nat)} (hk : Knd n qs) : ∃ k, k ≤ n ∧ fewI (tabS n qs) n = (k : Nat) ∧ 0 < sig (symC (clP qs)) (List.range n) k ∧ ∀ j, j < k → sig (symC (clP qs)) (List.range n) j = 0 := by
  unfold fewI idxV
  cases h : (fnL (srtW (tabS n qs)) (n + 1)).findIdx? fun x => decide (x > 0) with
  | none =>
    exfalso
    have h1 := List.findIdx?_eq_none_iff.1 h (srtW (tabS n qs) n) (List.mem_map.2 ⟨n, List.mem_range.2 (by omega), rfl⟩)
    have h2 := sig_top (symC (clP qs)) (List.range n)
    rw [List.length_range] at h2
    rw [srt_sig hk, h2] at h1
    simp at h1
  | some k =>
    obtain ⟨h1, h2, h3⟩ := List.findIdx?_eq_some_iff_getElem.1 h
    rw [fnL_len] at h1
    have hg : ∀ j (hj : j < (fnL (srtW (tabS n qs)) (n + 1)).length), (fnL (srtW (tabS n qs)) (n + 1))[j] = srtW (tabS n qs) j := fun j hj => by simp [fnL]
    refine ⟨k, by omega, rfl, ?_, fun j hj => ?_⟩
    · rw [hg, srt_sig hk] at h2; simpa using h2
    · have h4 := h3 j hj
      rw [hg, srt_sig hk] at h4
      have h5 := sig_nonneg (symC (clP qs)) (List.range n) j
      simp at h4
      omega
end Go.Proofs.YtijnimgmpocmaaaDoor

/- Waste, plain: a pair less. -/
namespace Go.Proofs.YtijnimgmpocmaaaDoor
open Go.RowKit
set_option linter.unusedVariables false
set_option linter.unusedSimpArgs false
theorem castP_erase : ∀ (qs : List (Nat × Nat)) (i : Nat), (castP qs).eraseIdx i = castP (qs.eraseIdx i)
  | [], _ => rfl
  | _ :: _, 0 => rfl
  | x :: r, i + 1 => congrArg (fun l => ((x.1 : Int), (x.2 : Int)) :: l) (castP_erase r i)
theorem mem_eraseI {qs : List (Nat × Nat)} (hd : qs.Nodup) {i : Nat} (hi : i < qs.length) (p : Nat × Nat) : p ∈ qs.eraseIdx i ↔ p ∈ qs ∧ p ≠ qs.getD i (0, 0) := by
  have hg : qs.getD i (0, 0) = qs[i] := by simp [List.getD_eq_getElem?_getD, hi]
  have hp := List.pairwise_iff_getElem.1 (List.nodup_iff_pairwise_ne.1 hd)
  rw [hg, List.mem_eraseIdx_iff_getElem]
  constructor
  · rintro ⟨j, hj, hne, rfl⟩
    refine ⟨List.getElem_mem hj, fun e => ?_⟩
    rcases Nat.lt_or_gt_of_ne hne with h | h
    · exact hp j i hj hi h e
    · exact hp i j hi hj h e.symm
  · rintro ⟨hm, hne⟩
    obtain ⟨j, hj, rfl⟩ := List.mem_iff_getElem.1 hm
    exact ⟨j, hj, fun e => hne (by subst e; rfl), rfl⟩
theorem Knd.erase {n : Nat} {qs : List (Nat × Nat)} (hk : Knd n qs) (i : Nat) : Knd n (qs.eraseIdx i) :=
  ⟨hk.rng, fun p hp => hk.ok p (List.mem_of_mem_eraseIdx hp), hk.nd.sublist (List.eraseIdx_sublist _ _)⟩
theorem clP_erase {n : Nat} {qs : List (Nat × Nat)} (hk : Knd n qs) {i : Nat} (hi : i < qs.length) : clP (qs.eraseIdx i) = cutP (clP qs) (qs.getD i (0, 0)).1 (qs.getD i (0, 0)).2 := by
  funext a b
  rw [Bool.eq_iff_iff, clP_iff, mem_eraseI hk.nd hi]
  unfold cutP
  rw [Bool.and_eq_true, clP_iff]
  refine and_congr_right fun _ => ?_
  rw [Bool.not_eq_true', Bool.and_eq_false_iff, decide_eq_false_iff_not, decide_eq_false_iff_not]
  constructor
  · intro h
    by_cases h1 : a = (qs.getD i (0, 0)).1
    · right; intro h2; exact h (Prod.ext h1 h2)
    · exact .inl h1
  · rintro h e
    rw [← e] at h
    rcases h with h | h <;> exact h rfl
theorem pairE_ok {n : Nat} {qs : List (Nat × Nat)} (hk : Knd n qs) {i : Nat} (hi : i < qs.length) : pairE n (castP qs) (i : Nat) = 0 := by
  unfold pairE
  rw [knd_ok hk, if_pos rfl, if_pos (by rw [castP_len]; omega)]
end Go.Proofs.YtijnimgmpocmaaaDoor

/- Waste: Joined. -/
namespace Go.Proofs.YtijnimgmpocmaaaDoor
open Go.RowKit
set_option linter.unusedVariables false
set_option linter.unusedSimpArgs false
theorem nam_spec (u v a : Nat) (hv : v < 100) (ha : a < 100) : Spec Tryd.prog 67 [V.i a, V.c (.ptr 0 0), V.c (.ptr 1 0)] [⟨0, .ro 0, [C.i v]⟩, ⟨1, .ro 0, [C.i u]⟩] 2 (Is (V.i (nam u v a : Nat))) := by
  refine Spec.of tok Tryd.func67 rfl rfl rfl fun n0 cx => vc_ok tok ?_
  by_cases h1 : (a : Int) = (v : Nat)
  · repeat ((conv => whnf); first | (refine And.intro (by first | omega | exact Nat.le_of_ble_eq_true rfl | (dsimp only [inK]; omega) | (simp only [mulS_eq]; omega) | (simp only [mulS_eq, setL_length]; omega) | (simp only [setL_length]; omega) | (simp only [setL_length, List.length_map]; omega) | (exact ⟨by omega, by omega, by first | exact Nat.le_of_ble_eq_true rfl | (dsimp only; omega) | (simp only [setL_length]; omega) | (simp only [setL_length, List.length_map]; omega)⟩) | (exact ⟨by omega, by first | rfl | omega, by omega, Nat.le_of_ble_eq_true rfl, Nat.le_of_ble_eq_true rfl⟩) | (exact ⟨rfl, rfl, rfl, Nat.le_of_ble_eq_true rfl, by first | rfl | omega | exact Nat.le_of_ble_eq_true rfl | (dsimp only; omega) | (simp; done) | (simp; omega), by first | rfl | omega | exact Nat.le_of_ble_eq_true rfl | (dsimp only; omega) | (simp; done) | (simp; omega), by omega, Nat.le_of_ble_eq_true rfl⟩) | exact Eq.refl true) ?_) | refine Exists.intro _ (And.intro rfl ?_) | refine And.intro (And.intro rfl (chk_rowI _ _ _ _)) ?_ | refine br_t (by omega) ?_ | refine br_f (by omega) ?_ | refine bs_t (by omega) ?_ | refine bs_f (by omega) ?_ | refine fun (K' : K3) hK' => ?_ | (refine hK' _ _ _ ?_; clear hK' K') | refine draw_auto tok mixed (by kernel_rfl) ?_ | refine bs_t h1 ?_ | refine br_t h1 ?_ | refine bs_bt (Eq.refl true) ?_ | refine bs_bf (Eq.refl false) ?_ | refine br_bt (Eq.refl true) ?_ | refine br_bf (Eq.refl false) ?_ | refine CallK.m ?_ | refine Two.l ?_ | refine And.intro (And.intro rfl rfl) ?_)
    intro ρ; rw [show nam u v a = u by unfold nam; rw [if_pos (by omega)]]; rfl
  · by_cases h2 : (a : Int) > (v : Nat)
    · repeat ((conv => whnf); first | (refine And.intro (by first | omega | exact Nat.le_of_ble_eq_true rfl | (dsimp only [inK]; omega) | (simp only [mulS_eq]; omega) | (simp only [mulS_eq, setL_length]; omega) | (simp only [setL_length]; omega) | (simp only [setL_length, List.length_map]; omega) | (exact ⟨by omega, by omega, by first | exact Nat.le_of_ble_eq_true rfl | (dsimp only; omega) | (simp only [setL_length]; omega) | (simp only [setL_length, List.length_map]; omega)⟩) | (exact ⟨by omega, by first | rfl | omega, by omega, Nat.le_of_ble_eq_true rfl, Nat.le_of_ble_eq_true rfl⟩) | (exact ⟨rfl, rfl, rfl, Nat.le_of_ble_eq_true rfl, by first | rfl | omega | exact Nat.le_of_ble_eq_true rfl | (dsimp only; omega) | (simp; done) | (simp; omega), by first | rfl | omega | exact Nat.le_of_ble_eq_true rfl | (dsimp only; omega) | (simp; done) | (simp; omega), by omega, Nat.le_of_ble_eq_true rfl⟩) | exact Eq.refl true) ?_) | refine Exists.intro _ (And.intro rfl ?_) | refine And.intro (And.intro rfl (chk_rowI _ _ _ _)) ?_ | refine br_t (by omega) ?_ | refine br_f (by omega) ?_ | refine bs_t (by omega) ?_ | refine bs_f (by omega) ?_ | refine fun (K' : K3) hK' => ?_ | (refine hK' _ _ _ ?_; clear hK' K') | refine draw_auto tok mixed (by kernel_rfl) ?_ | refine bs_f h1 ?_ | refine br_f h1 ?_ | refine bs_t h2 ?_ | refine br_t h2 ?_ | refine bs_bt (Eq.refl true) ?_ | refine bs_bf (Eq.refl false) ?_ | refine br_bt (Eq.refl true) ?_ | refine br_bf (Eq.refl false) ?_ | refine CallK.m ?_ | refine Two.l ?_ | refine And.intro (And.intro rfl rfl) ?_)
      intro ρ
      show Value.int _ _ = Value.int _ _
      rw [show nam u v a = a - 1 by unfold nam; rw [if_neg (by omega), if_pos (by omega)], show ((a - 1 : Nat) : Int) = (a : Int) - 1 by omega]
    · repeat ((conv => whnf); first | (refine And.intro (by first | omega | exact Nat.le_of_ble_eq_true rfl | (dsimp only [inK]; omega) | (simp only [mulS_eq]; omega) | (simp only [mulS_eq, setL_length]; omega) | (simp only [setL_length]; omega) | (simp only [setL_length, List.length_map]; omega) | (exact ⟨by omega, by omega, by first | exact Nat.le_of_ble_eq_true rfl | (dsimp only; omega) | (simp only [setL_length]; omega) | (simp only [setL_length, List.length_map]; omega)⟩) | (exact ⟨by omega, by first | rfl | omega, by omega, Nat.le_of_ble_eq_true rfl, Nat.le_of_ble_eq_true rfl⟩) | (exact ⟨rfl, rfl, rfl, Nat.le_of_ble_eq_true rfl, by first | rfl | omega | exact Nat.le_of_ble_eq_true rfl | (dsimp only; omega) | (simp; done) | (simp; omega), by first | rfl | omega | exact Nat.le_of_ble_eq_true rfl | (dsimp only; omega) | (simp; done) | (simp; omega), by omega, Nat.le_of_ble_eq_true rfl⟩) | exact Eq.refl true) ?_) | refine Exists.intro _ (And.intro rfl ?_) | refine And.intro (And.intro rfl (chk_rowI _ _ _ _)) ?_ | refine br_t (by omega) ?_ | refine br_f (by omega) ?_ | refine bs_t (by omega) ?_ | refine bs_f (by omega) ?_ | refine fun (K' : K3) hK' => ?_ | (refine hK' _ _ _ ?_; clear hK' K') | refine draw_auto tok mixed (by kernel_rfl) ?_ | refine bs_f h1 ?_ | refine br_f h1 ?_ | refine bs_f h2 ?_ | refine br_f h2 ?_ | refine bs_bt (Eq.refl true) ?_ | refine bs_bf (Eq.refl false) ?_ | refine br_bt (Eq.refl true) ?_ | refine br_bf (Eq.refl false) ?_ | refine CallK.m ?_ | refine Two.l ?_ | refine And.intro (And.intro rfl rfl) ?_)
      intro ρ; rw [show nam u v a = a by unfold nam; rw [if_neg (by omega), if_neg (by omega)]]; rfl
theorem flat_1 (x : Int) : FlatC [C.i x] := fun c hc => ⟨_, _, List.mem_singleton.1 hc⟩
def jn1 (u v : Nat) (t : List Nat) (p : Nat × Nat) : List Nat :=
  if nam u v p.1 = nam u v p.2 then t else (t.set (nam u v p.1) (t.getD (nam u v p.1) 0 ||| 2 ^ nam u v p.2)).set (nam u v p.2) (t.getD (nam u v p.2) 0 ||| 2 ^ nam u v p.1)
def jnK (n u v : Nat) (qs : List (Nat × Nat)) : Nat → List Nat
  | 0 => List.replicate (n - 1) 0
  | k + 1 => jn1 u v (jnK n u v qs k) (qs.getD k (0, 0))
theorem jn1_len (u v : Nat) (t : List Nat) (p : Nat × Nat) : (jn1 u v t p).length = t.length := by unfold jn1; split <;> simp
theorem jnK_len (n u v : Nat) (qs : List (Nat × Nat)) : ∀ k, (jnK n u v qs k).length = n - 1
  | 0 => by simp [jnK]
  | k + 1 => by simp only [jnK]; rw [jn1_len, jnK_len n u v qs k]
theorem nam_lt {n u v a : Nat} (huv : u < v) (hv : v < n) (ha : a < n) : nam u v a < n - 1 := by
  unfold nam
  split
  · omega
  · split <;> omega
theorem jnK_lt {n u v : Nat} {qs : List (Nat × Nat)} (hk : Knd n qs) (huv : u < v) (hv : v < n) : ∀ k, k ≤ qs.length → ∀ x ∈ jnK n u v qs k, x < 256
  | 0, _, x, hx => by simp only [jnK] at hx; rw [List.eq_of_mem_replicate hx]; omega
  | k + 1, hkk, x, hx => by
    have hp := hk.ok _ (getD_mem (show k < qs.length by omega))
    have hn := hk.rng
    have ih := jnK_lt hk huv hv k (by omega)
    have h1 := nam_lt (a := (qs.getD k (0, 0)).1) huv hv (by omega)
    have h2 := nam_lt (a := (qs.getD k (0, 0)).2) huv hv (by omega)
    simp only [jnK, jn1] at hx
    split at hx
    · exact ih x hx
    · rcases List.mem_or_eq_of_mem_set hx with h | rfl
      · rcases List.mem_or_eq_of_mem_set h with h | rfl
        · exact ih x h
        · exact or_256 (getD_lt (by omega) ih _) (pow_256 (by omega))
      · exact or_256 (getD_lt (by omega) ih _) (pow_256 (by omega))
/-- The pairs of the joined kinds. -/
def jnQ (n : Nat) (qs : List (Nat × Nat)) (i : Nat) : List (Nat × Nat) := prK (jnK n (qs.getD i (0, 0)).1 (qs.getD i (0, 0)).2 qs qs.length) (n - 1)
def rowA (t z m : Nat) (N : Int) (cs : List C) (v : V) (L' : List E) : Prop := ∃ lab, v = V.tup [A.agg [C.i N, .sl lab m], A.c (C.i 0)] ∧ find L' lab = some ⟨lab, .vec t z, cs⟩
section
variable {P : Program} {n0 nx nac : Nat} {f : FuncId} {vs vs' : List V} {Lc L : List E} {R : Rn} {K : V → List E → Nat → Prop}
theorem CallK.rowA {t z m : Nat} {N : Int} {cs : List C} (hfl : FlatC cs) (spec : Spec P f vs Lc nac (fun v L' _ => rowA t z m N cs v L')) (hok : callB P f = true)
    (hv : renVs R vs = some vs') (hvw : ∀ v ∈ vs, v.wf nac) (hL : roL R nac L Lc) (hLc : injB [] Lc = true)
    (hK : K (V.tup [A.agg [C.i N, .sl nx m], A.c (C.i 0)]) [⟨nx, .vec t z, cs⟩] (nx + 1)) : CallK P n0 f vs' L nx K := by
  refine CallK.mk' hok spec hv hvw hL hLc ?_
  rintro v L' nx' hw ⟨lab, rfl, hf⟩
  refine ⟨V.tup [A.agg [C.i N, .sl nx m], A.c (C.i 0)], [⟨nx, .vec t z, cs⟩], nx + 1, [(nx, some lab)], ⟨Nat.le_succ _, ?_, ?_, ⟨covE_some (renL_one _ _) (Nat.lt_succ_self nx) (hfl.wf _) hf (hfl.ren _), trivial⟩, rfl, ?_⟩, hK⟩
  · simp [V.ren, A.ren, C.ren, renL_one, C.i, seqO]
  · simp [V.chk, A.chk, C.chk, inLab_one, C.i]
  · simp only [List.all_cons, List.all_nil, Bool.and_true, inLab_one, Kd.isRo, Bool.not_false, Bool.true_and]
    exact hfl.chk _
end
set_option maxRecDepth 10000 in
set_option maxHeartbeats 8000000 in
theorem joined_spec (n : Nat) (qs : List (Nat × Nat)) (hk : Knd n qs) (i : Nat) (hi : i < qs.length) : Spec Tryd.prog 29 [kX n (castP qs), V.i (i : Nat)] [⟨0, .ro 2, cellC (castP qs)⟩] 1
    (fun v L' _ => rowA 59 2 (castP (jnQ n qs i)).length ((n - 1 : Nat) : Int) (cellC (castP (jnQ n qs i))) v L') := by
  have hpl := castP_len qs
  have hcl := cellC_len (castP qs)
  have hql := knd_len hk
  have hn := hk.rng
  have hpd := paired_spec n i (castP qs) (by omega)
  rw [pairE_ok hk hi] at hpd
  have huv := hk.ok _ (getD_mem hi)
  have hJ : jnQ n qs i = prK (jnK n (qs.getD i (0, 0)).1 (qs.getD i (0, 0)).2 qs qs.length) (n - 1) := rfl
  have hl0 := cellL0 (l := castP qs) (k := i) (z := (i : Nat)) rfl (by omega)
  have hl1 := cellL1 (l := castP qs) (k := i) (z := (i : Nat)) rfl (by omega)
  change (cellC _)[addO (mulS ((i : Nat) : Int).toNat 2) (mulS (Int.toNat 0) 1)]? = some (C.i ((castP qs).getD i cz).1) at hl0
  change (cellC _)[addO (mulS ((i : Nat) : Int).toNat 2) (mulS (Int.toNat 1) 1)]? = some (C.i ((castP qs).getD i cz).2) at hl1
  rw [castP_get hi] at hl0 hl1
  obtain ⟨p0, hp0⟩ : ∃ p0, p0 = qs.getD i (0, 0) := ⟨_, rfl⟩
  rw [← hp0] at huv hJ hl0 hl1
  obtain ⟨u, v⟩ := p0
  simp only at huv hJ hl0 hl1
  have hrep := repU (n - 1)
  have hn1 : ((n : Int) - 1).toNat = n - 1 := by omega
  refine Spec.of tok Tryd.func29 rfl rfl rfl fun n0 cx => vc_ok tok ?_
  repeat ((conv => whnf); first | (refine And.intro (by first | omega | exact Nat.le_of_ble_eq_true rfl | (dsimp only [inK]; omega) | (simp only [mulS_eq]; omega) | (simp only [mulS_eq, setL_length]; omega) | (simp only [setL_length]; omega) | (simp only [setL_length, List.length_map]; omega) | (exact ⟨by omega, by omega, by first | exact Nat.le_of_ble_eq_true rfl | (dsimp only; omega) | (simp only [setL_length]; omega) | (simp only [setL_length, List.length_map]; omega)⟩) | (exact ⟨by omega, by first | rfl | omega, by omega, Nat.le_of_ble_eq_true rfl, Nat.le_of_ble_eq_true rfl⟩) | (exact ⟨rfl, rfl, rfl, Nat.le_of_ble_eq_true rfl, by first | rfl | omega | exact Nat.le_of_ble_eq_true rfl | (dsimp only; omega) | (simp; done) | (simp; omega), by first | rfl | omega | exact Nat.le_of_ble_eq_true rfl | (dsimp only; omega) | (simp; done) | (simp; omega), by omega, Nat.le_of_ble_eq_true rfl⟩) | exact Eq.refl true) ?_) | with_reducible refine ld (hl0) ?_ | with_reducible refine ld (hl1) ?_ | refine Exists.intro _ (And.intro rfl ?_) | refine And.intro (And.intro rfl (chk_rowI _ _ _ _)) ?_ | refine br_t (by omega) ?_ | refine br_f (by omega) ?_ | refine bs_t (by omega) ?_ | refine bs_f (by omega) ?_ | refine fun (K' : K3) hK' => ?_ | (refine hK' _ _ _ ?_; clear hK' K') | refine draw_late 16 [3, 4] tok mixed (by decide +kernel) ?_ | refine draw_auto tok mixed (by kernel_rfl) ?_ | refine CallK.val (R := []) hpd (by kernel_rfl) rfl (by simp [V.wf, A.wf, C.wf, V.i]) ⟨roE_f (flat_c _) (l := 0) rfl (by omega) rfl (.inr rfl), trivial⟩ rfl rfl trivial ?_ | refine bs_bt (Eq.refl true) ?_ | refine bs_bf (Eq.refl false) ?_ | refine br_bt (Eq.refl true) ?_ | refine br_bf (Eq.refl false) ?_ | refine CallK.m ?_ | refine Two.l ?_ | refine And.intro (And.intro rfl rfl) ?_)
  refine Tri.loop (γ := Nat) (fun k => k ≤ qs.length) (fun k => [(2, V.c (.ptr 1 0)), (4, V.c (.ptr 2 0)), (9, V.c (.fn 67 [(4, 0), (3, 0)])), (10, V.c (.sl 7 (n - 1))), (40, V.c (.sl 0 (castP qs).length)), (41, V.i (castP qs).length), (42, V.i (k : Nat))])
    (fun k => [⟨7, .vec 75 1, (jnK n u v qs k).map C.u⟩, ⟨4, .own 3, [C.i (v : Nat)]⟩, ⟨3, .own 3, [C.i (u : Nat)]⟩, ⟨2, .own 24, [C.i 0, .nil]⟩, ⟨1, .own 24, [C.i n, .sl 0 (castP qs).length]⟩, ⟨0, .ro 2, cellC (castP qs)⟩]) 8 (fun k => qs.length - k) 0 (R0 := []) ?_ ?_ ?_
  · omega
  · skip
    have hrep' : repC ((n : Int) - 1).toNat [C.int .u64 0] = (jnK n u v qs 0).map C.u := by rw [hn1, hrep]; rfl
    refine ⟨?_, ?_, rfl, rfl, by first | exact Nat.le_of_ble_eq_true rfl | exact Nat.le_refl _ | omega⟩
    · repeat (first | exact trivial | (refine And.intro (covS_syn (by first | rfl | (first | exact congrArg (fun m => some (V.c (.sl 7 m))) hn1)) rfl (by first | exact trivial | exact Nat.le_of_ble_eq_true rfl | exact hy | (first | ((show ∀ p ∈ (_ : List (Nat × Nat)), p.1 < _); decide) | exact (fun p hp => nomatch hp)) | (show (_ : Nat) < _; omega))) ?_) | refine And.intro (covS_bool rfl rfl (by rfl)) ?_)
    · repeat (first | exact trivial | (refine And.intro (covE_id (Nat.le_of_ble_eq_true rfl) (by first | exact wf_ints _ _ | exact wf_bools _ _ | first | exact wf_us _ _ | exact wf_cells _ _ | (simp [C.wf]; done) | simp [C.wf]) rfl (by first | rfl | exact hrep')) ?_))
  · intro k hkl
    refine vc_ok tok ?_
    by_cases hlt : k < qs.length
    · have hld := cellT (l := castP qs) (k := k) rfl (by omega)
      change takeC (cellC (castP qs)) (mulS ((k : Nat) : Int).toNat 2) 2 = some [C.i ((castP qs).getD k cz).1, C.i ((castP qs).getD k cz).2] at hld
      rw [castP_get hlt] at hld
      have hsucc : jnK n u v qs (k + 1) = jn1 u v (jnK n u v qs k) (qs.getD k (0, 0)) := rfl
      have hpq := hk.ok _ (getD_mem hlt)
      have htl := jnK_len n u v qs k
      have htb := jnK_lt hk huv.1 huv.2 k hkl
      obtain ⟨p, hp⟩ : ∃ p, p = qs.getD k (0, 0) := ⟨_, rfl⟩
      obtain ⟨t, ht⟩ : ∃ t, t = jnK n u v qs k := ⟨_, rfl⟩
      rw [← hp] at hld hsucc hpq
      rw [← ht] at hsucc htl htb ⊢
      obtain ⟨a, b⟩ := p
      simp only at hld hpq
      have hlm : (t.map C.u).length = n - 1 := by rw [List.length_map, htl]
      have c1 := nam_spec u v a (by omega) (by omega)
      have c2 := nam_spec u v b (by omega) (by omega)
      have hA := nam_lt (a := a) huv.1 huv.2 (by omega)
      have hB := nam_lt (a := b) huv.1 huv.2 (by omega)
      simp only [jn1] at hsucc
      obtain ⟨x, hAe⟩ : ∃ x, x = nam u v a := ⟨_, rfl⟩
      obtain ⟨y, hBe⟩ : ∃ y, y = nam u v b := ⟨_, rfl⟩
      rw [← hAe] at c1 hA hsucc
      rw [← hBe] at c2 hB hsucc
      by_cases hab : x = y
      · rw [if_pos hab] at hsucc
        have hne : ¬ ((x : Int) ≠ (y : Nat)) := by omega
        repeat ((conv => whnf); first | (refine And.intro (by first | omega | exact Nat.le_of_ble_eq_true rfl | (dsimp only [inK]; omega) | (simp only [mulS_eq]; omega) | (simp only [mulS_eq, setL_length]; omega) | (simp only [setL_length]; omega) | (simp only [setL_length, List.length_map]; omega) | (exact ⟨by omega, by omega, by first | exact Nat.le_of_ble_eq_true rfl | (dsimp only; omega) | (simp only [setL_length]; omega) | (simp only [setL_length, List.length_map]; omega)⟩) | (exact ⟨by omega, by first | rfl | omega, by omega, Nat.le_of_ble_eq_true rfl, Nat.le_of_ble_eq_true rfl⟩) | (exact ⟨rfl, rfl, rfl, Nat.le_of_ble_eq_true rfl, by first | rfl | omega | exact Nat.le_of_ble_eq_true rfl | (dsimp only; omega) | (simp; done) | (simp; omega), by first | rfl | omega | exact Nat.le_of_ble_eq_true rfl | (dsimp only; omega) | (simp; done) | (simp; omega), by omega, Nat.le_of_ble_eq_true rfl⟩) | exact Eq.refl true) ?_) | with_reducible refine ld (hld) ?_ | refine Exists.intro _ (And.intro rfl ?_) | refine And.intro (And.intro rfl (chk_rowI _ _ _ _)) ?_ | refine br_t (by omega) ?_ | refine br_f (by omega) ?_ | refine bs_t (by omega) ?_ | refine bs_f (by omega) ?_ | refine fun (K' : K3) hK' => ?_ | (refine hK' _ _ _ ?_; clear hK' K') | refine draw_auto tok mixed (by kernel_rfl) ?_ | refine HD_mk (fun _ h => CallK.val (R := [(0, some 4), (1, some 3)]) c1 (by kernel_rfl) rfl (by simp [V.wf, A.wf, C.wf, V.i]) ⟨roE_f (flat_1 _) (l := 4) rfl (by omega) rfl (.inl rfl), roE_f (flat_1 _) (l := 3) rfl (by omega) rfl (.inl rfl), trivial⟩ rfl rfl trivial h) ?_ | refine HD_mk (fun _ h => CallK.val (R := [(0, some 4), (1, some 3)]) c2 (by kernel_rfl) rfl (by simp [V.wf, A.wf, C.wf, V.i]) ⟨roE_f (flat_1 _) (l := 4) rfl (by omega) rfl (.inl rfl), roE_f (flat_1 _) (l := 3) rfl (by omega) rfl (.inl rfl), trivial⟩ rfl rfl trivial h) ?_ | refine bs_f hne ?_ | refine br_f hne ?_ | refine bs_bt (Eq.refl true) ?_ | refine bs_bf (Eq.refl false) ?_ | refine br_bt (Eq.refl true) ?_ | refine br_bf (Eq.refl false) ?_ | refine CallK.m ?_ | refine Two.l ?_ | refine And.intro (And.intro rfl rfl) ?_)
        refine ⟨k + 1, [], by omega, by omega, ?_⟩
        rw [hsucc]
        refine ⟨?_, ?_, rfl, rfl, by first | exact Nat.le_of_ble_eq_true rfl | exact Nat.le_refl _ | omega⟩
        · repeat (first | exact trivial | (refine And.intro (covS_syn (by rfl) rfl (by first | exact trivial | exact Nat.le_of_ble_eq_true rfl | exact hy | (first | ((show ∀ p ∈ (_ : List (Nat × Nat)), p.1 < _); decide) | exact (fun p hp => nomatch hp)) | (show (_ : Nat) < _; omega))) ?_) | refine And.intro (covS_bool rfl rfl (by rfl)) ?_)
        · repeat (first | exact trivial | (refine And.intro (covE_id (Nat.le_of_ble_eq_true rfl) (by first | exact wf_ints _ _ | exact wf_bools _ _ | first | exact wf_us _ _ | exact wf_cells _ _ | (simp [C.wf]; done) | simp [C.wf]) rfl (by first | rfl | omega)) ?_))
      · rw [if_neg hab] at hsucc
        have hne : (x : Int) ≠ (y : Nat) := by omega
        have ha := getD_lt (by omega) htb x
        have hb := getD_lt (by omega) htb y
        have hl1 : (t.map C.u)[mulS ((x : Nat) : Int).toNat 1]? = some (C.u (t.getD x 0)) := uLz rfl (by omega)
        have hl2 : (t.map C.u)[mulS ((y : Nat) : Int).toNat 1]? = some (C.u (t.getD y 0)) := uLz rfl (by omega)
        have hw1 := with_spec (t.getD x 0) y ha (by omega)
        have hw2 := with_spec (t.getD y 0) x hb (by omega)
        have hfin : setL (setL (t.map C.u) (mulS ((x : Nat) : Int).toNat 1) [C.int .u64 ((t.getD x 0 ||| 2 ^ y : Nat) : Int)]) (mulS ((y : Nat) : Int).toNat 1) [C.int .u64 ((t.getD y 0 ||| 2 ^ x : Nat) : Int)] = (jnK n u v qs (k + 1)).map C.u := by
          rw [setU rfl rfl, setU rfl rfl, hsucc]
        repeat ((conv => whnf); first | (refine And.intro (by first | omega | exact Nat.le_of_ble_eq_true rfl | (dsimp only [inK]; omega) | (simp only [mulS_eq]; omega) | (simp only [mulS_eq, setL_length]; omega) | (simp only [setL_length]; omega) | (simp only [setL_length, List.length_map]; omega) | (exact ⟨by omega, by omega, by first | exact Nat.le_of_ble_eq_true rfl | (dsimp only; omega) | (simp only [setL_length]; omega) | (simp only [setL_length, List.length_map]; omega)⟩) | (exact ⟨by omega, by first | rfl | omega, by omega, Nat.le_of_ble_eq_true rfl, Nat.le_of_ble_eq_true rfl⟩) | (exact ⟨rfl, rfl, rfl, Nat.le_of_ble_eq_true rfl, by first | rfl | omega | exact Nat.le_of_ble_eq_true rfl | (dsimp only; omega) | (simp; done) | (simp; omega), by first | rfl | omega | exact Nat.le_of_ble_eq_true rfl | (dsimp only; omega) | (simp; done) | (simp; omega), by omega, Nat.le_of_ble_eq_true rfl⟩) | exact Eq.refl true) ?_) | with_reducible refine ld (hld) ?_ | with_reducible refine ld (hl1) ?_ | with_reducible refine ld (hl2) ?_ | refine Exists.intro _ (And.intro rfl ?_) | refine And.intro (And.intro rfl (chk_rowI _ _ _ _)) ?_ | refine br_t (by omega) ?_ | refine br_f (by omega) ?_ | refine bs_t (by omega) ?_ | refine bs_f (by omega) ?_ | refine fun (K' : K3) hK' => ?_ | (refine hK' _ _ _ ?_; clear hK' K') | refine draw_late 18 [7] tok mixed (by decide +kernel) ?_ | refine draw_late 20 [7] tok mixed (by decide +kernel) ?_ | refine draw_auto tok mixed (by kernel_rfl) ?_ | refine HD_mk (fun _ h => CallK.val (R := [(0, some 4), (1, some 3)]) c1 (by kernel_rfl) rfl (by simp [V.wf, A.wf, C.wf, V.i]) ⟨roE_f (flat_1 _) (l := 4) rfl (by omega) rfl (.inl rfl), roE_f (flat_1 _) (l := 3) rfl (by omega) rfl (.inl rfl), trivial⟩ rfl rfl trivial h) ?_ | refine HD_mk (fun _ h => CallK.val (R := [(0, some 4), (1, some 3)]) c2 (by kernel_rfl) rfl (by simp [V.wf, A.wf, C.wf, V.i]) ⟨roE_f (flat_1 _) (l := 4) rfl (by omega) rfl (.inl rfl), roE_f (flat_1 _) (l := 3) rfl (by omega) rfl (.inl rfl), trivial⟩ rfl rfl trivial h) ?_ | refine bs_t hne ?_ | refine br_t hne ?_ | refine HD_mk (fun _ h => CallK.val (R := []) hw1 (by kernel_rfl) rfl (by simp [V.wf, A.wf, C.wf, V.i]) trivial rfl rfl trivial h) ?_ | refine HD_mk (fun _ h => CallK.val (R := []) hw2 (by kernel_rfl) rfl (by simp [V.wf, A.wf, C.wf, V.i]) trivial rfl rfl trivial h) ?_ | refine bs_bt (Eq.refl true) ?_ | refine bs_bf (Eq.refl false) ?_ | refine br_bt (Eq.refl true) ?_ | refine br_bf (Eq.refl false) ?_ | refine CallK.m ?_ | refine Two.l ?_ | refine And.intro (And.intro rfl rfl) ?_)
        refine ⟨k + 1, [], by omega, by omega, ?_⟩
        refine ⟨?_, ?_, rfl, rfl, by first | exact Nat.le_of_ble_eq_true rfl | exact Nat.le_refl _ | omega⟩
        · repeat (first | exact trivial | (refine And.intro (covS_syn (by first | rfl | (refine congrArg some (congrArg V.i ?_); omega)) rfl (by first | exact trivial | exact Nat.le_of_ble_eq_true rfl | exact hy | (first | ((show ∀ p ∈ (_ : List (Nat × Nat)), p.1 < _); decide) | exact (fun p hp => nomatch hp)) | (show (_ : Nat) < _; omega))) ?_) | refine And.intro (covS_bool rfl rfl (by rfl)) ?_)
        · repeat (first | exact trivial | (refine And.intro (covE_id (Nat.le_of_ble_eq_true rfl) (by first | exact wf_ints _ _ | exact wf_bools _ _ | first | exact wf_us _ _ | exact wf_cells _ _ | (simp [C.wf]; done) | simp [C.wf]) rfl (by first | rfl | exact hfin)) ?_))
    · obtain rfl : k = qs.length := by omega
      have hJl := jnK_len n u v qs qs.length
      have hJb := jnK_lt hk huv.1 huv.2 qs.length (Nat.le_refl _)
      have hks := kinds_spec (jnK n u v qs qs.length) (n - 1) hJl (by omega) hJb
      rw [← hJ] at hks
      repeat ((conv => whnf); first | (refine And.intro (by first | omega | exact Nat.le_of_ble_eq_true rfl | (dsimp only [inK]; omega) | (simp only [mulS_eq]; omega) | (simp only [mulS_eq, setL_length]; omega) | (simp only [setL_length]; omega) | (simp only [setL_length, List.length_map]; omega) | (exact ⟨by omega, by omega, by first | exact Nat.le_of_ble_eq_true rfl | (dsimp only; omega) | (simp only [setL_length]; omega) | (simp only [setL_length, List.length_map]; omega)⟩) | (exact ⟨by omega, by first | rfl | omega, by omega, Nat.le_of_ble_eq_true rfl, Nat.le_of_ble_eq_true rfl⟩) | (exact ⟨rfl, rfl, rfl, Nat.le_of_ble_eq_true rfl, by first | rfl | omega | exact Nat.le_of_ble_eq_true rfl | (dsimp only; omega) | (simp; done) | (simp; omega), by first | rfl | omega | exact Nat.le_of_ble_eq_true rfl | (dsimp only; omega) | (simp; done) | (simp; omega), by omega, Nat.le_of_ble_eq_true rfl⟩) | exact Eq.refl true) ?_) | refine Exists.intro _ (And.intro rfl ?_) | refine And.intro (And.intro rfl (chk_rowI _ _ _ _)) ?_ | refine br_t (by omega) ?_ | refine br_f (by omega) ?_ | refine bs_t (by omega) ?_ | refine bs_f (by omega) ?_ | refine fun (K' : K3) hK' => ?_ | (refine hK' _ _ _ ?_; clear hK' K') | refine draw_auto tok mixed (by kernel_rfl) ?_ | refine CallK.optK (R := [(0, some 7)]) hks (by kernel_rfl) rfl (by simp [V.wf, A.wf, C.wf, V.i]) ⟨roE_f (flat_u _) (l := 7) rfl (by omega) rfl (.inl rfl), trivial⟩ rfl ?_ | refine And.intro (And.intro rfl (chk_rowC _ _ _ _)) ?_ | refine bs_bt (Eq.refl true) ?_ | refine bs_bf (Eq.refl false) ?_ | refine br_bt (Eq.refl true) ?_ | refine br_bf (Eq.refl false) ?_ | refine CallK.m ?_ | refine Two.l ?_ | refine And.intro (And.intro rfl rfl) ?_)
      exact rfl
end Go.Proofs.YtijnimgmpocmaaaDoor

/- Waste, plain: the joined kinds. -/
namespace Go.Proofs.YtijnimgmpocmaaaDoor
open Go.RowKit
set_option linter.unusedVariables false
set_option linter.unusedSimpArgs false
theorem jn1_bit {u v : Nat} {t : List Nat} {p : Nat × Nat} (hA : nam u v p.1 < t.length) (hB : nam u v p.2 < t.length) {i : Nat} (j : Nat) :
    ((jn1 u v t p).getD i 0).testBit j = true ↔ (t.getD i 0).testBit j = true ∨ (nam u v p.1 ≠ nam u v p.2 ∧ ((nam u v p.1 = i ∧ nam u v p.2 = j) ∨ (nam u v p.1 = j ∧ nam u v p.2 = i))) := by
  unfold jn1
  generalize nam u v p.1 = x at *
  generalize nam u v p.2 = y at *
  by_cases h : x = y
  · rw [if_pos h]; simp [h]
  · rw [if_neg h, getD_set, getD_set, List.length_set]
    by_cases h1 : y = i
    · subst h1
      rw [if_pos ⟨rfl, hB⟩, Nat.testBit_or, Bool.or_eq_true, Nat.testBit_two_pow, decide_eq_true_iff]
      constructor
      · rintro (h2 | h2)
        · exact .inl h2
        · exact .inr ⟨h, .inr ⟨h2, rfl⟩⟩
      · rintro (h2 | ⟨_, ⟨h3, h4⟩ | ⟨h3, _⟩⟩)
        · exact .inl h2
        · exact absurd h3 h
        · exact .inr h3
    · rw [if_neg (fun q => h1 q.1)]
      by_cases h2 : x = i
      · subst h2
        rw [if_pos ⟨rfl, hA⟩, Nat.testBit_or, Bool.or_eq_true, Nat.testBit_two_pow, decide_eq_true_iff]
        constructor
        · rintro (h3 | h3)
          · exact .inl h3
          · exact .inr ⟨h, .inl ⟨rfl, h3⟩⟩
        · rintro (h3 | ⟨_, ⟨_, h4⟩ | ⟨_, h4⟩⟩)
          · exact .inl h3
          · exact .inr h4
          · exact absurd h4 h1
      · rw [if_neg (fun q => h2 q.1)]
        constructor
        · exact .inl
        · rintro (h3 | ⟨_, ⟨h4, _⟩ | ⟨_, h4⟩⟩)
          · exact h3
          · exact absurd h4 h2
          · exact absurd h4 h1
theorem jnK_bit {n u v : Nat} {qs : List (Nat × Nat)} (hk : Knd n qs) (huv : u < v) (hv : v < n) (i j : Nat) : ∀ k, k ≤ qs.length →
    (((jnK n u v qs k).getD i 0).testBit j = true ↔ ∃ p ∈ qs.take k, nam u v p.1 ≠ nam u v p.2 ∧ ((nam u v p.1 = i ∧ nam u v p.2 = j) ∨ (nam u v p.1 = j ∧ nam u v p.2 = i)))
  | 0, _ => by
    have : ((List.replicate (n - 1) 0).getD i 0).testBit j = false := by
      rw [List.getD_eq_getElem?_getD, List.getElem?_replicate]; split <;> simp
    simp only [jnK, this, List.take_zero, List.not_mem_nil, false_and, exists_false, Bool.false_eq_true]
  | k + 1, hkk => by
    have hp := hk.ok _ (getD_mem (show k < qs.length by omega))
    have hl := jnK_len n u v qs k
    have ih := jnK_bit hk huv hv i j k (by omega)
    have h1 := nam_lt (a := (qs.getD k (0, 0)).1) huv hv (by omega)
    have h2 := nam_lt (a := (qs.getD k (0, 0)).2) huv hv (by omega)
    have e : qs[k]?.toList = [qs.getD k (0, 0)] := by rw [List.getElem?_eq_getElem (by omega), List.getD_eq_getElem?_getD, List.getElem?_eq_getElem (by omega)]; rfl
    show ((jn1 u v (jnK n u v qs k) (qs.getD k (0, 0))).getD i 0).testBit j = true ↔ _
    rw [jn1_bit (by omega) (by omega), ih, List.take_add_one, e]
    simp only [List.mem_append, List.mem_singleton]
    constructor
    · rintro (⟨p, hp, h⟩ | h)
      · exact ⟨p, .inl hp, h⟩
      · exact ⟨_, .inr rfl, h⟩
    · rintro ⟨p, hp | rfl, h⟩
      · exact .inl ⟨p, hp, h⟩
      · exact .inr h
theorem prI_nodup (s a k : Nat) : (prI s a k).Nodup := by
  unfold prI
  have h1 : (((bitsL s).take k).filter fun b => decide (a < b)).Nodup := ((bitsL_nodup s).sublist (List.take_sublist _ _)).filter _
  rw [List.nodup_iff_pairwise_ne, List.pairwise_map]
  exact (List.nodup_iff_pairwise_ne.1 h1).imp fun h e => h (congrArg Prod.snd e)
theorem prK_nodup (t : List Nat) : ∀ a, (prK t a).Nodup
  | 0 => by simp [prK]
  | a + 1 => by
    rw [prK_succ, List.nodup_append]
    refine ⟨prK_nodup t a, prI_nodup _ _ _, fun p hp q hq e => ?_⟩
    subst e
    have h1 := (mem_prK.1 hp).1
    have h2 := (mem_prI.1 hq).1
    omega
section
variable {n : Nat} {qs : List (Nat × Nat)} {i : Nat}
theorem jnQ_mem (hk : Knd n qs) (hi : i < qs.length) (p : Nat × Nat) : p ∈ jnQ n qs i ↔ p.1 < p.2 ∧ ∃ q ∈ qs, (nam (qs.getD i (0, 0)).1 (qs.getD i (0, 0)).2 q.1 = p.1 ∧ nam (qs.getD i (0, 0)).1 (qs.getD i (0, 0)).2 q.2 = p.2) ∨ (nam (qs.getD i (0, 0)).1 (qs.getD i (0, 0)).2 q.1 = p.2 ∧ nam (qs.getD i (0, 0)).1 (qs.getD i (0, 0)).2 q.2 = p.1) := by
  have huv := hk.ok _ (getD_mem hi)
  have hn := hk.rng
  unfold jnQ
  rw [mem_prK, mem_bitsL, jnK_bit hk huv.1 huv.2 _ _ _ (Nat.le_refl _), List.take_length]
  constructor
  · rintro ⟨_, h2, _, q, hq, _, h⟩
    exact ⟨h2, q, hq, h⟩
  · rintro ⟨h2, q, hq, h⟩
    have hp := hk.ok _ hq
    have h3 := nam_lt (a := q.1) huv.1 huv.2 (by omega)
    have h4 := nam_lt (a := q.2) huv.1 huv.2 (by omega)
    exact ⟨by omega, h2, by omega, q, hq, by omega, h⟩
theorem jnQ_knd (hk : Knd n qs) (hi : i < qs.length) : Knd (n - 1) (jnQ n qs i) := by
  have huv := hk.ok _ (getD_mem hi)
  have hn := hk.rng
  refine ⟨by omega, fun p hp => ?_, prK_nodup _ _⟩
  obtain ⟨h1, q, hq, h⟩ := (jnQ_mem hk hi p).1 hp
  have hp := hk.ok _ hq
  have h3 := nam_lt (a := q.1) huv.1 huv.2 (by omega)
  have h4 := nam_lt (a := q.2) huv.1 huv.2 (by omega)
  omega
theorem jnQ_cl (hk : Knd n qs) (hi : i < qs.length) {a b : Nat} (hab : a < b) : clP (jnQ n qs i) a b = joinP (cutP (clP qs) (qs.getD i (0, 0)).1 (qs.getD i (0, 0)).2) n (qs.getD i (0, 0)).1 (qs.getD i (0, 0)).2 a b := by
  have huv := hk.ok _ (getD_mem hi)
  rw [Bool.eq_iff_iff, clP_iff, jnQ_mem hk hi, joinP_iff]
  constructor
  · rintro ⟨_, q, hq, h⟩
    have hp := hk.ok _ hq
    refine ⟨q.1, q.2, hp.1, hp.2, ?_, h⟩
    unfold cutP
    rw [Bool.and_eq_true, clP_iff, Bool.not_eq_true', Bool.and_eq_false_iff, decide_eq_false_iff_not, decide_eq_false_iff_not]
    refine ⟨hq, ?_⟩
    by_cases h1 : q.1 = (qs.getD i (0, 0)).1
    · right; intro h2
      rw [h1, h2] at h
      have e1 : nam (qs.getD i (0, 0)).1 (qs.getD i (0, 0)).2 (qs.getD i (0, 0)).1 = (qs.getD i (0, 0)).1 := by unfold nam; rw [if_neg (by omega), if_neg (by omega)]
      have e2 : nam (qs.getD i (0, 0)).1 (qs.getD i (0, 0)).2 (qs.getD i (0, 0)).2 = (qs.getD i (0, 0)).1 := by unfold nam; rw [if_pos rfl]
      rw [e1, e2] at h
      simp only at h
      omega
    · exact .inl h1
  · rintro ⟨x, y, h1, h2, h3, h4⟩
    unfold cutP at h3
    rw [Bool.and_eq_true, clP_iff] at h3
    exact ⟨hab, (x, y), h3.1, h4⟩
end
end Go.Proofs.YtijnimgmpocmaaaDoor

/- Waste, plain: what the top law says of counts and loadings. -/
namespace Go.Proofs.YtijnimgmpocmaaaDoor
open Go.RowKit
set_option linter.unusedVariables false
set_option linter.unusedSimpArgs false
section
variable {n : Nat} {qs : List (Nat × Nat)} {i : Nat}
theorem jnQ_sym (hk : Knd n qs) (hi : i < qs.length) : symC (clP (jnQ n qs i)) = symC (joinP (cutP (clP qs) (qs.getD i (0, 0)).1 (qs.getD i (0, 0)).2) n (qs.getD i (0, 0)).1 (qs.getD i (0, 0)).2) := by
  funext a b
  unfold symC
  split
  · exact jnQ_cl hk hi (by assumption)
  · split
    · exact jnQ_cl hk hi (by assumption)
    · rfl
theorem pv_jnQ (hk : Knd n qs) (hi : i < qs.length) (x : Int) : pv (clP qs) n x = pv (clP (qs.eraseIdx i)) n x - pv (clP (jnQ n qs i)) (n - 1) x := by
  have huv := hk.ok _ (getD_mem hi)
  have hs := jnQ_sym hk hi
  obtain ⟨m, rfl⟩ : ∃ m, n = m + 1 := ⟨n - 1, by omega⟩
  rw [clP_erase hk hi, Nat.add_sub_cancel, pv_pair (clP qs) huv.1 (by omega) (clP_iff.2 (getD_mem hi))]
  have : pv (clP (jnQ (m + 1) qs i)) m x = pv (joinP (cutP (clP qs) (qs.getD i (0, 0)).1 (qs.getD i (0, 0)).2) (m + 1) (qs.getD i (0, 0)).1 (qs.getD i (0, 0)).2) m x := by
    unfold pv; rw [hs]
  rw [this]
theorem cnt_jnQ (hk : Knd n qs) (hi : i < qs.length) (x : Int) : cntO n qs x = cntO n (qs.eraseIdx i) x - cntO (n - 1) (jnQ n qs i) x := by
  rw [cnt_pv hk, cnt_pv (hk.erase i), cnt_pv (jnQ_knd hk hi)]
  exact pv_jnQ hk hi x
theorem ldn_jnQ (hk : Knd n qs) (hi : i < qs.length) : ldn (clP qs) n = ldn (clP (qs.eraseIdx i)) n + ldn (clP (jnQ n qs i)) (n - 1) := by
  have h := pv_jnQ hk hi (-1)
  have huv := hk.ok _ (getD_mem hi)
  obtain ⟨m, rfl⟩ : ∃ m, n = m + 1 := ⟨n - 1, by omega⟩
  rw [Nat.add_sub_cancel] at h ⊢
  unfold ldn
  rw [h, sg_succ]
  grind
theorem cl_nil (h : qs.length = 0) : ∀ i j, i < j → j < n → clP qs i j = false := fun i j _ _ => by
  have : qs = [] := List.length_eq_zero_iff.1 h
  subst this; rfl
theorem cnt_nil (hk : Knd n qs) (h : qs.length = 0) (x : Nat) : cntO n qs x = ((x ^ n : Nat) : Int) := by
  rw [cnt_pv hk, pv_none (cl_nil h)]; simp
theorem ldn_nilQ (h : qs.length = 0) : ldn (clP qs) n = 1 := ldn_none (cl_nil h)
theorem cnt_few (hk : Knd n qs) (x : Nat) : cntO n qs x > 0 ↔ (x : Int) ≥ fewI (tabS n qs) n := by
  obtain ⟨k, _, h2, h3, h4⟩ := fewI_least hk
  rw [h2, cnt_pv hk]
  have := poly_iff (n := x) h3 h4
  unfold pv
  constructor
  · intro h; have := this.1 h; omega
  · intro h; exact this.2 (by omega)
theorem ldn_abs (hk : Knd n qs) : ldn (clP qs) n = if -(cntO n qs (-1)) > cntO n qs (-1) then -(cntO n qs (-1)) else cntO n qs (-1) := by
  have h1 := ldn_pos n (clP qs)
  rw [cnt_pv hk]
  unfold ldn sg at *
  split at h1 <;> split <;> simp_all <;> omega
theorem cnt_bd (hk : Knd n qs) {x : Int} (hx : -20 ≤ x ∧ x ≤ 20) : -100000000000000000 ≤ cntO n qs x ∧ cntO n qs x ≤ 100000000000000000 := by
  have hl := tabS_len n qs
  have := (hornB_of (tabS n qs) (by rw [hl]; exact hk.rng.2) hx).hh 0 (by omega)
  rw [hl] at this
  exact this
theorem ldn_bd (hk : Knd n qs) : 1 ≤ ldn (clP qs) n ∧ ldn (clP qs) n ≤ 545835 := by
  have h8 := pow_8 hk.rng.2
  have h0 := Nat.two_pow_pos n
  have h1 : LD (tabS n qs) (2 ^ n - 1) = ldn (clP qs) n := LD_ldn hk.rng.2 fun a b => tabS_cl hk a b
  have h2 := LD_bd (tabS n qs) _ (2 ^ n - 1) (Nat.lt_succ_self _) (by omega)
  have h3 := fubS_pos (2 ^ n - 1) (by omega)
  have h4 := ldn_pos n (clP qs)
  rw [h1] at h2
  omega
theorem Loadings_ld (hk : Knd n qs) : Spec Tryd.prog 26 [kW n (castP qs)] [⟨0, .ro 2, cellC (castP qs)⟩] 1 (Is (V.tup [A.c (C.i (ldn (clP qs) n)), A.c (C.i 0)])) := by
  have h1 : LD (tabS n qs) (2 ^ n - 1) = ldn (clP qs) n := LD_ldn hk.rng.2 fun a b => tabS_cl hk a b
  rw [← h1]; exact Loadings_spec n qs hk
theorem getD_not {bs : List Bool} {k : Nat} (h : k < bs.length) : (bs.map not).getD k false = !bs.getD k false := by
  simp [List.getD_eq_getElem?_getD, h]
end
end Go.Proofs.YtijnimgmpocmaaaDoor

/- Waste: booleans that come in. -/
namespace Go.Proofs.YtijnimgmpocmaaaDoor
open Go.RowKit
set_option linter.unusedVariables false
set_option linter.unusedSimpArgs false
open Go.ChangeShapes Go.WideShapes Go.ChangeAt Go.RowKit Go.Deep Go.Joins
def BoolsAt (W : World) (ao : Option Addr) (l : List Bool) : Prop := RoAt W ao (l.map Value.bool) ∧ l.length < 9223372036854775808
section
variable {H : Type} {enc : TypeId × Value → H} {W : World} {sp : Nat → Bool}
set_option maxRecDepth 10000 in
theorem open_bools {n : Nat} {v : Value} {x : DataW H × List MemPlace} (h : DataW.trod enc Tryd.prog W 0 sp true n 32 [v] = some x) :
    ∃ (ao : Option Addr) (c : Nat) (l : List Bool), v = .slice ao l.length c ∧ BoolsAt W ao l := by
  rcases open_slice1 Tryd.underlying32 (by kernel_rfl) h with ⟨hcs, _⟩ | ⟨a, len, cap, m, f, V, D, Pl, hcs, _, hl, hmax, hm, _, hx⟩
  · cases hcs
    exact ⟨none, 0, [], rfl, fun hne => absurd rfl hne, by simp⟩
  · cases hcs
    have hlm : len ≤ m := by rw [hm]; split <;> omega
    have hlen : len < 9223372036854775808 := by unfold maxLen at hmax; omega
    obtain ⟨b, hb⟩ := choose_lt (α := Bool) (n := len) (p := fun i b => V i = .bool b) (fun i hi => by
      obtain ⟨b, hb, _⟩ := DataW.trod_bool Tryd.underlying4 (hx i (by omega)).2
      exact ⟨b, by simpa using hb⟩)
    refine ⟨some a, cap, (List.range len).map b, by simp, ro_at (fun i hi => ?_), by simpa using hlen⟩
    have hi' : i < len := by simpa using hi
    rw [(hx i (by omega)).1, hb i hi']
    simp [List.getD_eq_getElem?_getD, hi']
set_option maxRecDepth 100000 in
theorem open_boolsv {v : Value} {d : DataW H} {p : List MemPlace} {r : Reach} {b0 : Nat} (hv : Value.okWide Tryd.prog W r b0 32 v) (h : DataW.Trod enc Tryd.prog W 0 sp true 32 v d p) :
    ∃ (ao : Option Addr) (c : Nat) (l : List Bool), v = .slice ao l.length c ∧ BoolsAt W ao l := by
  obtain ⟨fuel, hf⟩ := h
  obtain ⟨ao, n, cp, rfl⟩ := okWide_slice Tryd.underlying32 hv
  simp only [Value.cells] at hf
  exact open_bools hf
end
theorem ent_bools {W : World} {ρ : Env} {l : List Bool} {k nx : Nat} {ao : Option Addr} (h : BoolsAt W ao l) (hk : k < nx) (hr : (ρ k).1 = ao) : (∃ z, (Kd.ro 0) = .ro z ∧ (z = 0 ∨ (l.map C.bool).length ≤ (ρ k).2 * z)) ∧ k < nx ∧ (∀ c ∈ l.map C.bool, c.wf nx) ∧ RoAt W (ρ k).1 ((l.map C.bool).map (C.den ρ)) := by
  refine ⟨⟨0, rfl, .inl rfl⟩, hk, wf_bools _ _, ?_⟩
  rw [List.map_map, hr]; exact h.1
theorem hp_kib {W : World} {l : List Int} {bl : List Bool} {ps : List Cell} {ao bo co : Option Addr} {c d f : Nat} (h : CellsAt W ao c ps) (h2 : IntsAt W bo l) (h3 : BoolsAt W co bl) (hF : Fct W.heap.size W) : Hp W.heap.size (envL [(ao, c), (bo, d), (co, f)]) W [⟨0, .ro 2, cellC ps⟩, ⟨1, .ro 0, l.map C.i⟩, ⟨2, .ro 0, bl.map C.bool⟩] 3 := by
  refine Hp.rosz (fun e he => ?_) rfl hF
  simp only [List.mem_cons, List.not_mem_nil, or_false] at he
  rcases he with rfl | rfl | rfl
  · exact ent_cells h (by show 0 < 3; omega) rfl
  · exact ent_ints h2 (by show 1 < 3; omega) rfl
  · exact ent_bools h3 (by show 2 < 3; omega) rfl
end Go.Proofs.YtijnimgmpocmaaaDoor

/- Waste: what the laws share: Wide, Awake. -/
namespace Go.Proofs.YtijnimgmpocmaaaDoor
open Go.RowKit
set_option linter.unusedVariables false
set_option linter.unusedSimpArgs false
theorem wide_spec (N : Int) (n : Nat) (hn : n < 9223372036854775808) : Spec Tryd.prog 14 [V.agg [C.i N, C.sl 0 n]] [] 1 (Is (V.c (.bool (decide ((n : Int) > 60))))) := by
  refine Spec.of tok Tryd.func14 rfl rfl rfl fun n0 cx => vc_ok tok ?_
  repeat ((conv => whnf); first | (refine And.intro (by first | omega | exact Nat.le_of_ble_eq_true rfl | (dsimp only [inK]; omega) | (simp only [mulS_eq]; omega) | (simp only [mulS_eq, setL_length]; omega) | (simp only [setL_length]; omega) | (simp only [setL_length, List.length_map]; omega) | (exact ⟨by omega, by omega, by first | exact Nat.le_of_ble_eq_true rfl | (dsimp only; omega) | (simp only [setL_length]; omega) | (simp only [setL_length, List.length_map]; omega)⟩) | (exact ⟨by omega, by first | rfl | omega, by omega, Nat.le_of_ble_eq_true rfl, Nat.le_of_ble_eq_true rfl⟩) | (exact ⟨rfl, rfl, rfl, Nat.le_of_ble_eq_true rfl, by first | rfl | omega | exact Nat.le_of_ble_eq_true rfl | (dsimp only; omega) | (simp; done) | (simp; omega), by first | rfl | omega | exact Nat.le_of_ble_eq_true rfl | (dsimp only; omega) | (simp; done) | (simp; omega), by omega, Nat.le_of_ble_eq_true rfl⟩) | exact Eq.refl true) ?_) | refine Exists.intro _ (And.intro rfl ?_) | refine And.intro (And.intro rfl (chk_rowI _ _ _ _)) ?_ | refine br_t (by omega) ?_ | refine br_f (by omega) ?_ | refine bs_t (by omega) ?_ | refine bs_f (by omega) ?_ | refine fun (K' : K3) hK' => ?_ | (refine hK' _ _ _ ?_; clear hK' K') | refine draw_auto tok mixed (by kernel_rfl) ?_ | refine bs_bt (Eq.refl true) ?_ | refine bs_bf (Eq.refl false) ?_ | refine br_bt (Eq.refl true) ?_ | refine br_bf (Eq.refl false) ?_ | refine CallK.m ?_ | refine Two.l ?_ | refine And.intro (And.intro rfl rfl) ?_)
  intro ρ; rfl
theorem three_knd : Knd 3 [(0, 1), (1, 2), (0, 2)] := ⟨by omega, fun p hp => by simp only [List.mem_cons, List.not_mem_nil, or_false] at hp; rcases hp with rfl | rfl | rfl <;> simp, by decide⟩
theorem three_cnt : cntO 3 [(0, 1), (1, 2), (0, 2)] 3 = 6 := by decide +kernel
set_option maxRecDepth 10000 in
theorem awake_spec : Spec Tryd.prog 16 [] [] 0 (Is (V.c (.bool true))) := by
  have hc := count_spec 3 3 [(0, 1), (1, 2), (0, 2)] three_knd
  rw [if_pos (by omega), three_cnt] at hc
  have hc : Spec Tryd.prog 25 [V.agg [C.i 3, C.sl 0 3], V.i 3] [⟨0, .ro 2, [C.i 0, C.i 1, C.i 1, C.i 2, C.i 0, C.i 2]⟩] 1 (Is (V.tup [A.c (C.i 6), A.c (C.i 0)])) := hc
  refine Spec.of tok Tryd.func16 rfl rfl rfl fun n0 cx => vc_ok tok ?_
  repeat ((conv => whnf); first | (refine And.intro (by first | omega | exact Nat.le_of_ble_eq_true rfl | (dsimp only [inK]; omega) | (simp only [mulS_eq]; omega) | (simp only [mulS_eq, setL_length]; omega) | (simp only [setL_length]; omega) | (simp only [setL_length, List.length_map]; omega) | (exact ⟨by omega, by omega, by first | exact Nat.le_of_ble_eq_true rfl | (dsimp only; omega) | (simp only [setL_length]; omega) | (simp only [setL_length, List.length_map]; omega)⟩) | (exact ⟨by omega, by first | rfl | omega, by omega, Nat.le_of_ble_eq_true rfl, Nat.le_of_ble_eq_true rfl⟩) | (exact ⟨rfl, rfl, rfl, Nat.le_of_ble_eq_true rfl, by first | rfl | omega | exact Nat.le_of_ble_eq_true rfl | (dsimp only; omega) | (simp; done) | (simp; omega), by first | rfl | omega | exact Nat.le_of_ble_eq_true rfl | (dsimp only; omega) | (simp; done) | (simp; omega), by omega, Nat.le_of_ble_eq_true rfl⟩) | exact Eq.refl true) ?_) | refine Exists.intro _ (And.intro rfl ?_) | refine And.intro (And.intro rfl (chk_rowI _ _ _ _)) ?_ | refine br_t (by omega) ?_ | refine br_f (by omega) ?_ | refine bs_t (by omega) ?_ | refine bs_f (by omega) ?_ | refine fun (K' : K3) hK' => ?_ | (refine hK' _ _ _ ?_; clear hK' K') | refine draw_auto tok mixed (by kernel_rfl) ?_ | refine CallK.val (R := [(0, some 0)]) hc (by kernel_rfl) rfl (by simp [V.wf, A.wf, C.wf, V.i]) ⟨roE_f (k := .vec 59 2) (flat_c [(0, 1), (1, 2), (0, 2)]) (l := 0) rfl (by omega) rfl (.inr rfl), trivial⟩ rfl rfl (by simp [V.wf, A.wf, C.wf]) ?_ | refine bs_bt (Eq.refl true) ?_ | refine bs_bf (Eq.refl false) ?_ | refine br_bt (Eq.refl true) ?_ | refine br_bf (Eq.refl false) ?_ | refine CallK.m ?_ | refine Two.l ?_ | refine And.intro (And.intro rfl rfl) ?_)
  intro ρ; rfl
section
variable {n0 nx : Nat} {L : List E} {K : V → List E → Nat → Prop}
theorem awake_k (hK : K (V.c (.bool true)) [] nx) : CallK Tryd.prog n0 16 [] L nx K :=
  CallK.val (R := []) awake_spec (by kernel_rfl) rfl (by simp) trivial rfl rfl trivial hK
theorem wide_k {N : Int} {n a : Nat} (hn : n < 9223372036854775808) (hK : K (V.c (.bool (decide ((n : Int) > 60)))) [] nx) : CallK Tryd.prog n0 14 [V.agg [C.i N, C.sl a n]] L nx K :=
  CallK.val (R := [(0, some a)]) (wide_spec N n hn) (by kernel_rfl) rfl (by simp [V.wf, A.wf, C.wf]) trivial rfl rfl trivial hK
end
end Go.Proofs.YtijnimgmpocmaaaDoor

/- Waste: the law of the fillings. -/
namespace Go.Proofs.YtijnimgmpocmaaaDoor
open Go.RowKit
set_option linter.unusedVariables false
set_option linter.unusedSimpArgs false
theorem long_spec (m : Nat) (hm : m < 9223372036854775808) : Spec Tryd.prog 15 [V.c (.sl 0 m)] [] 1 (Is (V.c (.bool (decide ((m : Int) > 60))))) := by
  refine Spec.of tok Tryd.func15 rfl rfl rfl fun n0 cx => vc_ok tok ?_
  repeat ((conv => whnf); first | (refine And.intro (by first | omega | exact Nat.le_of_ble_eq_true rfl | (dsimp only [inK]; omega) | (simp only [mulS_eq]; omega) | (simp only [mulS_eq, setL_length]; omega) | (simp only [setL_length]; omega) | (simp only [setL_length, List.length_map]; omega) | (exact ⟨by omega, by omega, by first | exact Nat.le_of_ble_eq_true rfl | (dsimp only; omega) | (simp only [setL_length]; omega) | (simp only [setL_length, List.length_map]; omega)⟩) | (exact ⟨by omega, by first | rfl | omega, by omega, Nat.le_of_ble_eq_true rfl, Nat.le_of_ble_eq_true rfl⟩) | (exact ⟨rfl, rfl, rfl, Nat.le_of_ble_eq_true rfl, by first | rfl | omega | exact Nat.le_of_ble_eq_true rfl | (dsimp only; omega) | (simp; done) | (simp; omega), by first | rfl | omega | exact Nat.le_of_ble_eq_true rfl | (dsimp only; omega) | (simp; done) | (simp; omega), by omega, Nat.le_of_ble_eq_true rfl⟩) | exact Eq.refl true) ?_) | refine Exists.intro _ (And.intro rfl ?_) | refine And.intro (And.intro rfl (chk_rowI _ _ _ _)) ?_ | refine br_t (by omega) ?_ | refine br_f (by omega) ?_ | refine bs_t (by omega) ?_ | refine bs_f (by omega) ?_ | refine fun (K' : K3) hK' => ?_ | (refine hK' _ _ _ ?_; clear hK' K') | refine draw_auto tok mixed (by kernel_rfl) ?_ | refine bs_bt (Eq.refl true) ?_ | refine bs_bf (Eq.refl false) ?_ | refine br_bt (Eq.refl true) ?_ | refine br_bf (Eq.refl false) ?_ | refine CallK.m ?_ | refine Two.l ?_ | refine And.intro (And.intro rfl rfl) ?_)
  intro ρ; rfl
section
variable {n0 nx : Nat} {L : List E} {K : V → List E → Nat → Prop}
theorem long_k {m a : Nat} (hm : m < 9223372036854775808) (hK : K (V.c (.bool (decide ((m : Int) > 60)))) [] nx) : CallK Tryd.prog n0 15 [V.c (.sl a m)] L nx K :=
  CallK.val (R := [(0, some a)]) (long_spec m hm) (by kernel_rfl) rfl (by simp [V.wf, A.wf, C.wf]) trivial rfl rfl trivial hK
end
section
variable (N : Int) (ps : List Cell) (l : List Int)
end
section
variable (n : Nat) (qs : List (Nat × Nat)) (l : List Int) (hk : Knd n qs) (h2 : ¬ (l.length : Int) > 60)
include hk h2
end
end Go.Proofs.YtijnimgmpocmaaaDoor

/- Waste: light. -/
namespace Go.Proofs.YtijnimgmpocmaaaDoor
open Go.RowKit
set_option linter.unusedVariables false
set_option linter.unusedSimpArgs false
theorem roE_fe {R : Rn} {nx lab l z : Nat} {k : Kd} {L : List E} {cs cs' : List C} (hfl : FlatC cs) (hr : renL R lab = some l) (h1 : lab < nx) (h3 : find L l = some ⟨l, k, cs'⟩) (hz : z = 0 ∨ k.z = some z) (he : cs' = cs) : roE R nx L ⟨lab, .ro z, cs⟩ := by
  subst he; exact roE_f hfl hr h1 h3 hz
end Go.Proofs.YtijnimgmpocmaaaDoor

/- Waste: the top law. -/
namespace Go.Proofs.YtijnimgmpocmaaaDoor
open Go.RowKit
set_option linter.unusedVariables false
set_option linter.unusedSimpArgs false
section
variable (N x : Int) (ps : List Cell) (l : List Int) (bl : List Bool)
theorem top_long (hps : ps.length < 9223372036854775808) (hll : l.length < 9223372036854775808) (hbl : bl.length < 9223372036854775808) (h : (ps.length : Int) > 60 ∨ (l.length : Int) > 60 ∨ (bl.length : Int) > 60) :
    Spec Tryd.prog 4 [kV N ps, V.c (.sl 1 l.length), V.c (.sl 2 bl.length), V.c (.int .u8 x)] [⟨0, .ro 2, cellC ps⟩, ⟨1, .ro 0, l.map C.i⟩, ⟨2, .ro 0, bl.map C.bool⟩] 3 (Is (V.c (.bool true))) := by
  refine Spec.of tok Tryd.func4 rfl rfl rfl fun n0 cx => vc_ok tok ?_
  by_cases h1 : (ps.length : Int) > 60
  · repeat ((conv => whnf); first | refine Exists.intro _ (And.intro rfl ?_) | refine bs_t (by omega) ?_ | refine fun (K' : K3) hK' => ?_ | (refine hK' _ _ _ ?_; clear hK' K') | refine wide_k hps ?_ | refine awake_k ?_ | refine CallK.m ?_)
    intro ρ; rfl
  · by_cases h2 : (l.length : Int) > 60
    · repeat ((conv => whnf); first | refine Exists.intro _ (And.intro rfl ?_) | refine bs_t (by omega) ?_ | refine bs_f (by omega) ?_ | refine fun (K' : K3) hK' => ?_ | (refine hK' _ _ _ ?_; clear hK' K') | refine wide_k hps ?_ | refine long_k hll ?_ | refine awake_k ?_ | refine CallK.m ?_)
      intro ρ; rfl
    · have h3 : (bl.length : Int) > 60 := by omega
      repeat ((conv => whnf); first | refine Exists.intro _ (And.intro rfl ?_) | refine bs_t (by omega) ?_ | refine bs_f (by omega) ?_ | refine fun (K' : K3) hK' => ?_ | (refine hK' _ _ _ ?_; clear hK' K') | refine wide_k hps ?_ | refine long_k hll ?_ | refine awake_k ?_ | refine CallK.m ?_)
      intro ρ; rfl
set_option maxRecDepth 10000 in
theorem top_no (h1 : ¬ (ps.length : Int) > 60) (h2 : ¬ (l.length : Int) > 60) (h3 : ¬ (bl.length : Int) > 60) (hv : okK' N ps = false) :
    Spec Tryd.prog 4 [kV N ps, V.c (.sl 1 l.length), V.c (.sl 2 bl.length), V.c (.int .u8 x)] [⟨0, .ro 2, cellC ps⟩, ⟨1, .ro 0, l.map C.i⟩, ⟨2, .ro 0, bl.map C.bool⟩] 3 (Is (V.c (.bool true))) := by
  have k6 := rvalid_spec N ps (by omega)
  rw [hv] at k6
  refine Spec.of tok Tryd.func4 rfl rfl rfl fun n0 cx => vc_ok tok ?_
  repeat ((conv => whnf); first | refine Exists.intro _ (And.intro rfl ?_) | refine bs_f (by omega) ?_ | refine fun (K' : K3) hK' => ?_ | (refine hK' _ _ _ ?_; clear hK' K') | refine wide_k (by omega) ?_ | refine long_k (by omega) ?_ | refine CallK.val (R := []) k6 (by kernel_rfl) rfl (by simp [V.wf, A.wf, C.wf]) ⟨roE_f (flat_c _) (l := 0) rfl (by omega) rfl (.inr rfl), trivial⟩ rfl rfl trivial ?_ | refine awake_k ?_ | refine br_bt (Eq.refl true) ?_ | refine CallK.m ?_)
  intro ρ; rfl
end
section
variable (n : Nat) (x : Int) (qs : List (Nat × Nat)) (l : List Int) (bl : List Bool) (hk : Knd n qs) (hx : 0 ≤ x ∧ x ≤ 255) (h2 : ¬ (l.length : Int) > 60) (h3 : ¬ (bl.length : Int) > 60)
include hk hx h2 h3
set_option maxRecDepth 20000 in
set_option maxHeartbeats 64000000 in
theorem top_yes : Spec Tryd.prog 4 [kV n (castP qs), V.c (.sl 1 l.length), V.c (.sl 2 bl.length), V.c (.int .u8 x)] [⟨0, .ro 2, cellC (castP qs)⟩, ⟨1, .ro 0, l.map C.i⟩, ⟨2, .ro 0, bl.map C.bool⟩] 3 (Is (V.c (.bool true))) := by
  have hpl := castP_len qs
  have hql := knd_len hk
  have hrng := hk.rng
  have h1 : ¬ ((castP qs).length : Int) > 60 := by omega
  have k6 := rvalid_spec n (castP qs) (by omega)
  rw [knd_ok hk] at k6
  obtain ⟨s, hs⟩ : ∃ s : Nat, x % 21 = s := ⟨(x % 21).toNat, by omega⟩
  have hs20 : s ≤ 20 := by omega
  have htl := tabS_len n qs
  have hB : ∀ z : Int, -20 ≤ z ∧ z ≤ 20 → HornB (pol n qs) z (n + 1) := fun z hz => by
    have := hornB_of (tabS n qs) (by rw [htl]; exact hrng.2) hz
    rw [htl] at this; exact this
  have hp1 := poly_spec n qs hk
  have hc1 := count_spec n (x % 21) qs hk
  rw [if_pos (by omega)] at hc1
  have hc2 := count_spec n (-1) qs hk
  rw [if_pos (by omega)] at hc2
  have hld := Loadings_ld hk
  have ha1 : Spec Tryd.prog 27 [V.c (.sl 0 (n + 1)), V.i (x % 21)] [⟨0, .ro 0, (fnL (pol n qs) (n + 1)).map C.i⟩] 1 (Is (V.i (cntO n qs (x % 21)))) := rAt_spec (pol n qs) (x % 21) (n + 1) (by omega) (hB _ (by omega))
  have ha2 : Spec Tryd.prog 27 [V.c (.sl 0 (n + 1)), V.i (-1)] [⟨0, .ro 0, (fnL (pol n qs) (n + 1)).map C.i⟩] 1 (Is (V.i (cntO n qs (-1)))) := rAt_spec (pol n qs) (-1) (n + 1) (by omega) (hB _ (by omega))
  have hab := ldn_abs hk
  have hcb2 := cnt_bd hk (x := -1) (by omega)
  have hlb1 := ldn_bd hk
  have hfw0 := cnt_few hk s
  rw [← hs] at hfw0
  have hfe := Fewest_spec n qs hk
  have hPA : ∀ i, i < qs.length → cntO n qs (x % 21) = cntO n (qs.eraseIdx i) (x % 21) - cntO (n - 1) (jnQ n qs i) (x % 21) := fun i hi => cnt_jnQ hk hi _
  have hPB : ∀ i, i < qs.length → ldn (clP qs) n = ldn (clP (qs.eraseIdx i)) n + ldn (clP (jnQ n qs i)) (n - 1) := fun i hi => ldn_jnQ hk hi
  have hPC : qs.length = 0 → cntO n qs (x % 21) = ((s ^ n : Nat) : Int) := fun h => by rw [hs]; exact cnt_nil hk h s
  have hPD : qs.length = 0 → ldn (clP qs) n = 1 := fun h => ldn_nilQ h
  obtain ⟨c, hcc⟩ : ∃ c, c = cntO n qs (x % 21) := ⟨_, rfl⟩
  obtain ⟨d, hdd⟩ : ∃ d, d = cntO n qs (-1) := ⟨_, rfl⟩
  obtain ⟨lg, hll⟩ : ∃ lg, lg = ldn (clP qs) n := ⟨_, rfl⟩
  obtain ⟨fw, hff⟩ : ∃ fw, fw = fewI (tabS n qs) n := ⟨_, rfl⟩
  obtain ⟨pf, hpf⟩ : ∃ pf, pf = pol n qs := ⟨_, rfl⟩
  rw [← hcc] at hc1 ha1 hfw0 hPC
  rw [← hdd] at hc2 ha2 hab hcb2
  rw [← hll] at hld hab hlb1 hPD
  rw [← hff] at hfe hfw0
  rw [← hpf] at hp1 ha1 ha2
  simp only [← hcc] at hPA
  simp only [← hll] at hPB
  clear hB hpf hff hdd
  have hfw : (decide (c > 0) != decide (x % 21 ≥ fw)) = false := by
    by_cases h : c > 0
    · rw [decide_eq_true h, decide_eq_true (hfw0.1 h)]; rfl
    · rw [decide_eq_false h, decide_eq_false fun q => h (hfw0.2 q)]; rfl
  have hn1 : ¬ (((n + 1 : Nat) : Int) ≠ (n : Int) + 1) := by omega
  have hn2 : ¬ (c ≠ c) := fun h => h rfl
  have hn3 : ¬ (d ≠ d) := fun h => h rfl
  have hn4 : ¬ (lg ≠ if -d > d then -d else d) := fun h => h hab
  have k3 := Right_spec n qs l hk (by omega)
  have cases3 : (∃ (Er : Int) (b : Int), Er ≠ 0 ∧ rightO n qs l = V.tup [A.c .ff, A.c (C.i b)] ∧ b ≠ 0 ∧ Spec Tryd.prog 19 [kV n (castP qs), V.c (.sl 1 l.length)] [⟨0, .ro 2, cellC (castP qs)⟩, ⟨1, .ro 0, l.map C.i⟩] 2 (Is (V.tup [A.c .nil, A.c (C.i Er)]))) ∨
      (∃ (Er : Int) (b : Int), Er ≠ 0 ∧ rightO n qs l = V.tup [A.c (.bool false), A.c (C.i b)] ∧ b = 0 ∧ Spec Tryd.prog 19 [kV n (castP qs), V.c (.sl 1 l.length)] [⟨0, .ro 2, cellC (castP qs)⟩, ⟨1, .ro 0, l.map C.i⟩] 2 (Is (V.tup [A.c .nil, A.c (C.i Er)]))) ∨
      (isF n l = true ∧ rgtP qs l = true) := by
    cases hf : isF n l with
    | false => exact .inl ⟨71, 71, by omega, by unfold rightO; rw [hf]; rfl, by omega, Clears_err n qs l hk (by omega) 71 (.inl ⟨hf, rfl⟩)⟩
    | true =>
      cases hr : rgtP qs l with
      | false => exact .inr (.inl ⟨5, 0, by omega, by unfold rightO; rw [hf, hr]; rfl, rfl, Clears_err n qs l hk (by omega) 5 (.inr ⟨hf, hr, rfl⟩)⟩)
      | true => exact .inr (.inr ⟨rfl, rfl⟩)
  have cases4 : (¬ bl.length = qs.length ∧ Spec Tryd.prog 33 [kW n (castP qs), V.c (.sl 1 bl.length)] [⟨0, .ro 2, cellC (castP qs)⟩, ⟨1, .ro 0, bl.map C.bool⟩] 2 (Is (V.tup [A.c .ff, A.c (C.i 2)]))) ∨
      (bl.length = qs.length ∧ isLd n qs bl = false ∧ Spec Tryd.prog 33 [kW n (castP qs), V.c (.sl 1 bl.length)] [⟨0, .ro 2, cellC (castP qs)⟩, ⟨1, .ro 0, bl.map C.bool⟩] 2 (Is (V.tup [A.c (.bool false), A.c (C.i 0)]))) ∨
      (bl.length = qs.length ∧ isLd n qs bl = true ∧ Spec Tryd.prog 33 [kW n (castP qs), V.c (.sl 1 bl.length)] [⟨0, .ro 2, cellC (castP qs)⟩, ⟨1, .ro 0, bl.map C.bool⟩] 2 (Is (V.tup [A.c (.bool true), A.c (C.i 0)]))) := by
    by_cases he : bl.length = qs.length
    · have h7 := isLoading_spec n qs hk bl he
      cases hi : isLd n qs bl with
      | false => rw [hi] at h7; exact .inr (.inl ⟨he, rfl, h7⟩)
      | true => rw [hi] at h7; exact .inr (.inr ⟨he, rfl, h7⟩)
    · exact .inl ⟨he, isLoading_err n (castP qs) bl 2 (by omega) (by omega) (.inr ⟨knd_ok hk, by omega, rfl⟩)⟩
  have hE2 : (2 : Int) ≠ 0 := by omega
  have hE3 : ¬ (2 : Int) = 0 := by omega
  have hE4 : (2 : Int) = 2 := rfl

  refine Spec.of tok Tryd.func4 rfl rfl rfl fun n0 cx => vc_ok tok ?_
  repeat ((conv => whnf); first | (refine And.intro (by first | omega | exact Nat.le_of_ble_eq_true rfl | (dsimp only [inK]; omega)) ?_) | refine Exists.intro _ (And.intro rfl ?_) | refine br_f (by omega) ?_ | refine bs_f (by omega) ?_ | refine fun (K' : K3) hK' => ?_ | (refine hK' _ _ _ ?_; clear hK' K') | refine wide_k (by omega) ?_ | refine long_k (by omega) ?_ | refine CallK.val (R := []) k6 (by kernel_rfl) rfl (by simp [V.wf, A.wf, C.wf, V.i]) ⟨roE_f (flat_c _) (l := 0) rfl (by omega) rfl (.inr rfl), trivial⟩ rfl rfl trivial ?_ | refine CallK.rowE (R := []) (flat_i _) hp1 (by kernel_rfl) rfl (by simp [V.wf, A.wf, C.wf, V.i]) ⟨roE_f (flat_c _) (l := 0) rfl (by omega) rfl (.inr rfl), trivial⟩ rfl ?_ | refine CallK.val (R := []) hc1 (by kernel_rfl) rfl (by simp [V.wf, A.wf, C.wf, V.i]) ⟨roE_f (flat_c _) (l := 0) rfl (by omega) rfl (.inr rfl), trivial⟩ rfl rfl (by simp [V.wf, A.wf, C.wf]) ?_ | refine CallK.val (R := []) hc2 (by kernel_rfl) rfl (by simp [V.wf, A.wf, C.wf, V.i]) ⟨roE_f (flat_c _) (l := 0) rfl (by omega) rfl (.inr rfl), trivial⟩ rfl rfl (by simp [V.wf, A.wf, C.wf]) ?_ | refine CallK.val (R := []) hld (by kernel_rfl) rfl (by simp [V.wf, A.wf, C.wf, V.i]) ⟨roE_f (flat_c _) (l := 0) rfl (by omega) rfl (.inr rfl), trivial⟩ rfl rfl (by simp [V.wf, A.wf, C.wf]) ?_ | refine CallK.val (R := [(0, some 4)]) ha1 (by kernel_rfl) rfl (by simp [V.wf, A.wf, C.wf, V.i]) ⟨roE_f (flat_i _) (l := 4) rfl (by omega) rfl (.inl rfl), trivial⟩ rfl rfl trivial ?_ | refine CallK.val (R := [(0, some 4)]) ha2 (by kernel_rfl) rfl (by simp [V.wf, A.wf, C.wf, V.i]) ⟨roE_f (flat_i _) (l := 4) rfl (by omega) rfl (.inl rfl), trivial⟩ rfl rfl trivial ?_ | refine CallK.m ?_)
  by_cases h0 : ((castP qs).length : Int) > 0
  · obtain ⟨i, hi'⟩ : ∃ i, i + 1 = qs.length := ⟨qs.length - 1, by omega⟩
    have hil : i < qs.length := by omega
    have hil2 : i < (castP qs).length := by omega
    have hi : ((castP qs).length : Int) - 1 = i := by omega
    have hpe := pairE_ok hk hil
    rw [← hi] at hpe
    have hke := hk.erase i
    have hkj := jnQ_knd hk hil
    obtain ⟨m, rfl⟩ : ∃ m, n = m + 1 := ⟨n - 1, by omega⟩
    have hjs := joined_spec (m + 1) qs hk i hil
    rw [Nat.add_sub_cancel] at hjs hkj
    rw [← hi] at hjs
    have hce : (castP qs).eraseIdx i = castP (qs.eraseIdx i) := castP_erase qs i
    have hel : (castP (qs.eraseIdx i)).length = (castP qs).length - 1 := by rw [castP_len, castP_len, List.length_eraseIdx_of_lt hil]
    have hjl : (castP (jnQ (m + 1) qs i)).length ≤ 28 := by rw [castP_len]; exact knd_len hkj
    have hva := rvalid_spec ((m + 1 : Nat) : Int) (castP (qs.eraseIdx i)) (by omega)
    rw [knd_ok hke, hel] at hva
    have hvb := rvalid_spec ((m : Nat) : Int) (castP (jnQ (m + 1) qs i)) (by omega)
    rw [knd_ok hkj] at hvb
    have hca := count_spec (m + 1) (x % 21) (qs.eraseIdx i) hke
    rw [if_pos (by omega), hel] at hca
    have hcb := count_spec m (x % 21) (jnQ (m + 1) qs i) hkj
    rw [if_pos (by omega)] at hcb
    have hla := Loadings_ld hke
    rw [kW, hel] at hla
    have hlb := Loadings_ld hkj
    have hP1 := hPA i hil
    have hP2 := hPB i hil
    rw [Nat.add_sub_cancel] at hP1 hP2
    have hb1 := cnt_bd hke (x := x % 21) (by omega)
    have hb2 := cnt_bd hkj (x := x % 21) (by omega)
    have hb3 := ldn_bd hke
    have hb4 := ldn_bd hkj
    obtain ⟨ca, hca'⟩ : ∃ ca, ca = cntO (m + 1) (qs.eraseIdx i) (x % 21) := ⟨_, rfl⟩
    obtain ⟨cb, hcb'⟩ : ∃ cb, cb = cntO m (jnQ (m + 1) qs i) (x % 21) := ⟨_, rfl⟩
    obtain ⟨la, hla'⟩ : ∃ la, la = ldn (clP (qs.eraseIdx i)) (m + 1) := ⟨_, rfl⟩
    obtain ⟨lb, hlb'⟩ : ∃ lb, lb = ldn (clP (jnQ (m + 1) qs i)) m := ⟨_, rfl⟩
    obtain ⟨jq, hjq⟩ : ∃ q, q = castP (jnQ (m + 1) qs i) := ⟨_, rfl⟩
    rw [← hca'] at hca hP1 hb1
    rw [← hcb'] at hcb hP1 hb2
    rw [← hla'] at hla hP2 hb3
    rw [← hlb'] at hlb hP2 hb4
    rw [← hjq] at hjs hvb hcb hlb hjl
    clear hPA hPB hca' hcb' hla' hlb' hjq
    have hm1 : ¬ (c ≠ ca - cb) := fun h => h hP1
    have hm2 : ¬ (lg ≠ la + lb) := fun h => h hP2
    repeat ((conv => whnf); first | (refine And.intro (by first | omega | exact Nat.le_of_ble_eq_true rfl | (dsimp only [inK]; omega)) ?_) | refine Exists.intro _ (And.intro rfl ?_) | refine br_t (by omega) ?_ | refine br_f (by omega) ?_ | refine bs_f (by omega) ?_ | refine fun (K' : K3) hK' => ?_ | (refine hK' _ _ _ ?_; clear hK' K') | refine without_k i hi (by omega) hil2 hpe (.inl rfl) rfl ?_ | refine CallK.rowA (R := []) (flat_c _) hjs (by kernel_rfl) rfl (by simp [V.wf, A.wf, C.wf, V.i]) ⟨roE_f (flat_c _) (l := 0) rfl (by omega) rfl (.inr rfl), trivial⟩ rfl ?_ | refine CallK.val (R := [(0, some 5)]) hva (by kernel_rfl) rfl (by simp [V.wf, A.wf, C.wf, V.i]) ⟨roE_fe (flat_c _) (l := 5) rfl (by omega) rfl (.inr rfl) (congrArg cellC hce), trivial⟩ rfl rfl trivial ?_ | refine CallK.val (R := [(0, some 7)]) hvb (by kernel_rfl) rfl (by simp [V.wf, A.wf, C.wf, V.i]) ⟨roE_f (flat_c _) (l := 7) rfl (by omega) rfl (.inr rfl), trivial⟩ rfl rfl trivial ?_ | refine CallK.val (R := [(0, some 5)]) hca (by kernel_rfl) rfl (by simp [V.wf, A.wf, C.wf, V.i]) ⟨roE_fe (flat_c _) (l := 5) rfl (by omega) rfl (.inr rfl) (congrArg cellC hce), trivial⟩ rfl rfl (by simp [V.wf, A.wf, C.wf]) ?_ | refine CallK.val (R := [(0, some 7)]) hcb (by kernel_rfl) rfl (by simp [V.wf, A.wf, C.wf, V.i]) ⟨roE_f (flat_c _) (l := 7) rfl (by omega) rfl (.inr rfl), trivial⟩ rfl rfl (by simp [V.wf, A.wf, C.wf]) ?_ | refine CallK.val (R := [(0, some 5)]) hla (by kernel_rfl) rfl (by simp [V.wf, A.wf, C.wf, V.i]) ⟨roE_fe (flat_c _) (l := 5) rfl (by omega) rfl (.inr rfl) (congrArg cellC hce), trivial⟩ rfl rfl (by simp [V.wf, A.wf, C.wf]) ?_ | refine CallK.val (R := [(0, some 7)]) hlb (by kernel_rfl) rfl (by simp [V.wf, A.wf, C.wf, V.i]) ⟨roE_f (flat_c _) (l := 7) rfl (by omega) rfl (.inr rfl), trivial⟩ rfl rfl (by simp [V.wf, A.wf, C.wf]) ?_ | refine CallK.val (R := []) hfe (by kernel_rfl) rfl (by simp [V.wf, A.wf, C.wf, V.i]) ⟨roE_f (flat_c _) (l := 0) rfl (by omega) rfl (.inr rfl), trivial⟩ rfl rfl (by simp [V.wf, A.wf, C.wf]) ?_ | refine br_bf hfw ?_ | refine bs_bf (Eq.refl false) ?_ | refine br_bf (Eq.refl false) ?_ | refine CallK.m ?_)
    rcases cases3 with ⟨Er, b, hE, hro, hb0, k4⟩ | ⟨Er, b, hE, hro, hb0, k4⟩ | ⟨hf, hr⟩
    · rw [hro] at k3
      repeat ((conv => whnf); first | refine Exists.intro _ (And.intro rfl ?_) | refine br_f (by omega) ?_ | refine fun (K' : K3) hK' => ?_ | (refine hK' _ _ _ ?_; clear hK' K') | refine CallK.val (R := []) k3 (by kernel_rfl) rfl (by simp [V.wf, A.wf, C.wf, V.i]) ⟨roE_f (flat_c _) (l := 0) rfl (by omega) rfl (.inr rfl), roE_f (flat_i _) (l := 1) rfl (by omega) rfl (.inl rfl), trivial⟩ rfl rfl (by simp [V.wf, A.wf, C.wf]) ?_ | refine CallK.val (R := []) k4 (by kernel_rfl) rfl (by simp [V.wf, A.wf, C.wf, V.i]) ⟨roE_f (flat_c _) (l := 0) rfl (by omega) rfl (.inr rfl), roE_f (flat_i _) (l := 1) rfl (by omega) rfl (.inl rfl), trivial⟩ rfl rfl (by simp [V.wf, A.wf, C.wf]) ?_ | refine CallK.m ?_)
      rcases cases4 with ⟨hne, k7⟩ | ⟨he, hi0, k7⟩ | ⟨he, hi1, k7⟩
      · repeat ((conv => whnf); first | refine br_t (by omega) ?_ | refine bs_t (by omega) ?_ | refine bs_f (by omega) ?_ | refine fun (K' : K3) hK' => ?_ | (refine hK' _ _ _ ?_; clear hK' K') | refine CallK.val (R := [(0, some 0), (1, some 2)]) k7 (by kernel_rfl) rfl (by simp [V.wf, A.wf, C.wf, V.i]) ⟨roE_f (flat_c _) (l := 0) rfl (by omega) rfl (.inr rfl), roE_s (sim_b _) (l := 2) rfl (by omega) rfl (.inl rfl), trivial⟩ rfl rfl (by simp [V.wf, A.wf, C.wf]) ?_ | refine awake_k ?_ | refine CallK.m ?_)
        intro ρ; rfl
      · repeat ((conv => whnf); first | refine bs_t (by omega) ?_ | refine bs_f (by omega) ?_ | refine fun (K' : K3) hK' => ?_ | (refine hK' _ _ _ ?_; clear hK' K') | refine CallK.val (R := [(0, some 0), (1, some 2)]) k7 (by kernel_rfl) rfl (by simp [V.wf, A.wf, C.wf, V.i]) ⟨roE_f (flat_c _) (l := 0) rfl (by omega) rfl (.inr rfl), roE_s (sim_b _) (l := 2) rfl (by omega) rfl (.inl rfl), trivial⟩ rfl rfl (by simp [V.wf, A.wf, C.wf]) ?_ | refine awake_k ?_ | refine br_bt (Eq.refl true) ?_ | refine CallK.m ?_)
        intro ρ; rfl
      · repeat ((conv => whnf); first | refine bs_f (by omega) ?_ | refine fun (K' : K3) hK' => ?_ | (refine hK' _ _ _ ?_; clear hK' K') | refine CallK.val (R := [(0, some 0), (1, some 2)]) k7 (by kernel_rfl) rfl (by simp [V.wf, A.wf, C.wf, V.i]) ⟨roE_f (flat_c _) (l := 0) rfl (by omega) rfl (.inr rfl), roE_s (sim_b _) (l := 2) rfl (by omega) rfl (.inl rfl), trivial⟩ rfl rfl (by simp [V.wf, A.wf, C.wf]) ?_ | refine br_bf (Eq.refl false) ?_)
        have hnt : ∀ k, k < bl.length → ((bl.take k).map not).map C.bool ++ [C.bool (!bl.getD k false)] = ((bl.take (k + 1)).map not).map C.bool := fun k hk' => by
          have e : bl[k]?.toList = [bl.getD k false] := by rw [List.getElem?_eq_getElem hk', List.getD_eq_getElem?_getD, List.getElem?_eq_getElem hk']; rfl
          rw [List.take_add_one, e, List.map_append, List.map_append]; rfl
        have hng : isLd (m + 1) qs (bl.map not) = true := isLd_neg hk (fun j hj => getD_not (by omega)) hi1
        have k8 := isLoading_spec (m + 1) qs hk (bl.map not) (by rw [List.length_map]; exact he)
        rw [hng, List.length_map] at k8
        have hbm : (bl.map C.bool).length = bl.length := List.length_map _
        refine Tri.loop (γ := Nat) (fun k => k ≤ bl.length) (fun k => [(4, V.c (.ptr 3 0)), (38, V.c (.sl 9 k)), (292, V.c (.sl 2 bl.length)), (293, V.i bl.length), (294, V.i (k : Nat))])
          (fun k => [⟨9, .vec 4 1, ((bl.take k).map not).map C.bool⟩, ⟨3, .own 24, [C.i ((m + 1) : Nat), .sl 0 (castP qs).length]⟩, ⟨0, .ro 2, cellC (castP qs)⟩, ⟨2, .ro 0, bl.map C.bool⟩]) 10 (fun k => bl.length - k) 0 (R0 := [(9, none)]) ?_ ?_ ?_
        · omega
        · skip
          refine ⟨?_, ?_, rfl, rfl, by exact Nat.le_of_ble_eq_true rfl⟩
          · repeat (first | exact trivial | (refine And.intro (covS_syn (by rfl) rfl (by first | exact trivial | exact Nat.le_of_ble_eq_true rfl)) ?_))
          · repeat (first | exact trivial | refine And.intro (covE_s (sim_c _) rfl (Nat.le_of_ble_eq_true rfl) rfl rfl) ?_ | refine And.intro (covE_nil rfl (Nat.le_of_ble_eq_true rfl) rfl rfl) ?_ | (refine And.intro (covE_some rfl (Nat.le_of_ble_eq_true rfl) (by first | exact wf_bools _ _ | first | exact wf_us _ _ | exact wf_cells _ _ | exact wf_bools _ _ | (simp [C.wf]; done)) rfl (by first | exact ren_bools _ _ | rfl)) ?_))
        · intro k hkk
          refine vc_ok tok ?_
          by_cases hlt : k < bl.length
          · have hsu := hnt k hlt
            have hlb' : (bl.map C.bool)[mulS ((k : Nat) : Int).toNat 1]? = some (C.bool (bl.getD k false)) := boolL hlt
            have hcm : (((bl.take k).map not).map C.bool).length = k := by rw [List.length_map, List.length_map, List.length_take]; omega
            repeat ((conv => whnf); first | (refine And.intro (by first | omega | (dsimp only [inK]; omega) | (exact ⟨rfl, rfl, rfl, Nat.le_of_ble_eq_true rfl, by dsimp only; omega, by exact Nat.le_of_ble_eq_true rfl, by omega, Nat.le_of_ble_eq_true rfl⟩)) ?_) | refine br_t (by omega) ?_ | refine fun (K' : K3) hK' => ?_ | (refine hK' _ _ _ ?_; clear hK' K') | refine (ld (hlb') ?_))
            refine ⟨k + 1, [(9, some 11)], by omega, by omega, ?_⟩
            refine ⟨?_, ?_, rfl, rfl, by exact Nat.le_of_ble_eq_true rfl⟩
            · repeat (first | exact trivial | (refine And.intro (covS_syn (by rfl) rfl (by first | exact trivial | exact Nat.le_of_ble_eq_true rfl)) ?_))
            · repeat (first | exact trivial | refine And.intro (covE_s (sim_b _) rfl (Nat.le_of_ble_eq_true rfl) rfl hsu) ?_ | refine And.intro (covE_s (sim_c _) rfl (Nat.le_of_ble_eq_true rfl) rfl rfl) ?_ | (refine And.intro (covE_some rfl (Nat.le_of_ble_eq_true rfl) (by first | exact wf_bools _ _ | first | exact wf_us _ _ | exact wf_cells _ _ | exact wf_bools _ _ | (simp [C.wf]; done)) rfl (by first | exact ren_bools _ _ | rfl)) ?_))
          · obtain rfl : k = bl.length := by omega
            rw [List.take_length]
            repeat ((conv => whnf); first | refine Exists.intro _ (And.intro rfl ?_) | refine br_t (by omega) ?_ | refine br_f (by omega) ?_ | refine fun (K' : K3) hK' => ?_ | (refine hK' _ _ _ ?_; clear hK' K') | refine CallK.val (R := [(0, some 0), (1, some 9)]) k8 (by kernel_rfl) rfl (by simp [V.wf, A.wf, C.wf, V.i]) ⟨roE_f (flat_c _) (l := 0) rfl (by omega) rfl (.inr rfl), roE_s (sim_b _) (l := 9) rfl (by omega) rfl (.inl rfl), trivial⟩ rfl rfl (by simp [V.wf, A.wf, C.wf]) ?_ | refine awake_k ?_ | refine br_bt (Eq.refl true) ?_ | refine CallK.m ?_)
            intro ρ; rfl
    · rw [hro] at k3
      have hq : (false != decide (Er = 0)) = false := by rw [decide_eq_false hE]; rfl
      repeat ((conv => whnf); first | refine Exists.intro _ (And.intro rfl ?_) | refine br_t (by omega) ?_ | refine br_f (by omega) ?_ | refine fun (K' : K3) hK' => ?_ | (refine hK' _ _ _ ?_; clear hK' K') | refine CallK.val (R := []) k3 (by kernel_rfl) rfl (by simp [V.wf, A.wf, C.wf, V.i]) ⟨roE_f (flat_c _) (l := 0) rfl (by omega) rfl (.inr rfl), roE_f (flat_i _) (l := 1) rfl (by omega) rfl (.inl rfl), trivial⟩ rfl rfl (by simp [V.wf, A.wf, C.wf]) ?_ | refine CallK.val (R := []) k4 (by kernel_rfl) rfl (by simp [V.wf, A.wf, C.wf, V.i]) ⟨roE_f (flat_c _) (l := 0) rfl (by omega) rfl (.inr rfl), roE_f (flat_i _) (l := 1) rfl (by omega) rfl (.inl rfl), trivial⟩ rfl rfl (by simp [V.wf, A.wf, C.wf]) ?_ | refine br_bf hq ?_ | refine CallK.m ?_)
      rcases cases4 with ⟨hne, k7⟩ | ⟨he, hi0, k7⟩ | ⟨he, hi1, k7⟩
      · repeat ((conv => whnf); first | refine br_t (by omega) ?_ | refine bs_t (by omega) ?_ | refine bs_f (by omega) ?_ | refine fun (K' : K3) hK' => ?_ | (refine hK' _ _ _ ?_; clear hK' K') | refine CallK.val (R := [(0, some 0), (1, some 2)]) k7 (by kernel_rfl) rfl (by simp [V.wf, A.wf, C.wf, V.i]) ⟨roE_f (flat_c _) (l := 0) rfl (by omega) rfl (.inr rfl), roE_s (sim_b _) (l := 2) rfl (by omega) rfl (.inl rfl), trivial⟩ rfl rfl (by simp [V.wf, A.wf, C.wf]) ?_ | refine awake_k ?_ | refine CallK.m ?_)
        intro ρ; rfl
      · repeat ((conv => whnf); first | refine bs_t (by omega) ?_ | refine bs_f (by omega) ?_ | refine fun (K' : K3) hK' => ?_ | (refine hK' _ _ _ ?_; clear hK' K') | refine CallK.val (R := [(0, some 0), (1, some 2)]) k7 (by kernel_rfl) rfl (by simp [V.wf, A.wf, C.wf, V.i]) ⟨roE_f (flat_c _) (l := 0) rfl (by omega) rfl (.inr rfl), roE_s (sim_b _) (l := 2) rfl (by omega) rfl (.inl rfl), trivial⟩ rfl rfl (by simp [V.wf, A.wf, C.wf]) ?_ | refine awake_k ?_ | refine br_bt (Eq.refl true) ?_ | refine CallK.m ?_)
        intro ρ; rfl
      · repeat ((conv => whnf); first | refine bs_f (by omega) ?_ | refine fun (K' : K3) hK' => ?_ | (refine hK' _ _ _ ?_; clear hK' K') | refine CallK.val (R := [(0, some 0), (1, some 2)]) k7 (by kernel_rfl) rfl (by simp [V.wf, A.wf, C.wf, V.i]) ⟨roE_f (flat_c _) (l := 0) rfl (by omega) rfl (.inr rfl), roE_s (sim_b _) (l := 2) rfl (by omega) rfl (.inl rfl), trivial⟩ rfl rfl (by simp [V.wf, A.wf, C.wf]) ?_ | refine br_bf (Eq.refl false) ?_)
        have hnt : ∀ k, k < bl.length → ((bl.take k).map not).map C.bool ++ [C.bool (!bl.getD k false)] = ((bl.take (k + 1)).map not).map C.bool := fun k hk' => by
          have e : bl[k]?.toList = [bl.getD k false] := by rw [List.getElem?_eq_getElem hk', List.getD_eq_getElem?_getD, List.getElem?_eq_getElem hk']; rfl
          rw [List.take_add_one, e, List.map_append, List.map_append]; rfl
        have hng : isLd (m + 1) qs (bl.map not) = true := isLd_neg hk (fun j hj => getD_not (by omega)) hi1
        have k8 := isLoading_spec (m + 1) qs hk (bl.map not) (by rw [List.length_map]; exact he)
        rw [hng, List.length_map] at k8
        have hbm : (bl.map C.bool).length = bl.length := List.length_map _
        refine Tri.loop (γ := Nat) (fun k => k ≤ bl.length) (fun k => [(4, V.c (.ptr 3 0)), (38, V.c (.sl 9 k)), (292, V.c (.sl 2 bl.length)), (293, V.i bl.length), (294, V.i (k : Nat))])
          (fun k => [⟨9, .vec 4 1, ((bl.take k).map not).map C.bool⟩, ⟨3, .own 24, [C.i ((m + 1) : Nat), .sl 0 (castP qs).length]⟩, ⟨0, .ro 2, cellC (castP qs)⟩, ⟨2, .ro 0, bl.map C.bool⟩]) 10 (fun k => bl.length - k) 0 (R0 := [(9, none)]) ?_ ?_ ?_
        · omega
        · skip
          refine ⟨?_, ?_, rfl, rfl, by exact Nat.le_of_ble_eq_true rfl⟩
          · repeat (first | exact trivial | (refine And.intro (covS_syn (by rfl) rfl (by first | exact trivial | exact Nat.le_of_ble_eq_true rfl)) ?_))
          · repeat (first | exact trivial | refine And.intro (covE_s (sim_c _) rfl (Nat.le_of_ble_eq_true rfl) rfl rfl) ?_ | refine And.intro (covE_nil rfl (Nat.le_of_ble_eq_true rfl) rfl rfl) ?_ | (refine And.intro (covE_some rfl (Nat.le_of_ble_eq_true rfl) (by first | exact wf_bools _ _ | first | exact wf_us _ _ | exact wf_cells _ _ | exact wf_bools _ _ | (simp [C.wf]; done)) rfl (by first | exact ren_bools _ _ | rfl)) ?_))
        · intro k hkk
          refine vc_ok tok ?_
          by_cases hlt : k < bl.length
          · have hsu := hnt k hlt
            have hlb' : (bl.map C.bool)[mulS ((k : Nat) : Int).toNat 1]? = some (C.bool (bl.getD k false)) := boolL hlt
            have hcm : (((bl.take k).map not).map C.bool).length = k := by rw [List.length_map, List.length_map, List.length_take]; omega
            repeat ((conv => whnf); first | (refine And.intro (by first | omega | (dsimp only [inK]; omega) | (exact ⟨rfl, rfl, rfl, Nat.le_of_ble_eq_true rfl, by dsimp only; omega, by exact Nat.le_of_ble_eq_true rfl, by omega, Nat.le_of_ble_eq_true rfl⟩)) ?_) | refine br_t (by omega) ?_ | refine fun (K' : K3) hK' => ?_ | (refine hK' _ _ _ ?_; clear hK' K') | refine (ld (hlb') ?_))
            refine ⟨k + 1, [(9, some 11)], by omega, by omega, ?_⟩
            refine ⟨?_, ?_, rfl, rfl, by exact Nat.le_of_ble_eq_true rfl⟩
            · repeat (first | exact trivial | (refine And.intro (covS_syn (by rfl) rfl (by first | exact trivial | exact Nat.le_of_ble_eq_true rfl)) ?_))
            · repeat (first | exact trivial | refine And.intro (covE_s (sim_b _) rfl (Nat.le_of_ble_eq_true rfl) rfl hsu) ?_ | refine And.intro (covE_s (sim_c _) rfl (Nat.le_of_ble_eq_true rfl) rfl rfl) ?_ | (refine And.intro (covE_some rfl (Nat.le_of_ble_eq_true rfl) (by first | exact wf_bools _ _ | first | exact wf_us _ _ | exact wf_cells _ _ | exact wf_bools _ _ | (simp [C.wf]; done)) rfl (by first | exact ren_bools _ _ | rfl)) ?_))
          · obtain rfl : k = bl.length := by omega
            rw [List.take_length]
            repeat ((conv => whnf); first | refine Exists.intro _ (And.intro rfl ?_) | refine br_t (by omega) ?_ | refine br_f (by omega) ?_ | refine fun (K' : K3) hK' => ?_ | (refine hK' _ _ _ ?_; clear hK' K') | refine CallK.val (R := [(0, some 0), (1, some 9)]) k8 (by kernel_rfl) rfl (by simp [V.wf, A.wf, C.wf, V.i]) ⟨roE_f (flat_c _) (l := 0) rfl (by omega) rfl (.inr rfl), roE_s (sim_b _) (l := 9) rfl (by omega) rfl (.inl rfl), trivial⟩ rfl rfl (by simp [V.wf, A.wf, C.wf]) ?_ | refine awake_k ?_ | refine br_bt (Eq.refl true) ?_ | refine CallK.m ?_)
            intro ρ; rfl
    · have hro : rightO (m + 1) qs l = V.tup [A.c (.bool true), A.c (C.i 0)] := by unfold rightO; rw [hf, hr]; rfl
      rw [hro] at k3
      have k4 := Clears_ok (m + 1) qs l hk (by omega) hf hr
      have k5 := rIsLoading_spec (m + 1) qs hk (clrL qs l) (clrL_len qs l)
      rw [clears_right hk hr, clrL_len] at k5
      repeat ((conv => whnf); first | refine Exists.intro _ (And.intro rfl ?_) | refine br_t (by omega) ?_ | refine bs_f (by omega) ?_ | refine fun (K' : K3) hK' => ?_ | (refine hK' _ _ _ ?_; clear hK' K') | refine CallK.val (R := []) k3 (by kernel_rfl) rfl (by simp [V.wf, A.wf, C.wf, V.i]) ⟨roE_f (flat_c _) (l := 0) rfl (by omega) rfl (.inr rfl), roE_f (flat_i _) (l := 1) rfl (by omega) rfl (.inl rfl), trivial⟩ rfl rfl (by simp [V.wf, A.wf, C.wf]) ?_ | refine CallK.optE (R := []) (sim_b _) k4 (by kernel_rfl) rfl (by simp [V.wf, A.wf, C.wf, V.i]) ⟨roE_f (flat_c _) (l := 0) rfl (by omega) rfl (.inr rfl), roE_f (flat_i _) (l := 1) rfl (by omega) rfl (.inl rfl), trivial⟩ rfl ?_ | refine CallK.val (R := [(0, some 0), (1, some 9)]) k5 (by kernel_rfl) rfl (by simp [V.wf, A.wf, C.wf, V.i]) ⟨roE_f (flat_c _) (l := 0) rfl (by omega) rfl (.inr rfl), roE_s (sim_b _) (l := 9) rfl (by omega) rfl (.inl rfl), trivial⟩ rfl rfl (by simp [V.wf, A.wf, C.wf]) ?_ | refine br_bf (Eq.refl false) ?_ | refine CallK.m ?_)
      rcases cases4 with ⟨hne, k7⟩ | ⟨he, hi0, k7⟩ | ⟨he, hi1, k7⟩
      · repeat ((conv => whnf); first | refine br_t (by omega) ?_ | refine bs_t (by omega) ?_ | refine bs_f (by omega) ?_ | refine fun (K' : K3) hK' => ?_ | (refine hK' _ _ _ ?_; clear hK' K') | refine CallK.val (R := [(0, some 0), (1, some 2)]) k7 (by kernel_rfl) rfl (by simp [V.wf, A.wf, C.wf, V.i]) ⟨roE_f (flat_c _) (l := 0) rfl (by omega) rfl (.inr rfl), roE_s (sim_b _) (l := 2) rfl (by omega) rfl (.inl rfl), trivial⟩ rfl rfl (by simp [V.wf, A.wf, C.wf]) ?_ | refine awake_k ?_ | refine CallK.m ?_)
        intro ρ; rfl
      · repeat ((conv => whnf); first | refine bs_t (by omega) ?_ | refine bs_f (by omega) ?_ | refine fun (K' : K3) hK' => ?_ | (refine hK' _ _ _ ?_; clear hK' K') | refine CallK.val (R := [(0, some 0), (1, some 2)]) k7 (by kernel_rfl) rfl (by simp [V.wf, A.wf, C.wf, V.i]) ⟨roE_f (flat_c _) (l := 0) rfl (by omega) rfl (.inr rfl), roE_s (sim_b _) (l := 2) rfl (by omega) rfl (.inl rfl), trivial⟩ rfl rfl (by simp [V.wf, A.wf, C.wf]) ?_ | refine awake_k ?_ | refine br_bt (Eq.refl true) ?_ | refine CallK.m ?_)
        intro ρ; rfl
      · repeat ((conv => whnf); first | refine bs_f (by omega) ?_ | refine fun (K' : K3) hK' => ?_ | (refine hK' _ _ _ ?_; clear hK' K') | refine CallK.val (R := [(0, some 0), (1, some 2)]) k7 (by kernel_rfl) rfl (by simp [V.wf, A.wf, C.wf, V.i]) ⟨roE_f (flat_c _) (l := 0) rfl (by omega) rfl (.inr rfl), roE_s (sim_b _) (l := 2) rfl (by omega) rfl (.inl rfl), trivial⟩ rfl rfl (by simp [V.wf, A.wf, C.wf]) ?_ | refine br_bf (Eq.refl false) ?_)
        have hnt : ∀ k, k < bl.length → ((bl.take k).map not).map C.bool ++ [C.bool (!bl.getD k false)] = ((bl.take (k + 1)).map not).map C.bool := fun k hk' => by
          have e : bl[k]?.toList = [bl.getD k false] := by rw [List.getElem?_eq_getElem hk', List.getD_eq_getElem?_getD, List.getElem?_eq_getElem hk']; rfl
          rw [List.take_add_one, e, List.map_append, List.map_append]; rfl
        have hng : isLd (m + 1) qs (bl.map not) = true := isLd_neg hk (fun j hj => getD_not (by omega)) hi1
        have k8 := isLoading_spec (m + 1) qs hk (bl.map not) (by rw [List.length_map]; exact he)
        rw [hng, List.length_map] at k8
        have hbm : (bl.map C.bool).length = bl.length := List.length_map _
        refine Tri.loop (γ := Nat) (fun k => k ≤ bl.length) (fun k => [(4, V.c (.ptr 3 0)), (38, V.c (.sl 10 k)), (292, V.c (.sl 2 bl.length)), (293, V.i bl.length), (294, V.i (k : Nat))])
          (fun k => [⟨10, .vec 4 1, ((bl.take k).map not).map C.bool⟩, ⟨3, .own 24, [C.i ((m + 1) : Nat), .sl 0 (castP qs).length]⟩, ⟨0, .ro 2, cellC (castP qs)⟩, ⟨2, .ro 0, bl.map C.bool⟩]) 11 (fun k => bl.length - k) 0 (R0 := [(10, none)]) ?_ ?_ ?_
        · omega
        · skip
          refine ⟨?_, ?_, rfl, rfl, by exact Nat.le_of_ble_eq_true rfl⟩
          · repeat (first | exact trivial | (refine And.intro (covS_syn (by rfl) rfl (by first | exact trivial | exact Nat.le_of_ble_eq_true rfl)) ?_))
          · repeat (first | exact trivial | refine And.intro (covE_s (sim_c _) rfl (Nat.le_of_ble_eq_true rfl) rfl rfl) ?_ | refine And.intro (covE_nil rfl (Nat.le_of_ble_eq_true rfl) rfl rfl) ?_ | (refine And.intro (covE_some rfl (Nat.le_of_ble_eq_true rfl) (by first | exact wf_bools _ _ | first | exact wf_us _ _ | exact wf_cells _ _ | exact wf_bools _ _ | (simp [C.wf]; done)) rfl (by first | exact ren_bools _ _ | rfl)) ?_))
        · intro k hkk
          refine vc_ok tok ?_
          by_cases hlt : k < bl.length
          · have hsu := hnt k hlt
            have hlb' : (bl.map C.bool)[mulS ((k : Nat) : Int).toNat 1]? = some (C.bool (bl.getD k false)) := boolL hlt
            have hcm : (((bl.take k).map not).map C.bool).length = k := by rw [List.length_map, List.length_map, List.length_take]; omega
            repeat ((conv => whnf); first | (refine And.intro (by first | omega | (dsimp only [inK]; omega) | (exact ⟨rfl, rfl, rfl, Nat.le_of_ble_eq_true rfl, by dsimp only; omega, by exact Nat.le_of_ble_eq_true rfl, by omega, Nat.le_of_ble_eq_true rfl⟩)) ?_) | refine br_t (by omega) ?_ | refine fun (K' : K3) hK' => ?_ | (refine hK' _ _ _ ?_; clear hK' K') | refine (ld (hlb') ?_))
            refine ⟨k + 1, [(10, some 12)], by omega, by omega, ?_⟩
            refine ⟨?_, ?_, rfl, rfl, by exact Nat.le_of_ble_eq_true rfl⟩
            · repeat (first | exact trivial | (refine And.intro (covS_syn (by rfl) rfl (by first | exact trivial | exact Nat.le_of_ble_eq_true rfl)) ?_))
            · repeat (first | exact trivial | refine And.intro (covE_s (sim_b _) rfl (Nat.le_of_ble_eq_true rfl) rfl hsu) ?_ | refine And.intro (covE_s (sim_c _) rfl (Nat.le_of_ble_eq_true rfl) rfl rfl) ?_ | (refine And.intro (covE_some rfl (Nat.le_of_ble_eq_true rfl) (by first | exact wf_bools _ _ | first | exact wf_us _ _ | exact wf_cells _ _ | exact wf_bools _ _ | (simp [C.wf]; done)) rfl (by first | exact ren_bools _ _ | rfl)) ?_))
          · obtain rfl : k = bl.length := by omega
            rw [List.take_length]
            repeat ((conv => whnf); first | refine Exists.intro _ (And.intro rfl ?_) | refine br_t (by omega) ?_ | refine br_f (by omega) ?_ | refine fun (K' : K3) hK' => ?_ | (refine hK' _ _ _ ?_; clear hK' K') | refine CallK.val (R := [(0, some 0), (1, some 10)]) k8 (by kernel_rfl) rfl (by simp [V.wf, A.wf, C.wf, V.i]) ⟨roE_f (flat_c _) (l := 0) rfl (by omega) rfl (.inr rfl), roE_s (sim_b _) (l := 10) rfl (by omega) rfl (.inl rfl), trivial⟩ rfl rfl (by simp [V.wf, A.wf, C.wf]) ?_ | refine awake_k ?_ | refine br_bt (Eq.refl true) ?_ | refine CallK.m ?_)
            intro ρ; rfl
  · have h00 : qs.length = 0 := by omega
    have hpw := power_spec s n hs20 hrng.2
    rw [← hs] at hpw
    have hP1 := hPC h00
    have hP2 := hPD h00
    have hm1 : ¬ (c ≠ ((s ^ n : Nat) : Int)) := fun h => h hP1
    have hm2 : ¬ (lg ≠ 1) := fun h => h hP2
    clear hPA hPB
    repeat ((conv => whnf); first | (refine And.intro (by first | omega | exact Nat.le_of_ble_eq_true rfl) ?_) | refine Exists.intro _ (And.intro rfl ?_) | refine br_f (by omega) ?_ | refine bs_f (by omega) ?_ | refine fun (K' : K3) hK' => ?_ | (refine hK' _ _ _ ?_; clear hK' K') | refine CallK.val (R := []) hpw (by kernel_rfl) rfl (by simp [V.wf, A.wf, C.wf, V.i]) trivial rfl rfl trivial ?_ | refine CallK.val (R := []) hfe (by kernel_rfl) rfl (by simp [V.wf, A.wf, C.wf, V.i]) ⟨roE_f (flat_c _) (l := 0) rfl (by omega) rfl (.inr rfl), trivial⟩ rfl rfl (by simp [V.wf, A.wf, C.wf]) ?_ | refine br_bf hfw ?_ | refine CallK.m ?_)
    rcases cases3 with ⟨Er, b, hE, hro, hb0, k4⟩ | ⟨Er, b, hE, hro, hb0, k4⟩ | ⟨hf, hr⟩
    · rw [hro] at k3
      repeat ((conv => whnf); first | refine Exists.intro _ (And.intro rfl ?_) | refine br_f (by omega) ?_ | refine fun (K' : K3) hK' => ?_ | (refine hK' _ _ _ ?_; clear hK' K') | refine CallK.val (R := []) k3 (by kernel_rfl) rfl (by simp [V.wf, A.wf, C.wf, V.i]) ⟨roE_f (flat_c _) (l := 0) rfl (by omega) rfl (.inr rfl), roE_f (flat_i _) (l := 1) rfl (by omega) rfl (.inl rfl), trivial⟩ rfl rfl (by simp [V.wf, A.wf, C.wf]) ?_ | refine CallK.val (R := []) k4 (by kernel_rfl) rfl (by simp [V.wf, A.wf, C.wf, V.i]) ⟨roE_f (flat_c _) (l := 0) rfl (by omega) rfl (.inr rfl), roE_f (flat_i _) (l := 1) rfl (by omega) rfl (.inl rfl), trivial⟩ rfl rfl (by simp [V.wf, A.wf, C.wf]) ?_ | refine CallK.m ?_)
      rcases cases4 with ⟨hne, k7⟩ | ⟨he, hi0, k7⟩ | ⟨he, hi1, k7⟩
      · repeat ((conv => whnf); first | refine br_t (by omega) ?_ | refine bs_t (by omega) ?_ | refine bs_f (by omega) ?_ | refine fun (K' : K3) hK' => ?_ | (refine hK' _ _ _ ?_; clear hK' K') | refine CallK.val (R := [(0, some 0), (1, some 2)]) k7 (by kernel_rfl) rfl (by simp [V.wf, A.wf, C.wf, V.i]) ⟨roE_f (flat_c _) (l := 0) rfl (by omega) rfl (.inr rfl), roE_s (sim_b _) (l := 2) rfl (by omega) rfl (.inl rfl), trivial⟩ rfl rfl (by simp [V.wf, A.wf, C.wf]) ?_ | refine awake_k ?_ | refine CallK.m ?_)
        intro ρ; rfl
      · repeat ((conv => whnf); first | refine bs_t (by omega) ?_ | refine bs_f (by omega) ?_ | refine fun (K' : K3) hK' => ?_ | (refine hK' _ _ _ ?_; clear hK' K') | refine CallK.val (R := [(0, some 0), (1, some 2)]) k7 (by kernel_rfl) rfl (by simp [V.wf, A.wf, C.wf, V.i]) ⟨roE_f (flat_c _) (l := 0) rfl (by omega) rfl (.inr rfl), roE_s (sim_b _) (l := 2) rfl (by omega) rfl (.inl rfl), trivial⟩ rfl rfl (by simp [V.wf, A.wf, C.wf]) ?_ | refine awake_k ?_ | refine br_bt (Eq.refl true) ?_ | refine CallK.m ?_)
        intro ρ; rfl
      · repeat ((conv => whnf); first | refine bs_f (by omega) ?_ | refine fun (K' : K3) hK' => ?_ | (refine hK' _ _ _ ?_; clear hK' K') | refine CallK.val (R := [(0, some 0), (1, some 2)]) k7 (by kernel_rfl) rfl (by simp [V.wf, A.wf, C.wf, V.i]) ⟨roE_f (flat_c _) (l := 0) rfl (by omega) rfl (.inr rfl), roE_s (sim_b _) (l := 2) rfl (by omega) rfl (.inl rfl), trivial⟩ rfl rfl (by simp [V.wf, A.wf, C.wf]) ?_ | refine br_bf (Eq.refl false) ?_)
        have hnt : ∀ k, k < bl.length → ((bl.take k).map not).map C.bool ++ [C.bool (!bl.getD k false)] = ((bl.take (k + 1)).map not).map C.bool := fun k hk' => by
          have e : bl[k]?.toList = [bl.getD k false] := by rw [List.getElem?_eq_getElem hk', List.getD_eq_getElem?_getD, List.getElem?_eq_getElem hk']; rfl
          rw [List.take_add_one, e, List.map_append, List.map_append]; rfl
        have hng : isLd n qs (bl.map not) = true := isLd_neg hk (fun j hj => getD_not (by omega)) hi1
        have k8 := isLoading_spec n qs hk (bl.map not) (by rw [List.length_map]; exact he)
        rw [hng, List.length_map] at k8
        have hbm : (bl.map C.bool).length = bl.length := List.length_map _
        refine Tri.loop (γ := Nat) (fun k => k ≤ bl.length) (fun k => [(4, V.c (.ptr 3 0)), (38, V.c (.sl 5 k)), (292, V.c (.sl 2 bl.length)), (293, V.i bl.length), (294, V.i (k : Nat))])
          (fun k => [⟨5, .vec 4 1, ((bl.take k).map not).map C.bool⟩, ⟨3, .own 24, [C.i (n : Nat), .sl 0 (castP qs).length]⟩, ⟨0, .ro 2, cellC (castP qs)⟩, ⟨2, .ro 0, bl.map C.bool⟩]) 6 (fun k => bl.length - k) 0 (R0 := [(5, none)]) ?_ ?_ ?_
        · omega
        · skip
          refine ⟨?_, ?_, rfl, rfl, by exact Nat.le_of_ble_eq_true rfl⟩
          · repeat (first | exact trivial | (refine And.intro (covS_syn (by rfl) rfl (by first | exact trivial | exact Nat.le_of_ble_eq_true rfl)) ?_))
          · repeat (first | exact trivial | refine And.intro (covE_s (sim_c _) rfl (Nat.le_of_ble_eq_true rfl) rfl rfl) ?_ | refine And.intro (covE_nil rfl (Nat.le_of_ble_eq_true rfl) rfl rfl) ?_ | (refine And.intro (covE_some rfl (Nat.le_of_ble_eq_true rfl) (by first | exact wf_bools _ _ | first | exact wf_us _ _ | exact wf_cells _ _ | exact wf_bools _ _ | (simp [C.wf]; done)) rfl (by first | exact ren_bools _ _ | rfl)) ?_))
        · intro k hkk
          refine vc_ok tok ?_
          by_cases hlt : k < bl.length
          · exfalso; omega
          · obtain rfl : k = bl.length := by omega
            rw [List.take_length]
            repeat ((conv => whnf); first | refine Exists.intro _ (And.intro rfl ?_) | refine br_t (by omega) ?_ | refine br_f (by omega) ?_ | refine fun (K' : K3) hK' => ?_ | (refine hK' _ _ _ ?_; clear hK' K') | refine CallK.val (R := [(0, some 0), (1, some 5)]) k8 (by kernel_rfl) rfl (by simp [V.wf, A.wf, C.wf, V.i]) ⟨roE_f (flat_c _) (l := 0) rfl (by omega) rfl (.inr rfl), roE_s (sim_b _) (l := 5) rfl (by omega) rfl (.inl rfl), trivial⟩ rfl rfl (by simp [V.wf, A.wf, C.wf]) ?_ | refine awake_k ?_ | refine br_bt (Eq.refl true) ?_ | refine CallK.m ?_)
            intro ρ; rfl
    · rw [hro] at k3
      have hq : (false != decide (Er = 0)) = false := by rw [decide_eq_false hE]; rfl
      repeat ((conv => whnf); first | refine Exists.intro _ (And.intro rfl ?_) | refine br_t (by omega) ?_ | refine br_f (by omega) ?_ | refine fun (K' : K3) hK' => ?_ | (refine hK' _ _ _ ?_; clear hK' K') | refine CallK.val (R := []) k3 (by kernel_rfl) rfl (by simp [V.wf, A.wf, C.wf, V.i]) ⟨roE_f (flat_c _) (l := 0) rfl (by omega) rfl (.inr rfl), roE_f (flat_i _) (l := 1) rfl (by omega) rfl (.inl rfl), trivial⟩ rfl rfl (by simp [V.wf, A.wf, C.wf]) ?_ | refine CallK.val (R := []) k4 (by kernel_rfl) rfl (by simp [V.wf, A.wf, C.wf, V.i]) ⟨roE_f (flat_c _) (l := 0) rfl (by omega) rfl (.inr rfl), roE_f (flat_i _) (l := 1) rfl (by omega) rfl (.inl rfl), trivial⟩ rfl rfl (by simp [V.wf, A.wf, C.wf]) ?_ | refine br_bf hq ?_ | refine CallK.m ?_)
      rcases cases4 with ⟨hne, k7⟩ | ⟨he, hi0, k7⟩ | ⟨he, hi1, k7⟩
      · repeat ((conv => whnf); first | refine br_t (by omega) ?_ | refine bs_t (by omega) ?_ | refine bs_f (by omega) ?_ | refine fun (K' : K3) hK' => ?_ | (refine hK' _ _ _ ?_; clear hK' K') | refine CallK.val (R := [(0, some 0), (1, some 2)]) k7 (by kernel_rfl) rfl (by simp [V.wf, A.wf, C.wf, V.i]) ⟨roE_f (flat_c _) (l := 0) rfl (by omega) rfl (.inr rfl), roE_s (sim_b _) (l := 2) rfl (by omega) rfl (.inl rfl), trivial⟩ rfl rfl (by simp [V.wf, A.wf, C.wf]) ?_ | refine awake_k ?_ | refine CallK.m ?_)
        intro ρ; rfl
      · repeat ((conv => whnf); first | refine bs_t (by omega) ?_ | refine bs_f (by omega) ?_ | refine fun (K' : K3) hK' => ?_ | (refine hK' _ _ _ ?_; clear hK' K') | refine CallK.val (R := [(0, some 0), (1, some 2)]) k7 (by kernel_rfl) rfl (by simp [V.wf, A.wf, C.wf, V.i]) ⟨roE_f (flat_c _) (l := 0) rfl (by omega) rfl (.inr rfl), roE_s (sim_b _) (l := 2) rfl (by omega) rfl (.inl rfl), trivial⟩ rfl rfl (by simp [V.wf, A.wf, C.wf]) ?_ | refine awake_k ?_ | refine br_bt (Eq.refl true) ?_ | refine CallK.m ?_)
        intro ρ; rfl
      · repeat ((conv => whnf); first | refine bs_f (by omega) ?_ | refine fun (K' : K3) hK' => ?_ | (refine hK' _ _ _ ?_; clear hK' K') | refine CallK.val (R := [(0, some 0), (1, some 2)]) k7 (by kernel_rfl) rfl (by simp [V.wf, A.wf, C.wf, V.i]) ⟨roE_f (flat_c _) (l := 0) rfl (by omega) rfl (.inr rfl), roE_s (sim_b _) (l := 2) rfl (by omega) rfl (.inl rfl), trivial⟩ rfl rfl (by simp [V.wf, A.wf, C.wf]) ?_ | refine br_bf (Eq.refl false) ?_)
        have hnt : ∀ k, k < bl.length → ((bl.take k).map not).map C.bool ++ [C.bool (!bl.getD k false)] = ((bl.take (k + 1)).map not).map C.bool := fun k hk' => by
          have e : bl[k]?.toList = [bl.getD k false] := by rw [List.getElem?_eq_getElem hk', List.getD_eq_getElem?_getD, List.getElem?_eq_getElem hk']; rfl
          rw [List.take_add_one, e, List.map_append, List.map_append]; rfl
        have hng : isLd n qs (bl.map not) = true := isLd_neg hk (fun j hj => getD_not (by omega)) hi1
        have k8 := isLoading_spec n qs hk (bl.map not) (by rw [List.length_map]; exact he)
        rw [hng, List.length_map] at k8
        have hbm : (bl.map C.bool).length = bl.length := List.length_map _
        refine Tri.loop (γ := Nat) (fun k => k ≤ bl.length) (fun k => [(4, V.c (.ptr 3 0)), (38, V.c (.sl 5 k)), (292, V.c (.sl 2 bl.length)), (293, V.i bl.length), (294, V.i (k : Nat))])
          (fun k => [⟨5, .vec 4 1, ((bl.take k).map not).map C.bool⟩, ⟨3, .own 24, [C.i (n : Nat), .sl 0 (castP qs).length]⟩, ⟨0, .ro 2, cellC (castP qs)⟩, ⟨2, .ro 0, bl.map C.bool⟩]) 6 (fun k => bl.length - k) 0 (R0 := [(5, none)]) ?_ ?_ ?_
        · omega
        · skip
          refine ⟨?_, ?_, rfl, rfl, by exact Nat.le_of_ble_eq_true rfl⟩
          · repeat (first | exact trivial | (refine And.intro (covS_syn (by rfl) rfl (by first | exact trivial | exact Nat.le_of_ble_eq_true rfl)) ?_))
          · repeat (first | exact trivial | refine And.intro (covE_s (sim_c _) rfl (Nat.le_of_ble_eq_true rfl) rfl rfl) ?_ | refine And.intro (covE_nil rfl (Nat.le_of_ble_eq_true rfl) rfl rfl) ?_ | (refine And.intro (covE_some rfl (Nat.le_of_ble_eq_true rfl) (by first | exact wf_bools _ _ | first | exact wf_us _ _ | exact wf_cells _ _ | exact wf_bools _ _ | (simp [C.wf]; done)) rfl (by first | exact ren_bools _ _ | rfl)) ?_))
        · intro k hkk
          refine vc_ok tok ?_
          by_cases hlt : k < bl.length
          · exfalso; omega
          · obtain rfl : k = bl.length := by omega
            rw [List.take_length]
            repeat ((conv => whnf); first | refine Exists.intro _ (And.intro rfl ?_) | refine br_t (by omega) ?_ | refine br_f (by omega) ?_ | refine fun (K' : K3) hK' => ?_ | (refine hK' _ _ _ ?_; clear hK' K') | refine CallK.val (R := [(0, some 0), (1, some 5)]) k8 (by kernel_rfl) rfl (by simp [V.wf, A.wf, C.wf, V.i]) ⟨roE_f (flat_c _) (l := 0) rfl (by omega) rfl (.inr rfl), roE_s (sim_b _) (l := 5) rfl (by omega) rfl (.inl rfl), trivial⟩ rfl rfl (by simp [V.wf, A.wf, C.wf]) ?_ | refine awake_k ?_ | refine br_bt (Eq.refl true) ?_ | refine CallK.m ?_)
            intro ρ; rfl
    · have hro : rightO n qs l = V.tup [A.c (.bool true), A.c (C.i 0)] := by unfold rightO; rw [hf, hr]; rfl
      rw [hro] at k3
      have k4 := Clears_ok n qs l hk (by omega) hf hr
      have k5 := rIsLoading_spec n qs hk (clrL qs l) (clrL_len qs l)
      rw [clears_right hk hr, clrL_len] at k5
      repeat ((conv => whnf); first | refine Exists.intro _ (And.intro rfl ?_) | refine br_t (by omega) ?_ | refine bs_f (by omega) ?_ | refine fun (K' : K3) hK' => ?_ | (refine hK' _ _ _ ?_; clear hK' K') | refine CallK.val (R := []) k3 (by kernel_rfl) rfl (by simp [V.wf, A.wf, C.wf, V.i]) ⟨roE_f (flat_c _) (l := 0) rfl (by omega) rfl (.inr rfl), roE_f (flat_i _) (l := 1) rfl (by omega) rfl (.inl rfl), trivial⟩ rfl rfl (by simp [V.wf, A.wf, C.wf]) ?_ | refine CallK.optE (R := []) (sim_b _) k4 (by kernel_rfl) rfl (by simp [V.wf, A.wf, C.wf, V.i]) ⟨roE_f (flat_c _) (l := 0) rfl (by omega) rfl (.inr rfl), roE_f (flat_i _) (l := 1) rfl (by omega) rfl (.inl rfl), trivial⟩ rfl ?_ | refine CallK.val (R := [(0, some 0), (1, some 5)]) k5 (by kernel_rfl) rfl (by simp [V.wf, A.wf, C.wf, V.i]) ⟨roE_f (flat_c _) (l := 0) rfl (by omega) rfl (.inr rfl), roE_s (sim_b _) (l := 5) rfl (by omega) rfl (.inl rfl), trivial⟩ rfl rfl (by simp [V.wf, A.wf, C.wf]) ?_ | refine br_bf (Eq.refl false) ?_ | refine CallK.m ?_)
      rcases cases4 with ⟨hne, k7⟩ | ⟨he, hi0, k7⟩ | ⟨he, hi1, k7⟩
      · repeat ((conv => whnf); first | refine br_t (by omega) ?_ | refine bs_t (by omega) ?_ | refine bs_f (by omega) ?_ | refine fun (K' : K3) hK' => ?_ | (refine hK' _ _ _ ?_; clear hK' K') | refine CallK.val (R := [(0, some 0), (1, some 2)]) k7 (by kernel_rfl) rfl (by simp [V.wf, A.wf, C.wf, V.i]) ⟨roE_f (flat_c _) (l := 0) rfl (by omega) rfl (.inr rfl), roE_s (sim_b _) (l := 2) rfl (by omega) rfl (.inl rfl), trivial⟩ rfl rfl (by simp [V.wf, A.wf, C.wf]) ?_ | refine awake_k ?_ | refine CallK.m ?_)
        intro ρ; rfl
      · repeat ((conv => whnf); first | refine bs_t (by omega) ?_ | refine bs_f (by omega) ?_ | refine fun (K' : K3) hK' => ?_ | (refine hK' _ _ _ ?_; clear hK' K') | refine CallK.val (R := [(0, some 0), (1, some 2)]) k7 (by kernel_rfl) rfl (by simp [V.wf, A.wf, C.wf, V.i]) ⟨roE_f (flat_c _) (l := 0) rfl (by omega) rfl (.inr rfl), roE_s (sim_b _) (l := 2) rfl (by omega) rfl (.inl rfl), trivial⟩ rfl rfl (by simp [V.wf, A.wf, C.wf]) ?_ | refine awake_k ?_ | refine br_bt (Eq.refl true) ?_ | refine CallK.m ?_)
        intro ρ; rfl
      · repeat ((conv => whnf); first | refine bs_f (by omega) ?_ | refine fun (K' : K3) hK' => ?_ | (refine hK' _ _ _ ?_; clear hK' K') | refine CallK.val (R := [(0, some 0), (1, some 2)]) k7 (by kernel_rfl) rfl (by simp [V.wf, A.wf, C.wf, V.i]) ⟨roE_f (flat_c _) (l := 0) rfl (by omega) rfl (.inr rfl), roE_s (sim_b _) (l := 2) rfl (by omega) rfl (.inl rfl), trivial⟩ rfl rfl (by simp [V.wf, A.wf, C.wf]) ?_ | refine br_bf (Eq.refl false) ?_)
        have hnt : ∀ k, k < bl.length → ((bl.take k).map not).map C.bool ++ [C.bool (!bl.getD k false)] = ((bl.take (k + 1)).map not).map C.bool := fun k hk' => by
          have e : bl[k]?.toList = [bl.getD k false] := by rw [List.getElem?_eq_getElem hk', List.getD_eq_getElem?_getD, List.getElem?_eq_getElem hk']; rfl
          rw [List.take_add_one, e, List.map_append, List.map_append]; rfl
        have hng : isLd n qs (bl.map not) = true := isLd_neg hk (fun j hj => getD_not (by omega)) hi1
        have k8 := isLoading_spec n qs hk (bl.map not) (by rw [List.length_map]; exact he)
        rw [hng, List.length_map] at k8
        have hbm : (bl.map C.bool).length = bl.length := List.length_map _
        refine Tri.loop (γ := Nat) (fun k => k ≤ bl.length) (fun k => [(4, V.c (.ptr 3 0)), (38, V.c (.sl 6 k)), (292, V.c (.sl 2 bl.length)), (293, V.i bl.length), (294, V.i (k : Nat))])
          (fun k => [⟨6, .vec 4 1, ((bl.take k).map not).map C.bool⟩, ⟨3, .own 24, [C.i (n : Nat), .sl 0 (castP qs).length]⟩, ⟨0, .ro 2, cellC (castP qs)⟩, ⟨2, .ro 0, bl.map C.bool⟩]) 7 (fun k => bl.length - k) 0 (R0 := [(6, none)]) ?_ ?_ ?_
        · omega
        · skip
          refine ⟨?_, ?_, rfl, rfl, by exact Nat.le_of_ble_eq_true rfl⟩
          · repeat (first | exact trivial | (refine And.intro (covS_syn (by rfl) rfl (by first | exact trivial | exact Nat.le_of_ble_eq_true rfl)) ?_))
          · repeat (first | exact trivial | refine And.intro (covE_s (sim_c _) rfl (Nat.le_of_ble_eq_true rfl) rfl rfl) ?_ | refine And.intro (covE_nil rfl (Nat.le_of_ble_eq_true rfl) rfl rfl) ?_ | (refine And.intro (covE_some rfl (Nat.le_of_ble_eq_true rfl) (by first | exact wf_bools _ _ | first | exact wf_us _ _ | exact wf_cells _ _ | exact wf_bools _ _ | (simp [C.wf]; done)) rfl (by first | exact ren_bools _ _ | rfl)) ?_))
        · intro k hkk
          refine vc_ok tok ?_
          by_cases hlt : k < bl.length
          · exfalso; omega
          · obtain rfl : k = bl.length := by omega
            rw [List.take_length]
            repeat ((conv => whnf); first | refine Exists.intro _ (And.intro rfl ?_) | refine br_t (by omega) ?_ | refine br_f (by omega) ?_ | refine fun (K' : K3) hK' => ?_ | (refine hK' _ _ _ ?_; clear hK' K') | refine CallK.val (R := [(0, some 0), (1, some 6)]) k8 (by kernel_rfl) rfl (by simp [V.wf, A.wf, C.wf, V.i]) ⟨roE_f (flat_c _) (l := 0) rfl (by omega) rfl (.inr rfl), roE_s (sim_b _) (l := 6) rfl (by omega) rfl (.inl rfl), trivial⟩ rfl rfl (by simp [V.wf, A.wf, C.wf]) ?_ | refine awake_k ?_ | refine br_bt (Eq.refl true) ?_ | refine CallK.m ?_)
            intro ρ; rfl
end
theorem top_any (N x : Int) (ps : List Cell) (l : List Int) (bl : List Bool) (ao bo co : Option Addr) (c d f : Nat) (w : World) (h : CellsAt w ao c ps) (hb : IntsAt w bo l) (hc : BoolsAt w co bl) (hx : 0 ≤ x ∧ x ≤ 255) (hF : Fct w.heap.size w) :
    Calls Tryd.prog 4 #[.agg #[.int .i64 N, .slice ao ps.length c], .slice bo l.length d, .slice co bl.length f, .int .u8 x] w fun e w' => e = .returned (.bool true) ∧ Below w.heap.size w w' := by
  by_cases hl : (ps.length : Int) > 60 ∨ (l.length : Int) > 60 ∨ (bl.length : Int) > 60
  · exact isTrue_any (vs := [kV N ps, V.c (.sl 1 l.length), V.c (.sl 2 bl.length), V.c (.int .u8 x)]) (top_long N x ps l bl h.2.2 hb.2 hc.2 hl) (hp_kib (d := d) (f := f) h hb hc hF) (by simp [V.wf, A.wf, C.wf]) rfl
  · have h1 : ¬ (ps.length : Int) > 60 := fun h => hl (.inl h)
    have h2 : ¬ (l.length : Int) > 60 := fun h => hl (.inr (.inl h))
    have h3 : ¬ (bl.length : Int) > 60 := fun h => hl (.inr (.inr h))
    cases hv : okK' N ps with
    | false => exact isTrue_any (vs := [kV N ps, V.c (.sl 1 l.length), V.c (.sl 2 bl.length), V.c (.int .u8 x)]) (top_no N x ps l bl h1 h2 h3 hv) (hp_kib (d := d) (f := f) h hb hc hF) (by simp [V.wf, A.wf, C.wf]) rfl
    | true =>
      obtain ⟨n, qs, rfl, rfl, hk⟩ := knd_of hv
      exact isTrue_any (vs := [kV n (castP qs), V.c (.sl 1 l.length), V.c (.sl 2 bl.length), V.c (.int .u8 x)]) (top_yes n x qs l bl hk hx h2 h3) (hp_kib (d := d) (f := f) h hb hc hF) (by simp [V.wf, A.wf, C.wf]) rfl
end Go.Proofs.YtijnimgmpocmaaaDoor

/- Waste: what the listed variables give; a start that meets the condition. -/
namespace Go.Proofs.YtijnimgmpocmaaaDoor
open Go.RowKit
set_option linter.unusedVariables false
set_option linter.unusedSimpArgs false
open Go.ChangeShapes Go.WideShapes Go.ChangeAt Go.RowKit Go.Deep Go.Joins
abbrev laidV : List (String × DataW Unit) := [("math/bits.deBruijn32tab", Rows.laid_math_bits_deBruijn32tab), ("math/bits.deBruijn64tab", Rows.laid_math_bits_deBruijn64tab)]
theorem gTab : Tryd.prog.globalNamed "math/bits.deBruijn64tab" = some 1 := by kernel_rfl
theorem tTab : (Tryd.prog.globals[1]?).map (·.type) = some 120 := by kernel_rfl
theorem tabDat : (Rows.laid_math_bits_deBruijn64tab (H := Unit)) = .agg (Lib.deBruijn64tab.map fun n : Nat => .lit (.int .u8 n)) := rfl
set_option maxRecDepth 10000 in
theorem fct_of_laid {W : World} (h : laidMetH Tryd.prog laidV W) : Fct W.heap.size W := by
  have h' : laidMet Tryd.prog laidV W := h
  obtain ⟨ps, ⟨_, _, _, _, _, _, _, _, _, _, ⟨g, t, cs, fuel, p, q, hg, ht, hv, hd, _⟩, _⟩, _⟩ := h'
  obtain rfl := Option.some.inj (gTab.symm.trans hg)
  obtain rfl := Option.some.inj (tTab.symm.trans ht)
  rw [tabDat] at hd
  obtain ⟨xs, m, _, hx, hl, hxl, hgo⟩ := DataW.trod_array Tryd.underlying120 hd
  have hc1 : Tryd.prog.cellsOf 5 = 1 := by kernel_rfl
  have hc64 : Tryd.prog.cellsOf 120 = 64 := by kernel_rfl
  rw [hc64] at hl
  have hcell : ∀ j, j < Lib.deBruijn64tab.length → W.cell? ⟨1, j, none⟩ = some (.int .u8 (Lib.deBruijn64tab.getD j 0)) := by
    intro j hj
    have hj64 : j < 64 := hj
    have h3 := hgo j hj64
    rw [hc1, Nat.mul_one] at h3
    obtain ⟨y, hy⟩ : ∃ y, xs[j]? = some y := ⟨xs[j]'(by omega), List.getElem?_eq_getElem _⟩
    rw [hy] at h3
    obtain ⟨u, hu⟩ : ∃ u, cs.toList[j]? = some u := ⟨cs.toList[j]'(by omega), List.getElem?_eq_getElem _⟩
    have e1 : (cs.toList.drop j).take 1 = [u] := by
      rw [List.take_one, List.head?_drop, hu]; rfl
    rw [e1] at h3
    obtain ⟨z, e0, e2, _⟩ := DataW.trod_int Tryd.underlying5 h3
    have e0 : u = .int .u8 z := by simpa using e0
    have hxm : xs.map (·.1) = Lib.deBruijn64tab.map fun n : Nat => (DataW.lit (.int .u8 n) : DataW Unit) := by
      have := congrArg Prod.fst hx
      simp only [DataW.agg.injEq] at this
      exact this.symm
    have hym : (xs.map (·.1))[j]? = some y.1 := by rw [List.getElem?_map, hy]; rfl
    rw [hxm, List.getElem?_map] at hym
    have hz : (DataW.lit (.int .u8 (Lib.deBruijn64tab.getD j 0 : Nat)) : DataW Unit) = y.1 := by
      rw [List.getElem?_eq_getElem hj] at hym
      simp only [Option.map_some, Option.some.injEq] at hym
      rw [← hym, List.getD_eq_getElem?_getD, List.getElem?_eq_getElem hj]; rfl
    have hzz : (Lib.deBruijn64tab.getD j 0 : Int) = z := by
      rw [e2] at hz
      simpa using hz
    have hw := World.var?_cell gTab hv j
    rw [hw]
    have : cs[j]? = some u := by rw [← Array.getElem?_toList]; exact hu
    rw [this, e0, hzz]
  have h0 := hcell 0 (by decide)
  have hlt := World.block_lt_of_cell? _ _ h0
  refine ⟨hlt, ?_⟩
  have h1 := h0
  unfold World.cell? at h1
  cases hb : W.heap[1]? with
  | none => simp [hb] at h1
  | some o =>
    cases o with
    | cells c t fr => exact ⟨c, t, fr, rfl, hcell⟩
    | _ => simp [hb] at h1
theorem door_met (os : Os) (args : Array Value) : laidMetH Tryd.prog laidV ((World.doorLaid Tryd.prog 19 os).forCall (fun _ _ => 0) ⟨#[], args, []⟩).memory :=
  laidMetH_of_parts3 (fuel := 8) (laidMet_of_run' 8 (by kernel_rfl) (by kernel_rfl)) (by kernel_rfl) (by kernel_rfl)
end Go.Proofs.YtijnimgmpocmaaaDoor

