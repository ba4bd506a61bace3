/- Texts of the proof, part 5: T35, T31, M3, T36, T37, T40, T43, T51, T26, T27, T38, T41, T42. -/
import Derived.Test.YtnafllhgjidbkaaX4
import Derived.WalkKit
import Derived.Below
import Derived.Laws.OwnMore
import Derived.Maps.AppendAt
import Derived.Laws.IdiomCopy
import Derived.Laws.CopyRow
import Derived.IntWalk
import Derived.StillTail
import Derived.Scope
import Derived.Test.YtnafllhgjidbkaaRows
import Derived.KernelRfl
import Derived.WalkSpells
import Derived.WalkLawsBesides
import Derived.Deep.QuietTactic
import Derived.BigQuiet
import Derived.Lib.Hide
import Derived.OwnWalk
import Derived.RangeFuncNested
import Derived.RangeFuncBound
import Derived.RangeFuncCalls
import Derived.RangeFuncLeaves
import Derived.RangeFuncBox
import Derived.Shelf.Abstract
import Derived.Shelf.RegionOpen
import Derived.OwnWalkIn
import Derived.TacticsInMore
import Derived.LoopNIn
import Derived.LoopIn
import Derived.Sort.QuietIn
import Derived.StillTailTactics
import Derived.OrdersIn
import Derived.Deep.RegionHeld3
import Derived.Deep.Cut
import Derived.Deep.AppendLies
/- The walk of before. -/
namespace Go.Proofs.Ytnafllhgjidbkaa
open Go.RowKit Go.Shelf
set_option linter.unusedVariables false
set_option linter.unusedSimpArgs false
attribute [local go_sem] Oper.semAt_some
/-- What the blocks hold: the prices now. -/
theorem own_open_cap {w : World} {base : Nat} {v : Value} {l : List Int} (h : w.ownsRow base 3 1 v l.length (l.map (Value.int .i64))) (h0 : 0 < l.length) :
    ∃ g c rest, v = .slice (some ⟨g, 0, none⟩) l.length c ∧ base ≤ g ∧ w.heap[g]? = some (.cells (l.map (Value.int .i64) ++ rest).toArray 3 (0, 0)) ∧ l.length ≤ c := by
  obtain ⟨h1, ⟨rfl, h2⟩ | ⟨g, cap, cur, rfl, hb, hh, hn, hm, hs, ht⟩⟩ := h
  · omega
  · refine ⟨g, cap, cur.toList.drop l.length, rfl, hb, ?_, by omega⟩
    rw [hh, ← ht]
    simp
def BefW (w : World) (bn bl N : Nat) (bv : Array Value) (now : List Int) (wr : World) : Prop :=
  ∃ gn cn rest, Below w.heap.size w wr ∧ wr.heap[w.heap.size]? = some (.cells bv 25 (0, 0)) ∧ wr.heap[bn]? = some (.cells #[.slice (some ⟨gn, 0, none⟩) (N + 1) cn] 26 (0, 0)) ∧ wr.heap[bl]? = some (.cells #[.int .i64 N] 3 (0, 0)) ∧
  wr.heap[gn]? = some (.cells (now.map (Value.int .i64) ++ rest).toArray 3 (0, 0)) ∧ w.heap.size ≤ gn ∧ N + 1 ≤ cn
def BefO (w : World) (bn bl N n : Nat) (bv : Array Value) (B : Bay) (l : List Int) (a : Act) (wr : World) : Prop :=
  ∃ (k : Nat) (kk : Int) (ds : List Deferred) (u0 u1 u2 u4 u5 u6 u9 u10 u11 u12 u13 u14 u15 u16 u17 u20 u21 u22 u23 u24 u25 u26 u27 u28 u29 u30 u31 u32 u33 u34 u35 u36 u37 u38 u39 u40 u41 u42 u43 u44 u45 u46 u47 u48 u49 u50 u51 u52 u53 u54 u55 u56 u57 u58 u59 u60 u61 : Value), kk = k ∧ k ≤ n ∧ a = { tmps := List.toArray (u0 :: u1 :: u2 :: (.pointer (some ⟨w.heap.size, 0, none⟩)) :: u4 :: u5 :: u6 :: (.pointer (some ⟨bn, 0, none⟩)) :: (.pointer (some ⟨bl, 0, none⟩)) :: u9 :: u10 :: u11 :: u12 :: u13 :: u14 :: u15 :: u16 :: u17 :: (.int .i64 n) :: (.int .i64 kk) :: u20 :: u21 :: u22 :: u23 :: u24 :: u25 :: u26 :: u27 :: u28 :: u29 :: u30 :: u31 :: u32 :: u33 :: u34 :: u35 :: u36 :: u37 :: u38 :: u39 :: u40 :: u41 :: u42 :: u43 :: u44 :: u45 :: u46 :: u47 :: u48 :: u49 :: u50 :: u51 :: u52 :: u53 :: u54 :: u55 :: u56 :: u57 :: u58 :: u59 :: u60 :: u61 :: []), defers := ds } ∧ BefW w bn bl N bv (bN B l k) wr ∧ Marks w.heap.size wr ds
def BefI (w : World) (bn bl bx gx N n : Nat) (kk : Int) (gn cn : Nat) (rest : List Value) (bv : Array Value) (B : Bay) (now : List Int) (a : Act) (wr : World) : Prop :=
  ∃ (j : Nat) (jj : Int) (ds : List Deferred) (u0 u1 u2 u4 u5 u6 u10 u11 u12 u13 u14 u15 u16 u17 u20 u21 u22 u23 u24 u25 u26 u27 u28 u29 u30 u31 u34 u35 u36 u37 u38 u39 u40 u41 u42 u43 u44 u45 u46 u47 u48 u49 u50 u51 u52 u53 u54 u55 u56 u57 u58 u59 u60 u61 : Value), jj = j ∧ j ≤ N ∧ a = { tmps := List.toArray (u0 :: u1 :: u2 :: (.pointer (some ⟨w.heap.size, 0, none⟩)) :: u4 :: u5 :: u6 :: (.pointer (some ⟨bn, 0, none⟩)) :: (.pointer (some ⟨bl, 0, none⟩)) :: (.pointer (some ⟨bx, 0, none⟩)) :: u10 :: u11 :: u12 :: u13 :: u14 :: u15 :: u16 :: u17 :: (.int .i64 n) :: (.int .i64 kk) :: u20 :: u21 :: u22 :: u23 :: u24 :: u25 :: u26 :: u27 :: u28 :: u29 :: u30 :: u31 :: (.int .i64 N) :: (.int .i64 jj) :: u34 :: u35 :: u36 :: u37 :: u38 :: u39 :: u40 :: u41 :: u42 :: u43 :: u44 :: u45 :: u46 :: u47 :: u48 :: u49 :: u50 :: u51 :: u52 :: u53 :: u54 :: u55 :: u56 :: u57 :: u58 :: u59 :: u60 :: u61 :: []), defers := ds } ∧
    (Below w.heap.size w wr ∧ wr.heap[w.heap.size]? = some (.cells bv 25 (0, 0)) ∧ wr.heap[bn]? = some (.cells #[.slice (some ⟨gn, 0, none⟩) (N + 1) cn] 26 (0, 0)) ∧ wr.heap[bl]? = some (.cells #[.int .i64 N] 3 (0, 0)) ∧
      wr.heap[gn]? = some (.cells (now.map (Value.int .i64) ++ rest).toArray 3 (0, 0)) ∧ wr.heap[bx]? = some (.cells #[.slice (some ⟨gx, 0, none⟩) (N + 1) (N + 1)] 26 (0, 0)) ∧ wr.heap[gx]? = some (.cells ((bUp B now j).map (Value.int .i64)).toArray 3 (0, 0))) ∧ Marks w.heap.size wr ds

set_option maxRecDepth 100000 in
set_option maxHeartbeats 10000000 in
theorem before_cap (v : Value) (B : Bay) (po : Option Addr) (pc : Nat) (l : List Int) (N n : Nat) (w : World) (hv : BayAt w v B) (hp : IntsAt w po l) (hval : validP B) (hlen : l.length = N + 1) (hN : N = B.Share.length) (hn : n ≤ 5) (hb : ∀ j, 0 ≤ l.getD j 0 ∧ l.getD j 0 ≤ 1000) :
    Calls Try.prog 79 #[v, .slice po (N + 1) pc, .int .i64 n] w fun e w' => ∃ ao c, e = .returned (.slice ao (N + 1) c) ∧ IntsAt w' ao (bN B l n) ∧ (∀ a, ao = some a → w.heap.size ≤ a.block) ∧ Below w.heap.size w w' ∧ N + 1 ≤ c := by
  have HV0 := Lib.hid hv
  have HV := Lib.hid (fun W (h : Below w.heap.size w W) => hv.below (Nat.le_refl _) h)
  have HP := Lib.hid (fun W (h : Below w.heap.size w W) => hp.below (Nat.le_refl _) h)
  have h36 : 1 ≤ N ∧ N ≤ 36 := by have := mul36 hval.1.1 hval.1.2 hval.2.1.1 hval.2.1.2; have := hval.2.2.2.1; omega
  obtain ⟨la, lc, sa, sc, rfl, hl, hsh, hll, hsl⟩ := hv
  have HBD := Lib.hid (bN_bd (l := l) hval (by omega) hb)
  have HLN := Lib.hid (fun k => (bN_len B l k).trans hlen)
  have HVAL := Lib.hid hval
  have HLEN := Lib.hid hlen
  have HNS := Lib.hid hN
  clear hval hlen hN
  clear hl hsh hp hb
  have FF := Lib.hid (one_new (w := w) #[.int .i64 B.W, .int .i64 B.H, .slice la B.Land.length lc, .slice sa B.Share.length sc] 25)
  refine calls_of_wp_marks Try.func79 rfl ?_
  simp only [Try.ntmps79, List.size_toArray, List.length_cons, List.length_nil, Nat.reduceAdd, Nat.reduceSub, Array.replicate_succ, Array.replicate_zero, List.push_toArray, List.append_toArray, List.nil_append, List.cons_append]
  go_wp2_with fail
  generalize hW : (w.alloc _) = W at *
  clear hW
  obtain ⟨f0, f1, f2⟩ := FF.out
  clear FF
  obtain ⟨x0, hx0⟩ : ∃ x : Aft W, x.val = W := ⟨⟨W, Below.refl _ W⟩, rfl⟩
  have F0 : Hid (Below w.heap.size w W) := f0
  have FZ : Hid (W.heap.size = w.heap.size + 1) := f1
  have FZ0 := Lib.hid (show x0.val.heap.size = w.heap.size + 1 by rw [hx0]; exact f1)
  have G0 : Hid (W.heap[w.heap.size]? = some (.cells #[.int .i64 B.W, .int .i64 B.H, .slice la B.Land.length lc, .slice sa B.Share.length sc] 25 (0, 0))) := f2
  have d0_0 : ∀ x : Aft W, x.val.cell? ⟨w.heap.size, 0, none⟩ = some (.int .i64 B.W) := fun x => cell_of_heap (x.heapH f2) 0
  have d0_1 : ∀ x : Aft W, x.val.cell? ⟨w.heap.size, 1, none⟩ = some (.int .i64 B.H) := fun x => cell_of_heap (x.heapH f2) 1
  have d0_2 : ∀ x : Aft W, x.val.cell? ⟨w.heap.size, 2, none⟩ = some (.slice la B.Land.length lc) := fun x => cell_of_heap (x.heapH f2) 2
  have d0_3 : ∀ x : Aft W, x.val.cell? ⟨w.heap.size, 3, none⟩ = some (.slice sa B.Share.length sc) := fun x => cell_of_heap (x.heapH f2) 3
  rw [← hx0]
  clear hx0 f0 f1 f2
  have hcl := clone_any po pc l x0.val (HP.out _ (Aft.off F0.out x0)) (by have := HLEN.out; omega)
  rw [HLEN.out] at hcl
  refine hcl.mono ?_
  rintro e w1 ⟨rv, rfl, hown, hb⟩
  obtain ⟨x1, rfl, lk0'⟩ := x0.step hb
  obtain ⟨g, c1, rest1, rfl, hg, hG, hc1⟩ := own_open_cap (l := l) (by rw [HLEN.out]; exact hown) (by have := HLEN.out; omega)
  have HC1 : Hid (N + 1 ≤ c1) := by have := HLEN.out; unfold Hid; omega
  rw [HLEN.out]
  have lk0 := Lib.hid lk0'
  have HG1 := Lib.hid hG
  clear hown hb lk0' hcl hG hc1
  go_wp2_with fail
  obtain ⟨q0, q1, q2, q3⟩ := two_new (w := x1.val) #[.slice (some ⟨g, 0, none⟩) (N + 1) c1] #[.int .i64 N] 26 3
  have hW0 : Hid (BefW w x1.val.heap.size (x1.val.heap.size + 1) N #[.int .i64 B.W, .int .i64 B.H, .slice la B.Land.length lc, .slice sa B.Share.length sc] l ((x1.val.alloc (.cells #[.slice (some ⟨g, 0, none⟩) (N + 1) c1] 26)).alloc (.cells #[.int .i64 N] 3))) := by
    refine ⟨g, c1, rest1, (Aft.off F0.out x1).trans (q0.mono (Aft.off F0.out x1).size), ?_, q2, q3, ?_, ?_⟩
    · exact heap_alloc_old (heap_alloc_old (x1.heapH G0.out) _) _
    · exact heap_alloc_old (heap_alloc_old HG1.out _) _
    · exact ⟨by have := FZ0.out; omega, HC1.out⟩
  have hbn : w.heap.size + 1 ≤ x1.val.heap.size := by have := x1.size_le; have := FZ.out; omega
  clear q0 q1 q2 q3
  generalize (x1.val.alloc (.cells #[.slice (some ⟨g, 0, none⟩) (N + 1) c1] 26)).alloc (.cells #[.int .i64 N] 3) = W2 at *
  obtain ⟨bn, hbne⟩ : ∃ bn, bn = x1.val.heap.size := ⟨_, rfl⟩
  rw [← hbne] at hW0 hbn ⊢
  obtain ⟨bl, hble⟩ : ∃ bl, bl = bn + 1 := ⟨_, rfl⟩
  rw [← hble] at hW0 ⊢
  have hbl : w.heap.size + 1 ≤ bl ∧ bl ≠ bn := by omega
  clear hbne hble hg HG1 lk0 d0_0 d0_1 d0_2 d0_3 G0 FZ FZ0
  refine wp_loop (BefO w bn bl N n #[.int .i64 B.W, .int .i64 B.H, .slice la B.Land.length lc, .slice sa B.Share.length sc] B l) (fun a _ => n - (intOf (a.tmps.getD 19 undef)).toNat) ⟨0, _, [], _, _, _, _, _, _, _, _, _, _, _, _, _, _, _, _, _, _, _, _, _, _, _, _, _, _, _, _, _, _, _, _, _, _, _, _, _, _, _, _, _, _, _, _, _, _, _, _, _, _, _, _, _, _, _, _, _, rfl, Nat.zero_le _, rfl, hW0.out, trivial⟩ ?_
  clear hW0
  rintro _ wr ⟨k, _, ds, u0, u1, u2, u4, u5, u6, u9, u10, u11, u12, u13, u14, u15, u16, u17, u20, u21, u22, u23, u24, u25, u26, u27, u28, u29, u30, u31, u32, u33, u34, u35, u36, u37, u38, u39, u40, u41, u42, u43, u44, u45, u46, u47, u48, u49, u50, u51, u52, u53, u54, u55, u56, u57, u58, u59, u60, u61, rfl, hk, rfl, ⟨gn, cn, rest, hb, g0, gb, gl, gg, hgw, hgc⟩, hm⟩
  by_cases hlt : k < n
  · have hnow := HLN.out k
    obtain ⟨M, hbd, hM0, hM1⟩ : ∃ M : Int, (∀ j, 0 ≤ (bN B l k).getD j 0 ∧ (bN B l k).getD j 0 ≤ M) ∧ 0 ≤ M ∧ M ≤ 3276800000000 := ⟨_, HBD.out k, by have := pow80 (n := k) (by omega); omega, by have := pow80 (n := k) (by omega); omega⟩
    have HST : Hid (bN B l (k + 1) = bOne B (bN B l k)) := rfl
    generalize bN B l k = now at *
    have hlast := hbd N
    have c0 := cell_of_heap gb 0
    have c1 := cell_of_heap gl 0
    simp at c0 c1
    have lb := heap_lt gb
    have ll := heap_lt gl
    have l0 := heap_lt g0
    have hmk : ∀ W : World, (Instr.makeSlice 26 (.int .i64 ((N : Int) + 1)) (.int .i64 ((N : Int) + 1))).run Try.prog W = .ok (.slice (some ⟨W.heap.size, 0, none⟩) (N + 1) (N + 1)) (W.alloc (.cells (zeros (N + 1)) 3)) := fun W => make26 (N + 1) (by omega) W
    go_wp2_with fail
    clear hmk c0 c1
    obtain ⟨q0, q1, q2, q3⟩ := two_new (w := wr) (zeros (N + 1)) #[.slice (some ⟨wr.heap.size, 0, none⟩) (N + 1) (N + 1)] 3 26
    generalize (wr.alloc (.cells (zeros (N + 1)) 3)).alloc (.cells #[.slice (some ⟨wr.heap.size, 0, none⟩) (N + 1) (N + 1)] 26) = W3 at *
    have r0 : Below wr.heap.size wr W3.drew := q0.drew
    have r1 : W3.drew.heap.size = wr.heap.size + 2 := q1
    have r2 : W3.drew.heap[wr.heap.size]? = _ := q2
    have r3 : W3.drew.heap[wr.heap.size + 1]? = _ := q3
    refine wp_region_stillD 8 (by kernel_rfl) (by kernel_rfl) ?_
    clear q0 q1 q2 q3
    generalize W3.drew = W4 at *
    have s0 := (r0.block _ l0).trans g0
    have sb := (r0.block _ lb).trans gb
    have sl := (r0.block _ ll).trans gl
    have sg := (r0.block _ (heap_lt gg)).trans gg
    have lg := heap_lt gg
    have c0 := cell_of_heap sb 0
    have c1 := cell_of_heap sl 0
    have c2 := cell_of_heap r3 0
    simp at c0 c1 c2
    have c3 := row_get sg (k := N) (by omega)
    have c4 : W4.cell? ⟨wr.heap.size, N, none⟩ = some (.int .i64 0) := by rw [cell_of_heap r2 N]; simp [zeros]
    have c5 := free_of_heap r2 N
    have hbu : Hid (bUp B now 0 = (List.replicate (N + 1) 0).set N (16 * now.getD N 0)) := by unfold Hid bUp; rw [hnow]; rfl
    have HNOW := Lib.hid hnow
    have HBDN := Lib.hid hbd
    clear hnow hbd
    generalize hpn : now.getD N 0 = pn at *
    have HPN := Lib.hid hpn
    have hNN : (N : Int) < (N : Int) + 1 := by omega
    have hw1 : Hid (IntKind.i64.wrap (16 * pn) = 16 * pn) := IntWalk.i64_in _ (by omega)
    have R0 := Lib.hid r0
    have HB := Lib.hid hb
    have HM := Lib.hid hm
    have R2 := Lib.hid r2
    have R3 := Lib.hid r3
    have S0 := Lib.hid s0
    have SB := Lib.hid sb
    have SL := Lib.hid sl
    have SG := Lib.hid sg
    have hgx : w.heap.size ≤ wr.heap.size := hb.size
    have R1 := Lib.hid r1
    clear hpn r0 r1 r2 r3 s0 sb sl sg hb hm g0 gb gl gg
    simp only [List.take_succ_cons, List.take_zero, List.drop_succ_cons, List.drop_zero]
    repeat still_step
    refine wpStill_nil ?_
    rw [hw1.out]
    go_wp2_with fail
    have hII : Hid (Below w.heap.size w (W4.setCell ⟨wr.heap.size, N, none⟩ (.int .i64 (16 * pn))) ∧ (W4.setCell ⟨wr.heap.size, N, none⟩ (.int .i64 (16 * pn))).heap[w.heap.size]? = some (.cells #[.int .i64 B.W, .int .i64 B.H, .slice la B.Land.length lc, .slice sa B.Share.length sc] 25 (0, 0)) ∧ (W4.setCell ⟨wr.heap.size, N, none⟩ (.int .i64 (16 * pn))).heap[bn]? = some (.cells #[.slice (some ⟨gn, 0, none⟩) (N + 1) cn] 26 (0, 0)) ∧
        (W4.setCell ⟨wr.heap.size, N, none⟩ (.int .i64 (16 * pn))).heap[bl]? = some (.cells #[.int .i64 N] 3 (0, 0)) ∧ (W4.setCell ⟨wr.heap.size, N, none⟩ (.int .i64 (16 * pn))).heap[gn]? = some (.cells (now.map (Value.int .i64) ++ rest).toArray 3 (0, 0)) ∧
        (W4.setCell ⟨wr.heap.size, N, none⟩ (.int .i64 (16 * pn))).heap[wr.heap.size + 1]? = some (.cells #[.slice (some ⟨wr.heap.size, 0, none⟩) (N + 1) (N + 1)] 26 (0, 0)) ∧ (W4.setCell ⟨wr.heap.size, N, none⟩ (.int .i64 (16 * pn))).heap[wr.heap.size]? = some (.cells ((bUp B now 0).map (Value.int .i64)).toArray 3 (0, 0))) := by
      refine ⟨(HB.out.trans (R0.out.mono hgx)).setCell hgx _, (heap_setCell_other (by show w.heap.size ≠ wr.heap.size; omega) _).trans S0.out, (heap_setCell_other (by show bn ≠ wr.heap.size; omega) _).trans SB.out, (heap_setCell_other (by show bl ≠ wr.heap.size; omega) _).trans SL.out,
        (heap_setCell_other (by show gn ≠ wr.heap.size; omega) _).trans SG.out, (heap_setCell_other (by show wr.heap.size + 1 ≠ wr.heap.size; omega) _).trans R3.out, (heap_setCell_same R2.out _).trans ?_⟩
      rw [hbu.out]
      exact congrArg (fun a => some (Obj.cells a 3 (0, 0))) (by apply Array.toList_inj.1; simp [zeros, List.map_set])
    have HM4 : Hid (Marks w.heap.size (W4.setCell ⟨wr.heap.size, N, none⟩ (.int .i64 (16 * pn))) ds) := HM.out.keep (fun D hD _ => by
      have hlt := heap_lt hD
      rw [heap_setCell_other (by show D ≠ wr.heap.size; omega)]
      exact (R0.out.block D hlt).trans hD)
    obtain ⟨bx, hbxe⟩ : ∃ bx, bx = wr.heap.size + 1 := ⟨_, rfl⟩
    obtain ⟨gx, hgxe⟩ : ∃ gx, gx = wr.heap.size := ⟨_, rfl⟩
    rw [← hbxe] at hII ⊢
    rw [← hgxe] at hII HM4 ⊢
    have hdis : w.heap.size < gx ∧ gx < bx ∧ bn < gx ∧ bl < gx ∧ gn < gx := by omega
    have hWs5 : Hid (bx < (W4.setCell ⟨gx, N, none⟩ (.int .i64 (16 * pn))).heap.size) := heap_lt hII.out.2.2.2.2.2.1
    clear hbxe c0 c1 c2 c3 c4 c5 R0 HB HM R2 R3 S0 SB SL SG R1 lb ll l0 lg hw1 hbu hgxe hgx
    generalize W4.setCell ⟨gx, N, none⟩ (.int .i64 (16 * pn)) = W5 at *
    refine wp_loop (BefI w bn bl bx gx N n k gn cn rest #[.int .i64 B.W, .int .i64 B.H, .slice la B.Land.length lc, .slice sa B.Share.length sc] B now) (fun a _ => N - (intOf (a.tmps.getD 33 undef)).toNat) ⟨0, _, ds, _, _, _, _, _, _, _, _, _, _, _, _, _, _, _, _, _, _, _, _, _, _, _, _, _, _, _, _, _, _, _, _, _, _, _, _, _, _, _, _, _, _, _, _, _, _, _, _, _, _, _, _, _, _, rfl, Nat.zero_le _, rfl, hII.out, HM4.out⟩ ?_
    clear hII HM4 hWs5
    rintro _ wi ⟨j, _, es, u0, u1, u2, u4, u5, u6, u10, u11, u12, u13, u14, u15, u16, u17, u20, u21, u22, u23, u24, u25, u26, u27, u28, u29, u30, u31, u34, u35, u36, u37, u38, u39, u40, u41, u42, u43, u44, u45, u46, u47, u48, u49, u50, u51, u52, u53, u54, u55, u56, u57, u58, u59, u60, u61, rfl, hj, rfl, ⟨hb, g0, gb, gl, gg, gbx, ggx⟩, hm⟩
    by_cases hlj : j < N
    · have hks : j < B.Share.length := by have := HNS.out; omega
      have d0 := cell_of_heap g0 0
      have d1 := cell_of_heap g0 1
      have d2 := cell_of_heap g0 2
      have d3 := cell_of_heap g0 3
      simp at d0 d1 d2 d3
      have hwi : w.heap.size < wi.heap.size := heap_lt g0
      have lbx := heap_lt gbx
      have lgx := heap_lt ggx
      have HG0 := Lib.hid g0
      have HGB := Lib.hid gb
      have HGL := Lib.hid gl
      have HGG := Lib.hid gg
      have HGBX := Lib.hid gbx
      have HGGX := Lib.hid ggx
      have HM := Lib.hid hm
      have HB := Lib.hid hb
      clear g0 gb gl gg gbx ggx hm hb
      go_wp2_with (first | (go_at_call 90; refine (flows_any _ _ _ _ _ _ _ _ _ _).mono ?_; rintro e w1 ⟨rfl, rfl⟩))
      clear d0 d1 d2 d3
      obtain ⟨e3, s1, e0, e1, e2⟩ := three_new (w := wi) #[.int .i64 j] #[.int .i64 B.W, .int .i64 B.H, .slice la B.Land.length lc, .slice sa B.Share.length sc] #[.int .i64 j] 3 25 3
      generalize (((wi.alloc _).alloc _).alloc _) = W1 at *
      have hwb : Below w.heap.size w wi := HB.out
      refine wp_range (gf := 98) (lb := #[.pointer (some ⟨wi.heap.size + 1, 0, none⟩), .pointer (some ⟨wi.heap.size + 1 + 1, 0, none⟩)]) rfl (enters_of Try.func98 (by kernel_rfl) rfl)
        (flows_stops w.heap.size (wi.heap.size + 1) (wi.heap.size + 1 + 1) w B _ j W1 ⟨by omega, _, _, _, _, rfl, (cell_of_heap e1 0), (cell_of_heap e1 1), (cell_of_heap e1 2), (cell_of_heap e1 3)⟩ (by omega) (cell_of_heap e2 0) HV0.out (hwb.trans (e3.mono hwb.size)) rfl HVAL.out hks)
        (fun h k => KeepS.trans h k) (fun W l o hl => KeepS.putObj W l o (by have := hwb.size; rintro (h | rfl | rfl) <;> omega)) (fun _ => rfl)
        (fun pre W => Upto W1.heap.size (fun b => b = gx) W1 W ∧ W.heap[gx]? = some (.cells (((pre.map (·.1)).foldl (bstep now j) (bUp B now j)).map (Value.int .i64)).toArray 3 (0, 0)))
        (fun _ _ _ => False)
        (OwnFrom.and (own_upto (Nat.le_refl _)) (own_cells gx _ _ _))
        (fun _ _ _ _ _ hs _ _ => hs)
        ⟨Upto.refl _ _ _, (e3.block _ lgx).trans HGGX.out⟩
        (fun y a' W => ∃ (fb : Nat) (y0 y1 y2 y3 y4 y5 y6 y12 y13 y14 y15 y16 y17 y18 y19 y20 y21 y22 y23 y24 y25 y26 y27 y28 y29 y30 y31 y32 y33 y34 y35 y36 y37 y38 y39 y40 y41 y42 y43 y44 y45 y46 y47 y48 y49 y50 y51 y52 y53 y54 y55 y56 y57 y58 y59 y60 y61 : Value), W1.heap.size ≤ fb ∧ W.heap[fb]? = some (.cells #[.int .i64 y.1.1, .int .i64 y.1.2] 102 (0, 0)) ∧ a' = { tmps := List.toArray (y0 :: y1 :: y2 :: y3 :: y4 :: y5 :: y6 :: (.pointer (some ⟨bn, 0, none⟩)) :: (.pointer (some ⟨bl, 0, none⟩)) :: (.pointer (some ⟨bx, 0, none⟩)) :: (.pointer (some ⟨wi.heap.size, 0, none⟩)) :: (.pointer (some ⟨fb, 0, none⟩)) :: y12 :: y13 :: y14 :: y15 :: y16 :: y17 :: y18 :: y19 :: y20 :: y21 :: y22 :: y23 :: y24 :: y25 :: y26 :: y27 :: y28 :: y29 :: y30 :: y31 :: y32 :: y33 :: y34 :: y35 :: y36 :: y37 :: y38 :: y39 :: y40 :: y41 :: y42 :: y43 :: y44 :: y45 :: y46 :: y47 :: y48 :: y49 :: y50 :: y51 :: y52 :: y53 :: y54 :: y55 :: y56 :: y57 :: y58 :: y59 :: y60 :: y61 :: []), defers := [] })
        (fun y a' => ?hAx) ?assign ?body ?done ?stop
      case hAx =>
        rintro _ W W' row ⟨fb, y0, y1, y2, y3, y4, y5, y6, y12, y13, y14, y15, y16, y17, y18, y19, y20, y21, y22, y23, y24, y25, y26, y27, y28, y29, y30, y31, y32, y33, y34, y35, y36, y37, y38, y39, y40, y41, y42, y43, y44, y45, y46, y47, y48, y49, y50, y51, y52, y53, y54, y55, y56, y57, y58, y59, y60, y61, q1, q2, q3⟩ hg hr
        exact ⟨fb, y0, y1, y2, y3, y4, y5, y6, y12, y13, y14, y15, y16, y17, y18, y19, y20, y21, y22, y23, y24, y25, y26, y27, y28, y29, y30, y31, y32, y33, y34, y35, y36, y37, y38, y39, y40, y41, y42, y43, y44, y45, y46, y47, y48, y49, y50, y51, y52, y53, y54, y55, y56, y57, y58, y59, y60, y61, q1, own_cells fb (fun (_ : Unit) => _) 102 (0, 0) () W W' row q2 hg hr, q3⟩
      case assign =>
        rintro l' pre y W K ⟨hU, ho5⟩ hK
        have hsz := hU.size
        gi_wp2
        exact hK _ _ ((KeepsOthers.alloc _ _).from _) ((KeepS.refl _ _).alloc (by have := hwb.size; rintro q (h | rfl | rfl) <;> omega) _) ⟨hU.alloc hsz _, heap_alloc_old ho5 _⟩
          ⟨W.heap.size, _, _, _, _, _, _, _, _, _, _, _, _, _, _, _, _, _, _, _, _, _, _, _, _, _, _, _, _, _, _, _, _, _, _, _, _, _, _, _, _, _, _, _, _, _, _, _, _, _, _, _, _, _, _, _, _, _, hsz, World.alloc_heap_new _ _, rfl⟩
      case body =>
        rintro l' pre y a' W hl hr ⟨hU, ho5⟩ ⟨fb, y0, y1, y2, y3, y4, y5, y6, y12, y13, y14, y15, y16, y17, y18, y19, y20, y21, y22, y23, y24, y25, y26, y27, y28, y29, y30, y31, y32, y33, y34, y35, y36, y37, y38, y39, y40, y41, y42, y43, y44, y45, y46, y47, y48, y49, y50, y51, y52, y53, y54, y55, y56, y57, y58, y59, y60, y61, hfb, hfc, rfl⟩ hlen
        have hfl := flow_bd HVAL.out hks y.1 y.2
        have hfold : ((pre ++ [y]).map (·.1)).foldl (bstep now j) (bUp B now j) = bstep now j ((pre.map (·.1)).foldl (bstep now j) (bUp B now j)) y.1 := by
          rw [List.map_append, List.foldl_append]; rfl
        have hjn : j < (bUp B now j).length := by rw [bUp_len]; have := HNOW.out; omega
        have hval : ((pre.map (·.1)).foldl (bstep now j) (bUp B now j)).getD j 0 = fsum now (pre.map (·.1)) := by
          rw [bfold_get now j j _ _ hjn, if_pos rfl, bUp_get B now j j (by have := HNOW.out; omega) (by have := HNOW.out; omega), if_neg (by have := HNOW.out; omega), if_neg (by omega)]; omega
        have hfs := fsum_bd hM0 HBDN.out (pre.map (·.1)) (fun x hx => by obtain ⟨x', _, rfl⟩ := List.mem_map.1 hx; exact (flow_bd HVAL.out hks x'.1 x'.2).2)
        have hfs2 : 16 * M * ((pre.map (·.1)).length : Nat) ≤ 16 * M * 5 := Int.mul_le_mul_of_nonneg_left (by rw [List.length_map]; omega) (by omega)
        have hlenst : ((pre.map (·.1)).foldl (bstep now j) (bUp B now j)).length = N + 1 := by rw [bfold_len, bUp_len, HNOW.out]
        generalize (pre.map (·.1)).foldl (bstep now j) (bUp B now j) = st at *
        obtain ⟨sj, hsj⟩ : ∃ sj, sj = st.getD j 0 := ⟨_, rfl⟩
        have hb0 : 0 ≤ sj ∧ sj ≤ 80 * M := by rw [hsj, hval]; omega
        obtain ⟨tg, htg, htgl⟩ : ∃ tg : Nat, tgt now y.1.1 = tg ∧ tg < N + 1 := by
          refine ⟨_, rfl, ?_⟩
          unfold tgt; split
          · have := HNOW.out; omega
          · rcases hfl.1 with h | ⟨t, h, ht⟩
            · contradiction
            · rw [h]; have := HNS.out; simp; omega
        have hpv := HBDN.out tg
        have hbst : bstep now j st y.1 = st.set j (st.getD j 0 + y.1.2 * now.getD tg 0) := by unfold bstep; rw [htg]
        rw [← hsj] at hbst
        have sg := (hU.block _ (show gn < W1.heap.size by have := e3.size; omega) (by omega)).trans ((e3.block gn (by omega)).trans HGG.out)
        have sb := (hU.block _ (show bn < W1.heap.size by have := e3.size; omega) (by omega)).trans ((e3.block bn (by omega)).trans HGB.out)
        have sl := (hU.block _ (show bl < W1.heap.size by have := e3.size; omega) (by omega)).trans ((e3.block bl (by omega)).trans HGL.out)
        have sx := (hU.block _ (show bx < W1.heap.size by have := e3.size; omega) (by omega)).trans ((e3.block bx (by omega)).trans HGBX.out)
        have si := (hU.block _ (show wi.heap.size < W1.heap.size by omega) (by omega)).trans e0
        have c0 : W.cell? ⟨bn, 0, none⟩ = some _ := cell_of_heap sb 0
        have c1 : W.cell? ⟨bl, 0, none⟩ = some _ := cell_of_heap sl 0
        have c2 : W.cell? ⟨bx, 0, none⟩ = some _ := cell_of_heap sx 0
        have c3 : W.cell? ⟨wi.heap.size, 0, none⟩ = some _ := cell_of_heap si 0
        have c4 : W.cell? ⟨fb, 0, none⟩ = some _ := cell_of_heap hfc 0
        have c5 : W.cell? ⟨fb, 1, none⟩ = some _ := cell_of_heap hfc 1
        have c6 := row_get sg (k := tg) (by have := HNOW.out; omega)
        have c7 : W.cell? ⟨gx, j, none⟩ = some (.int .i64 sj) := by
          rw [cell_of_heap ho5 j, hsj]; simp [List.getD_eq_getElem?_getD, hlenst, show j < N + 1 by omega]
        have c8 := free_of_heap ho5 j
        have hlenst' := Lib.hid hlenst
        generalize hpp : now.getD tg 0 = pv at *
        have hp0 : 0 ≤ y.1.2 * pv := Int.mul_nonneg hfl.2.1 hpv.1
        have hp1 : y.1.2 * pv ≤ 16 * M := Int.le_trans (Int.mul_le_mul_of_nonneg_right hfl.2.2 hpv.1) (Int.mul_le_mul_of_nonneg_left hpv.2 (by omega))
        have hjN : (j : Int) < (N : Int) + 1 := by omega
        have htN : (tg : Int) < (N : Int) + 1 := by omega
        have hset : (W.setCell ⟨gx, j, none⟩ (.int .i64 (sj + y.1.2 * pv))).heap[gx]? = some (.cells (((pre ++ [y]).map (·.1)).foldl (bstep now j) (bUp B now j) |>.map (Value.int .i64)).toArray 3 (0, 0)) := by
          rw [hfold, hbst, heap_setCell_same ho5]; simp [List.map_set]
        have HTG := Lib.hid htg
        have HFL := Lib.hid hfl.1
        have HSET := Lib.hid hset
        have HU := Lib.hid hU
        clear hset hU
        obtain ⟨hy0, hy1⟩ := hfl.2
        generalize y.1.2 = part at *
        clear hfl hfold hbst hval hfs hfs2 hsj ho5 hfc sg sb sl sx si hlenst hpp htg
        have hwr : Hid (IntKind.i64.wrap (sj + part * pv) = sj + part * pv) := IntWalk.i64_in _ (by omega)
        have hwm : Hid (IntKind.i64.wrap (part * pv) = part * pv) := IntWalk.i64_in _ (by omega)
        by_cases hto : y.1.1 = -1
        · have htgN : tg = N := by rw [← HTG.out]; unfold tgt; rw [if_pos hto, HNOW.out]; omega
          rw [htgN] at c6
          rw [hto] at c4
          clear hto htgN
          gi_wp2
          refine wpIn_region_tail 13 (by kernel_rfl) (by kernel_rfl) (by kernel_rfl) (fun ⟨_, _, h⟩ => h) ?_
          simp only [List.take_succ_cons, List.take_zero, List.drop_succ_cons, List.drop_zero]
          repeat still_step
          refine wpStill_nil ?_
          try rw [hwm.out]
          try rw [hwr.out]
          go_wp2
          refine ⟨((KeepsOthers.setCell _ _ _).trans (KeepsOthers.drew _)).from _, ((KeepS.refl _ _).setCell (p := ⟨gx, j, none⟩) (by rintro (h | h | h) <;> (simp at h; omega)) _).drew, (HU.out.setCell (.inr rfl) _).drew, ?_⟩
          exact HSET.out
        · obtain ⟨t, ht⟩ : ∃ t : Nat, y.1.1 = t := by
            rcases HFL.out with h | ⟨t, h, _⟩
            · exact absurd h hto
            · exact ⟨t, h⟩
          have htg2 : tg = t := by rw [← HTG.out]; unfold tgt; rw [if_neg hto, ht]; rfl
          rw [htg2] at c6 htN
          rw [ht] at c4
          clear hto ht htg2
          gi_wp2
          refine wpIn_region_tail 13 (by kernel_rfl) (by kernel_rfl) (by kernel_rfl) (fun ⟨_, _, h⟩ => h) ?_
          simp only [List.take_succ_cons, List.take_zero, List.drop_succ_cons, List.drop_zero]
          repeat still_step
          refine wpStill_nil ?_
          try rw [hwm.out]
          try rw [hwr.out]
          go_wp2
          refine ⟨((KeepsOthers.setCell _ _ _).trans (KeepsOthers.drew _)).from _, ((KeepS.refl _ _).setCell (p := ⟨gx, j, none⟩) (by rintro (h | h | h) <;> (simp at h; omega)) _).drew, (HU.out.setCell (.inr rfl) _).drew, ?_⟩
          exact HSET.out
      case stop => exact fun _ _ _ _ _ _ h => h.elim
      case done =>
        rintro D xs W hD hS ⟨hU, ho5⟩ hdD
        have hrow : (xs.map (·.1)).foldl (bstep now j) (bUp B now j) = bUp B now (j + 1) := by rw [hS, bUp_succ]; rfl
        rw [hrow] at ho5
        have hsz := hU.size
        have hbel1 : Below w.heap.size wi W := (e3.mono hwb.size).trans (hU.below (by omega) (by rintro q rfl; omega))
        have n0 : wi.heap.size ≤ D := by omega
        have hlow : ∀ q, q < wi.heap.size → q ≠ gx → W.heap[q]? = wi.heap[q]? := fun q hq h1 => (hU.block q (by omega) h1).trans (e3.block q hq)
        have HMW : Hid (Below w.heap.size w W ∧ W.heap[w.heap.size]? = some (.cells #[.int .i64 B.W, .int .i64 B.H, .slice la B.Land.length lc, .slice sa B.Share.length sc] 25 (0, 0)) ∧ W.heap[bn]? = some (.cells #[.slice (some ⟨gn, 0, none⟩) (N + 1) cn] 26 (0, 0)) ∧ W.heap[bl]? = some (.cells #[.int .i64 N] 3 (0, 0)) ∧
            W.heap[gn]? = some (.cells (now.map (Value.int .i64) ++ rest).toArray 3 (0, 0)) ∧ W.heap[bx]? = some (.cells #[.slice (some ⟨gx, 0, none⟩) (N + 1) (N + 1)] 26 (0, 0)) ∧ W.heap[gx]? = some (.cells ((bUp B now (j + 1)).map (Value.int .i64)).toArray 3 (0, 0))) :=
          ⟨hwb.trans hbel1, (hlow _ hwi (by omega)).trans HG0.out, (hlow _ (by omega) (by omega)).trans HGB.out, (hlow _ (by omega) (by omega)).trans HGL.out, (hlow _ (by omega) (by omega)).trans HGG.out, (hlow _ lbx (by omega)).trans HGBX.out, ho5⟩
        have HMK : Hid (Marks w.heap.size W ({ target := .collected D, args := #[] } :: es)) := HM.out.cons n0 (by omega) hdD (fun q hq h => (hlow q hq (by rintro rfl; rw [HGGX.out] at h; cases h)).trans h)
        clear ho5 hrow hU hlow hdD hbel1 e0 e1 e2 e3
        go_wp2
        refine ⟨⟨j + 1, _, _, _, _, _, _, _, _, _, _, _, _, _, _, _, _, _, _, _, _, _, _, _, _, _, _, _, _, _, _, _, _, _, _, _, _, _, _, _, _, _, _, _, _, _, _, _, _, _, _, _, _, _, _, _, _, ?_, by omega, rfl, HMW.out, HMK.out⟩, by simp [intOf]; omega⟩
        omega
    · have hjN : j = N := by omega
      rw [hjN] at ggx ⊢
      clear hjN hlj hj
      have cx := cell_of_heap gbx 0
      have cb := cell_of_heap gb 0
      have cf := free_of_heap gb 0
      simp at cx cb
      have HBO : Hid (BefW w bn bl N #[.int .i64 B.W, .int .i64 B.H, .slice la B.Land.length lc, .slice sa B.Share.length sc] (bN B l (k + 1)) (wi.setCell ⟨bn, 0, none⟩ (.slice (some ⟨gx, 0, none⟩) (N + 1) (N + 1)))) := by
        refine ⟨gx, N + 1, [], hb.setCell (by show _ ≤ bn; omega) _, (heap_setCell_other (by show w.heap.size ≠ bn; omega) _).trans g0, (heap_setCell_same gb _).trans (by simp), (heap_setCell_other (by show bl ≠ bn; omega) _).trans gl, ?_, by omega, Nat.le_refl _⟩
        rw [heap_setCell_other (by show gx ≠ bn; omega), ggx, HST.out]
        unfold bOne
        rw [HNOW.out]
        simp
      have HMK : Hid (Marks w.heap.size (wi.setCell ⟨bn, 0, none⟩ (.slice (some ⟨gx, 0, none⟩) (N + 1) (N + 1))) es) := hm.keep (fun D hD _ => by
        rw [heap_setCell_other (by show D ≠ bn; rintro rfl; rw [gb] at hD; cases hD)]; exact hD)
      clear g0 gb gl gg gbx ggx hm hb
      go_wp2
      refine ⟨⟨k + 1, _, _, _, _, _, _, _, _, _, _, _, _, _, _, _, _, _, _, _, _, _, _, _, _, _, _, _, _, _, _, _, _, _, _, _, _, _, _, _, _, _, _, _, _, _, _, _, _, _, _, _, _, _, _, _, _, _, _, _, ?_, by omega, rfl, HBO.out, HMK.out⟩, by simp [intOf]; omega⟩
      omega
  · have hkn : k = n := by omega
    rw [hkn] at gg
    have cb := cell_of_heap gb 0
    simp at cb
    have HGG := Lib.hid gg
    have HM := Lib.hid hm
    have HB := Lib.hid hb
    have hnk : ¬ ((k : Int) < n) := by omega
    clear gg hm hb hkn
    go_wp2
    refine leaves_marks (B := w.heap.size) HM.out ?_
    intro W' hU hC
    have hr := hC gn _ 3 (0, 0) HGG.out
    refine ⟨.slice (some ⟨gn, 0, none⟩) (N + 1) cn, by simp [results, Try.results79, go_sem], some ⟨gn, 0, none⟩, ?_⟩
    refine ⟨cn, rfl, ints_of_row hr, fun a ha => (by cases ha; exact hgw), HB.out.trans (hU.below (Nat.le_refl _) (fun _ h => h.elim)), hgc⟩
theorem before_any (v : Value) (B : Bay) (po : Option Addr) (pc : Nat) (l : List Int) (N n : Nat) (w : World) (hv : BayAt w v B) (hp : IntsAt w po l) (hval : validP B) (hlen : l.length = N + 1) (hN : N = B.Share.length) (hn : n ≤ 5) (hb : ∀ j, 0 ≤ l.getD j 0 ∧ l.getD j 0 ≤ 1000) :
    Calls Try.prog 79 #[v, .slice po (N + 1) pc, .int .i64 n] w fun e w' => ∃ ao c, e = .returned (.slice ao (N + 1) c) ∧ IntsAt w' ao (bN B l n) ∧ (∀ a, ao = some a → w.heap.size ≤ a.block) ∧ Below w.heap.size w w' := by
  refine (before_cap v B po pc l N n w hv hp hval hlen hN hn hb).mono ?_
  rintro e w' ⟨ao, c, h1, h2, h3, h4, _⟩
  exact ⟨ao, c, h1, h2, h3, h4⟩
end Go.Proofs.Ytnafllhgjidbkaa

/- What a slick costs: Cost and its reference. -/
namespace Go.Proofs.Ytnafllhgjidbkaa
open Go.RowKit Go.Shelf
set_option linter.unusedVariables false
set_option linter.unusedSimpArgs false
theorem ret_ii {k k2 : IntKind} {a b a' b' : Int} (h1 : a = a') (h2 : b = b') : Ending.returned (.tuple #[.int k a, .int k2 b]) = .returned (.tuple #[.int k a', .int k2 b']) := by rw [h1, h2]
noncomputable def costE (B : Bay) (s : Slk) (l : List Int) : Int := if okE B s ≠ 0 then okE B s else if priceB B l = true then 0 else 2
noncomputable def costV (B : Bay) (s : Slk) (l : List Int) : Int := if costE B s l = 0 then costZ s l else 0
theorem lim_le {K : Int} (h0 : 0 ≤ K) (h5 : K ≤ 5) : lim K ≤ 37748736000 := by have := (pow_bd K h0 h5).2; unfold lim; omega
theorem mul_le2 {a b M N : Int} (h0 : 0 ≤ a) (h1 : a ≤ M) (h2 : 0 ≤ b) (h3 : b ≤ N) (hM : 0 ≤ M) : 0 ≤ a * b ∧ a * b ≤ M * N :=
  ⟨Int.mul_nonneg h0 h2, Int.le_trans (Int.mul_le_mul_of_nonneg_right h1 h2) (Int.mul_le_mul_of_nonneg_left h3 hM)⟩
theorem cost_bd {B : Bay} {s : Slk} {l : List Int} (hfit : fitsP B s) (hpr : priceP B l) : l.length = s.Oil.length + 1 ∧ (0 ≤ s.Away * l.getD s.Oil.length 0 ∧ s.Away * l.getD s.Oil.length 0 ≤ 37748736000000) ∧
    ∀ k, k < s.Oil.length → 0 ≤ s.Oil.getD k 0 * l.getD k 0 ∧ s.Oil.getD k 0 * l.getD k 0 ≤ 37748736000000 := by
  have h1 := hfit.2.1
  have h2 := hpr.1
  have hln : l.length = s.Oil.length + 1 := by omega
  have hL := lim_le hfit.1.1 hfit.1.2
  have hs := sum_bd s.Oil (amt_range hfit.2.2.1)
  have ha := hfit.2.2.2
  refine ⟨hln, ?_, fun k hk => ?_⟩
  · have := amt_range hpr.2 s.Oil.length (by omega)
    exact mul_le2 (M := 37748736000) (N := 1000) ha.1 (by omega) this.1 this.2 (by omega)
  · have h3 := amt_range hpr.2 k (by omega)
    have h4 := amt_range hfit.2.2.1 k hk
    exact mul_le2 (M := 37748736000) (N := 1000) h4.1 (by omega) h3.1 h3.2 (by omega)
theorem costE_no {B : Bay} {s : Slk} {l : List Int} {E : Int} (h : okE B s = E) (h0 : E ≠ 0) : costE B s l = E ∧ costV B s l = 0 := by
  have : costE B s l = E := by unfold costE; rw [h, if_pos h0]
  exact ⟨this, by unfold costV; rw [this, if_neg h0]⟩
theorem costE_two {B : Bay} {s : Slk} {l : List Int} (h : okE B s = 0) (hp : ¬ priceP B l) : costE B s l = 2 ∧ costV B s l = 0 := by
  have : costE B s l = 2 := by unfold costE; rw [h, if_neg (by simp), priceB_false hp]; simp
  exact ⟨this, by unfold costV; rw [this, if_neg (by decide)]⟩
theorem costE_ok {B : Bay} {s : Slk} {l : List Int} (h : okE B s = 0) (hp : priceP B l) : costE B s l = 0 ∧ costV B s l = costZ s l := by
  have : costE B s l = 0 := by unfold costE; rw [h, if_neg (by simp), priceB_true hp]; simp
  exact ⟨this, by unfold costV; rw [this, if_pos rfl]⟩

set_option maxRecDepth 100000 in
set_option maxHeartbeats 1000000 in
theorem rCost_any (v sv : Value) (B : Bay) (s : Slk) (po : Option Addr) (pc : Nat) (l : List Int) (w : World) (hv : BayAt w v B) (hs : SlkAt w sv s) (hp : IntsAt w po l) (hn : l.length ≤ 1000) :
    Calls Try.prog 48 #[v, sv, .slice po l.length pc] w fun e w' => e = .returned (.tuple #[.int .i64 (costV B s l), .int .i64 (costE B s l)]) ∧ Below w.heap.size w w' := by
  have HV := Lib.hid (fun W (h : Below w.heap.size w W) => hv.below (Nat.le_refl _) h)
  have HS := Lib.hid (fun W (h : Below w.heap.size w W) => hs.below (Nat.le_refl _) h)
  have HP := Lib.hid (fun W (h : Below w.heap.size w W) => hp.below (Nat.le_refl _) h)
  obtain ⟨la, lc, sa, sc, rfl, hl, hsh, hll, hsl⟩ := hv
  obtain ⟨ao, c, rfl, hi, hn'⟩ := hs
  have HI := Lib.hid (fun W (h : Below w.heap.size w W) => hi.below (Nat.le_refl _) h)
  clear hl hsh hi hp
  have FF := Lib.hid (two_new (w := w) #[.int .i64 B.W, .int .i64 B.H, .slice la B.Land.length lc, .slice sa B.Share.length sc] #[.int .i64 s.K, .slice ao s.Oil.length c, .int .i64 s.Away] 25 28)
  go_enter Try.func48, Try.ntmps48
  go_wp2_with fail
  generalize hW : ((w.alloc _).alloc _) = W at *
  clear hW
  obtain ⟨f0, f1, f2, f3⟩ := FF.out
  clear FF
  obtain ⟨x0, hx0⟩ : ∃ x : Aft W, x.val = W := ⟨⟨W, Below.refl _ W⟩, rfl⟩
  have F0 : Hid (Below w.heap.size w W) := f0
  have FZ : Hid (W.heap.size = w.heap.size + 2) := f1
  have FZ0 := Lib.hid (show x0.val.heap.size = w.heap.size + 2 by rw [hx0]; exact f1)
  have G0 : Hid (W.heap[w.heap.size]? = some (.cells #[.int .i64 B.W, .int .i64 B.H, .slice la B.Land.length lc, .slice sa B.Share.length sc] 25 (0, 0))) := f2
  have d0_0 : ∀ x : Aft W, x.val.cell? ⟨w.heap.size, 0, none⟩ = some (.int .i64 B.W) := fun x => cell_of_heap (x.heapH f2) 0
  have d0_1 : ∀ x : Aft W, x.val.cell? ⟨w.heap.size, 1, none⟩ = some (.int .i64 B.H) := fun x => cell_of_heap (x.heapH f2) 1
  have d0_2 : ∀ x : Aft W, x.val.cell? ⟨w.heap.size, 2, none⟩ = some (.slice la B.Land.length lc) := fun x => cell_of_heap (x.heapH f2) 2
  have d0_3 : ∀ x : Aft W, x.val.cell? ⟨w.heap.size, 3, none⟩ = some (.slice sa B.Share.length sc) := fun x => cell_of_heap (x.heapH f2) 3
  have G1 : Hid (W.heap[w.heap.size + 1]? = some (.cells #[.int .i64 s.K, .slice ao s.Oil.length c, .int .i64 s.Away] 28 (0, 0))) := f3
  have d1_0 : ∀ x : Aft W, x.val.cell? ⟨w.heap.size + 1, 0, none⟩ = some (.int .i64 s.K) := fun x => cell_of_heap (x.heapH f3) 0
  have d1_1 : ∀ x : Aft W, x.val.cell? ⟨w.heap.size + 1, 1, none⟩ = some (.slice ao s.Oil.length c) := fun x => cell_of_heap (x.heapH f3) 1
  have d1_2 : ∀ x : Aft W, x.val.cell? ⟨w.heap.size + 1, 2, none⟩ = some (.int .i64 s.Away) := fun x => cell_of_heap (x.heapH f3) 2
  rw [← hx0]
  clear hx0 f0 f1 f2 f3
  refine (rasked_any _ _ B s _ (HV.out _ (Aft.off F0.out x0)) (HS.out _ (Aft.off F0.out x0))).mono ?_
  rintro e w1 ⟨rfl, hb⟩
  obtain ⟨x1, rfl, lk0'⟩ := x0.step (hb)
  have lk0 := Lib.hid lk0'
  clear hb lk0'
  rcases okE_cases B s with ⟨h0, hval, hfit⟩ | h0 | h0
  · rw [h0]
    by_cases hpr : priceP B l
    · obtain ⟨e1, e2⟩ := costE_ok h0 hpr
      have hc := arePrices_any _ B po pc l _ (HV.out _ (Aft.off F0.out x1)) (HP.out _ (Aft.off F0.out x1)) hn hval
      rw [priceB_true hpr] at hc
      obtain ⟨q1, q2, q3⟩ := cost_bd hfit hpr
      have hk36 : s.Oil.length ≤ 100 := by have := fits_pre hval hfit; omega
      have HQ := Lib.hid (fun (x : Aft W) => Priced_any ao po c pc s l x.val (HI.out _ (Aft.off F0.out x)) (HP.out _ (Aft.off F0.out x)) q1 hk36 (by omega) (fun k hk => by have := q3 k hk; omega))
      have E1 := Lib.hid e1
      have E2 := Lib.hid e2
      have HC := Lib.hid hc
      clear e1 e2 hc
      clear q1 q2 q3 h0 hpr hfit hval
      go_wp2_with fail
      refine (HC.out).mono ?_
      rintro e w1 ⟨rfl, hb⟩
      obtain ⟨x2, rfl, lk1'⟩ := x1.step (hb)
      have lk1 := Lib.hid lk1'
      clear hb lk1'
      go_wp2_with fail
      refine (HQ.out x2).mono ?_
      rintro e w1 ⟨rfl, hb⟩
      obtain ⟨x3, rfl, lk2'⟩ := x2.step (hb)
      have lk2 := Lib.hid lk2'
      clear hb lk2'
      go_wp2
      go_ret2
      exact ⟨ret_ii E2.out.symm E1.out.symm, Aft.off F0.out x3⟩
    · obtain ⟨e1, e2⟩ := costE_two h0 hpr
      have hc := arePrices_any _ B po pc l _ (HV.out _ (Aft.off F0.out x1)) (HP.out _ (Aft.off F0.out x1)) hn hval
      rw [priceB_false hpr] at hc
      have E1 := Lib.hid e1
      have E2 := Lib.hid e2
      have HC := Lib.hid hc
      clear e1 e2 hc
      clear h0 hpr hfit hval
      go_wp2_with fail
      refine (HC.out).mono ?_
      rintro e w1 ⟨rfl, hb⟩
      obtain ⟨x2, rfl, lk1'⟩ := x1.step (hb)
      have lk1 := Lib.hid lk1'
      clear hb lk1'
      go_wp2
      go_ret2
      exact ⟨ret_ii E2.out.symm E1.out.symm, Aft.off F0.out x2⟩
  all_goals
    obtain ⟨e1, e2⟩ := costE_no (l := l) h0 (by decide)
    rw [h0]
    have E1 := Lib.hid e1
    have E2 := Lib.hid e2
    clear e1 e2
    clear h0
    go_wp2
    go_ret2
    exact ⟨ret_ii E2.out.symm E1.out.symm, Aft.off F0.out x1⟩

set_option maxRecDepth 100000 in
set_option maxHeartbeats 1000000 in
theorem Cost_any (v sv : Value) (B : Bay) (s : Slk) (po : Option Addr) (pc : Nat) (l : List Int) (w : World) (hv : BayAt w v B) (hs : SlkAt w sv s) (hp : IntsAt w po l) (hn : l.length ≤ 1000) :
    Calls Try.prog 45 #[v, sv, .slice po l.length pc] w fun e w' => e = .returned (.tuple #[.int .i64 (costV B s l), .int .i64 (costE B s l)]) ∧ Below w.heap.size w w' := by
  have HV := Lib.hid (fun W (h : Below w.heap.size w W) => hv.below (Nat.le_refl _) h)
  have HP := Lib.hid (fun W (h : Below w.heap.size w W) => hp.below (Nat.le_refl _) h)
  obtain ⟨la, lc, sa, sc, rfl, hl, hsh, hll, hsl⟩ := hv
  obtain ⟨ao, c, rfl, hi, hn'⟩ := hs
  have HI := Lib.hid (fun W (h : Below w.heap.size w W) => hi.below (Nat.le_refl _) h)
  have HASK := Lib.hid (askE_one B s)
  clear hl hsh hi hp
  have FF := Lib.hid (two_new (w := w) #[.int .i64 B.W, .int .i64 B.H, .slice la B.Land.length lc, .slice sa B.Share.length sc] #[.int .i64 s.K, .slice ao s.Oil.length c, .int .i64 s.Away] 25 28)
  go_enter Try.func45, Try.ntmps45
  go_wp2_with fail
  generalize hW : ((w.alloc _).alloc _) = W at *
  clear hW
  obtain ⟨f0, f1, f2, f3⟩ := FF.out
  clear FF
  obtain ⟨x0, hx0⟩ : ∃ x : Aft W, x.val = W := ⟨⟨W, Below.refl _ W⟩, rfl⟩
  have F0 : Hid (Below w.heap.size w W) := f0
  have FZ : Hid (W.heap.size = w.heap.size + 2) := f1
  have FZ0 := Lib.hid (show x0.val.heap.size = w.heap.size + 2 by rw [hx0]; exact f1)
  have G0 : Hid (W.heap[w.heap.size]? = some (.cells #[.int .i64 B.W, .int .i64 B.H, .slice la B.Land.length lc, .slice sa B.Share.length sc] 25 (0, 0))) := f2
  have d0_0 : ∀ x : Aft W, x.val.cell? ⟨w.heap.size, 0, none⟩ = some (.int .i64 B.W) := fun x => cell_of_heap (x.heapH f2) 0
  have d0_1 : ∀ x : Aft W, x.val.cell? ⟨w.heap.size, 1, none⟩ = some (.int .i64 B.H) := fun x => cell_of_heap (x.heapH f2) 1
  have d0_2 : ∀ x : Aft W, x.val.cell? ⟨w.heap.size, 2, none⟩ = some (.slice la B.Land.length lc) := fun x => cell_of_heap (x.heapH f2) 2
  have d0_3 : ∀ x : Aft W, x.val.cell? ⟨w.heap.size, 3, none⟩ = some (.slice sa B.Share.length sc) := fun x => cell_of_heap (x.heapH f2) 3
  have G1 : Hid (W.heap[w.heap.size + 1]? = some (.cells #[.int .i64 s.K, .slice ao s.Oil.length c, .int .i64 s.Away] 28 (0, 0))) := f3
  have d1_0 : ∀ x : Aft W, x.val.cell? ⟨w.heap.size + 1, 0, none⟩ = some (.int .i64 s.K) := fun x => cell_of_heap (x.heapH f3) 0
  have d1_1 : ∀ x : Aft W, x.val.cell? ⟨w.heap.size + 1, 1, none⟩ = some (.slice ao s.Oil.length c) := fun x => cell_of_heap (x.heapH f3) 1
  have d1_2 : ∀ x : Aft W, x.val.cell? ⟨w.heap.size + 1, 2, none⟩ = some (.int .i64 s.Away) := fun x => cell_of_heap (x.heapH f3) 2
  rw [← hx0]
  clear hx0 f0 f1 f2 f3
  have hsl2 := slks_one (w := x0.val) (c := c) (HI.out _ (Aft.off F0.out x0)) hn'
  rw [FZ0.out] at hsl2
  have hask := asked_any _ B _ 1 [s] _ hsl2 (HV.out _ ((Aft.off F0.out x0).alloc (Aft.off F0.out x0).size _)) (by simp)
  rw [HASK.out] at hask
  have HC0 := Lib.hid hask
  clear hask HASK hsl2
  refine (HC0.out).mono ?_
  rintro e w1 ⟨rfl, hb⟩
  obtain ⟨x1, rfl, lk0'⟩ := x0.step (((Below.refl _ _).alloc (Nat.le_refl _) _).trans (hb.mono (by simp)))
  have lk0 := Lib.hid lk0'
  clear hb lk0'
  rcases okE_cases B s with ⟨h0, hval, hfit⟩ | h0 | h0
  · rw [h0]
    by_cases hpr : priceP B l
    · obtain ⟨e1, e2⟩ := costE_ok h0 hpr
      have hc := priced_any _ B po pc l _ (HV.out _ (Aft.off F0.out x1)) (HP.out _ (Aft.off F0.out x1)) hn hval
      rw [priceB_true hpr] at hc
      obtain ⟨q1, q2, q3⟩ := cost_bd hfit hpr
      have hk36 : s.Oil.length ≤ 100 := by have := fits_pre hval hfit; omega
      have HCZ : Hid (costZ s l = s.Away * l.getD s.Oil.length 0 + dotR s.Oil l s.Oil.length) := rfl
      obtain ⟨bq, oq, rfl, hbq, hcq⟩ := (HP.out _ (Aft.off F0.out x1)).get (show s.Oil.length < l.length by omega)
      have HPA : Hid (∀ W, Below w.heap.size w W → ∀ k, k < l.length → W.cell? ⟨bq, oq + k, none⟩ = some (.int .i64 (l.getD k 0))) := fun W h k hk => by
        obtain ⟨b', o', e, _, hc⟩ := (HP.out _ h).get hk; cases e; exact hc
      have hc5 := HPA.out _ (Aft.off F0.out x1) s.Oil.length (by omega)
      have hq0 : (s.Oil.length : Int) < l.length := by omega
      have HCW := Lib.hid (fun x : Aft W => HPA.out _ (Aft.off F0.out x) s.Oil.length (by omega))
      have E1 := Lib.hid e1
      have E2 := Lib.hid e2
      have HC := Lib.hid hc
      have Q1 := Lib.hid q1
      have Q3 := Lib.hid q3
      clear e1 e2 hc q1 q3
      clear h0 hpr hfit hval hcq hc5
      generalize hpp : l.getD s.Oil.length 0 = p at *
      have HPP := Lib.hid hpp
      clear hpp
      go_wp2_with fail
      refine (HC.out).mono ?_
      rintro e w1 ⟨rfl, hb⟩
      obtain ⟨x2, rfl, lk1'⟩ := x1.step (hb)
      have lk1 := Lib.hid lk1'
      clear hb lk1'
      have hc : ∀ x : Aft W, x.val.cell? ⟨bq, oq + s.Oil.length, none⟩ = some (.int .i64 p) := HCW.out
      go_wp2_with fail
      refine wp_region_aftW x2 (by kernel_rfl) (by kernel_rfl) ?_
      repeat (go_big_quiet_step (fail))
      refine wpQuiet_nil ?_
      rintro _ ⟨x3, rfl⟩
      go_wp2_with fail
      clear hc
      have hw : IntKind.i64.wrap (s.Away * p) = s.Away * p := IntWalk.i64_in _ (by omega)
      try rw [hw]
      clear hw
      generalize s.Away * p = a0 at *
      go_loopw [9, 37] (fun t i wr => ∃ (k : Nat) (x : Aft W), wr = x.val ∧ k ≤ s.Oil.length ∧ i = .int .i64 k ∧ t = .int .i64 (a0 + dotR s.Oil l k) ∧ 0 ≤ dotR s.Oil l k ∧ dotR s.Oil l k ≤ k * 37748736000000) (fun _ i _ => s.Oil.length - (intOf i).toNat)
      case atStart => exact ⟨0, x3, rfl, Nat.zero_le _, rfl, by simp [dotR, sumR_zero], by simp [dotR, sumR_zero], by simp [dotR, sumR_zero]⟩
      case round =>
        obtain ⟨k, x4, rfl, hk, rfl, rfl, hs0, hs1⟩ := hrel
        by_cases hlt : k < s.Oil.length
        · have hkl : (k : Int) < l.length := by omega
          obtain ⟨bs, os, rfl, hbs, hcs⟩ := (HI.out _ (Aft.off F0.out x4)).get hlt
          have hc2 := HPA.out _ (Aft.off F0.out x4) k (by omega)
          have hx := Q3.out k hlt
          have hts := Lib.hid (dotR_succ s.Oil l k)
          generalize s.Oil.getD k 0 = u at *
          generalize l.getD k 0 = y at *
          generalize dotR s.Oil l k = t at *
          generalize hm : u * y = uy at *
          have HM := Lib.hid hm
          have hm1 : wrap64 (u * y) = uy := by rw [hm]; exact IntWalk.wrap64_in _ ⟨by omega, by omega⟩
          clear hm
          go_wp2
          go_round
          case rel => exact ⟨k + 1, x4, rfl, by omega, by go_num, by rw [hts.out]; go_num, by rw [hts.out]; omega, by rw [hts.out]; omega⟩
          case measure => simp [intOf]; omega
        · obtain rfl : k = s.Oil.length := by omega
          go_wp2
          go_ret2
          exact ⟨ret_ii (E2.out.trans HCZ.out).symm E1.out.symm, Aft.off F0.out x4⟩
    · obtain ⟨e1, e2⟩ := costE_two h0 hpr
      have hc := priced_any _ B po pc l _ (HV.out _ (Aft.off F0.out x1)) (HP.out _ (Aft.off F0.out x1)) hn hval
      rw [priceB_false hpr] at hc
      have E1 := Lib.hid e1
      have E2 := Lib.hid e2
      have HC := Lib.hid hc
      clear e1 e2 hc
      clear h0 hpr hfit hval
      go_wp2_with fail
      refine (HC.out).mono ?_
      rintro e w1 ⟨rfl, hb⟩
      obtain ⟨x2, rfl, lk1'⟩ := x1.step (hb)
      have lk1 := Lib.hid lk1'
      clear hb lk1'
      go_wp2
      go_ret2
      exact ⟨ret_ii E2.out.symm E1.out.symm, Aft.off F0.out x2⟩
  all_goals
    obtain ⟨e1, e2⟩ := costE_no (l := l) h0 (by decide)
    rw [h0]
    have E1 := Lib.hid e1
    have E2 := Lib.hid e2
    clear e1 e2
    clear h0
    go_wp2
    go_ret2
    exact ⟨ret_ii E2.out.symm E1.out.symm, Aft.off F0.out x1⟩
end Go.Proofs.Ytnafllhgjidbkaa

/- The cost of what comes about is that of what was there by the prices before. -/
namespace Go.Proofs.Ytnafllhgjidbkaa
open Go.RowKit Go.Shelf
set_option linter.unusedVariables false
set_option linter.unusedSimpArgs false
def valF (l : List Int) (st : List Int × Int) : Int := st.2 * l.getD st.1.length 0 + dotR st.1 l st.1.length
theorem dotR_set (a l : List Int) (t : Nat) (v : Int) (ht : t < a.length) : ∀ n, dotR (a.set t v) l n = dotR a l n + if t < n then (v - a.getD t 0) * l.getD t 0 else 0
  | 0 => by simp [dotR, sumR_zero]
  | n + 1 => by
    rw [dotR_succ, dotR_succ, dotR_set a l t v ht n, getD_set _ _ _ _ ht]
    by_cases e : n = t
    · subst e
      rw [if_neg (by omega), if_pos rfl, if_pos (by omega), Int.sub_mul]; omega
    · rw [if_neg e]
      by_cases h : t < n
      · rw [if_pos h, if_pos (by omega)]; omega
      · rw [if_neg h, if_neg (by omega)]; omega
theorem valF_step {l : List Int} {oil : Int} {st : List Int × Int} {x : Int × Int} (hl : l.length = st.1.length + 1) (hx : x.1 = -1 ∨ ∃ t : Nat, x.1 = t ∧ t < st.1.length) :
    valF l (stepF oil st x) = valF l st + oil * (x.2 * l.getD (tgt l x.1) 0) := by
  unfold stepF valF tgt
  by_cases h : x.1 = -1
  · rw [if_pos h, if_pos h]
    show (st.2 + oil * x.2) * l.getD st.1.length 0 + dotR st.1 l st.1.length = _
    rw [hl, Nat.add_sub_cancel, Int.add_mul, Int.mul_assoc]; omega
  · obtain ⟨t, ht, htl⟩ : ∃ t : Nat, x.1 = t ∧ t < st.1.length := by rcases hx with h' | h'; exact absurd h' h; exact h'
    rw [if_neg h, if_neg h, ht]
    simp only [Int.toNat_natCast, List.length_set]
    have e : st.1.getD t 0 + oil * x.2 - st.1.getD t 0 = oil * x.2 := by omega
    rw [dotR_set _ _ _ _ htl, if_pos htl, e, Int.mul_assoc]; omega
theorem valF_fold {l : List Int} {oil : Int} : ∀ (xs : List (Int × Int)) {st : List Int × Int}, l.length = st.1.length + 1 → (∀ x ∈ xs, x.1 = -1 ∨ ∃ t : Nat, x.1 = t ∧ t < st.1.length) → valF l (xs.foldl (stepF oil) st) = valF l st + oil * fsum l xs
  | [], st, _, _ => by simp [fsum]
  | x :: xs, st, hl, h => by
    rw [List.foldl_cons, valF_fold xs (by rw [stepF_len]; exact hl) (fun y hy => by rw [stepF_len]; exact h y (by simp [hy])), valF_step hl (h x (by simp))]
    simp only [fsum, List.map_cons, List.sum_cons, Int.mul_add]; omega
theorem zeros_getD (n i : Nat) : (List.replicate n (0 : Int)).getD i 0 = 0 := by rw [List.getD_eq_getElem?_getD, List.getElem?_replicate]; split <;> rfl
theorem dotR_zeros (n : Nat) (l : List Int) : ∀ k, dotR (List.replicate n 0) l k = 0
  | 0 => rfl
  | k + 1 => by
    rw [dotR_succ, dotR_zeros n l k]
    have : (List.replicate n (0 : Int)).getD k 0 = 0 := by rw [List.getD_eq_getElem?_getD, List.getElem?_replicate]; split <;> rfl
    rw [this]; simp
theorem valF_up {B : Bay} {s : Slk} {l : List Int} (hval : validP B) (hlen : s.Oil.length = B.Share.length) (hl : l.length = s.Oil.length + 1) : ∀ k, k ≤ s.Oil.length →
    valF l (mvUp B s k) = 16 * s.Away * l.getD s.Oil.length 0 + sumR k (fun i => s.Oil.getD i 0 * fsum l (flowsL B i))
  | 0, _ => by
    show valF l (List.replicate s.Oil.length 0, 16 * s.Away) = _
    unfold valF
    simp only [List.length_replicate]
    rw [dotR_zeros, sumR_zero]
  | k + 1, h => by
    rw [mvUp_succ]; unfold rowF
    rw [valF_fold _ (by rw [mvUp_len]; exact hl) (fun x hx => by rw [mvUp_len, hlen]; exact (flow_bd hval (by omega) x hx).1), valF_up hval hlen hl k (by omega), sumR_succ]; omega
theorem adj1 {B : Bay} {s : Slk} {l : List Int} (hval : validP B) (hlen : s.Oil.length = B.Share.length) (hl : l.length = s.Oil.length + 1) : costZ (mv B s) l = costZ s (bOne B l) := by
  have h1 := valF_up hval hlen hl s.Oil.length (Nat.le_refl _)
  have h2 : costZ (mv B s) l = valF l (mvUp B s s.Oil.length) := rfl
  rw [h2, h1]
  unfold costZ dotR
  have h3 : l.length - 1 = s.Oil.length := by omega
  have e1 : (bOne B l).getD s.Oil.length 0 = 16 * l.getD s.Oil.length 0 := by
    unfold bOne; rw [bUp_get B l _ _ (Nat.le_refl _) (by omega), if_pos h3.symm, h3]
  rw [e1]
  have e2 : sumR s.Oil.length (fun i => s.Oil.getD i 0 * (bOne B l).getD i 0) = sumR s.Oil.length (fun i => s.Oil.getD i 0 * fsum l (flowsL B i)) := sumR_congr (fun i hi => by
    unfold bOne; rw [bUp_get B l _ _ (Nat.le_refl _) (by omega), if_neg (by omega), if_pos (by omega)])
  rw [e2, Int.mul_comm 16 s.Away, Int.mul_assoc]
theorem bN_comm (B : Bay) (l : List Int) : ∀ n, bN B (bOne B l) n = bOne B (bN B l n)
  | 0 => rfl
  | n + 1 => by show bOne B (bN B (bOne B l) n) = bOne B (bOne B (bN B l n)); rw [bN_comm B l n]
theorem adjN {B : Bay} {s : Slk} (hval : validP B) (hlen : s.Oil.length = B.Share.length) : ∀ (n : Nat) (l : List Int), l.length = s.Oil.length + 1 → costZ (mvN B s n) l = costZ s (bN B l n)
  | 0, l, _ => rfl
  | n + 1, l, hl => by
    show costZ (mv B (mvN B s n)) l = costZ s (bOne B (bN B l n))
    rw [adj1 hval (by rw [mvN_len]; exact hlen) (by rw [mvN_len]; exact hl), adjN hval hlen n _ (by rw [bOne_len]; exact hl), bN_comm]
/-- One part of oil in a cell; the cell behind the last one is what is away. -/
def oneS (B : Bay) (i : Nat) : Slk := if i = B.Share.length then ⟨0, List.replicate B.Share.length 0, 1⟩ else ⟨0, (List.replicate B.Share.length 0).set i 1, 0⟩
theorem oneS_len (B : Bay) (i : Nat) : (oneS B i).Oil.length = B.Share.length := by unfold oneS; split <;> simp
theorem oneS_get {B : Bay} {i j : Nat} (hi : i < B.Share.length) : (oneS B i).Oil.getD j 0 = if j = i then 1 else 0 := by
  unfold oneS; rw [if_neg (by omega)]
  show ((List.replicate B.Share.length 0).set i 1).getD j 0 = _
  rw [getD_set _ _ _ _ (by simpa using hi)]
  split
  · rfl
  · rw [List.getD_eq_getElem?_getD, List.getElem?_replicate]; split <;> rfl
theorem sum_zeros (n : Nat) : (List.replicate n (0 : Int)).sum = 0 := by simp
theorem oneS_fits {B : Bay} {i : Nat} (hval : validP B) (hi : i ≤ B.Share.length) : fitsP B (oneS B i) := by
  have h1 := hval.2.2.2.1
  have hl : lim 0 = 36000 := by decide
  by_cases e : i = B.Share.length
  · have : oneS B i = ⟨0, List.replicate B.Share.length 0, 1⟩ := by unfold oneS; rw [if_pos e]
    rw [this]
    refine ⟨⟨by simp, by simp⟩, by simpa using h1, ?_, ⟨by simp, ?_⟩⟩
    · rw [amtB_iff]; intro k hk
      rw [List.getD_eq_getElem?_getD, List.getElem?_replicate]
      simp at hk; rw [if_pos hk]; simp [okB_iff, hl]
    · show (1 : Int) ≤ lim 0 - (List.replicate B.Share.length 0).sum
      rw [sum_zeros, hl]; omega
  · have hi' : i < B.Share.length := by omega
    have : oneS B i = ⟨0, (List.replicate B.Share.length 0).set i 1, 0⟩ := by unfold oneS; rw [if_neg e]
    have hs : ((List.replicate B.Share.length (0 : Int)).set i 1).sum = 1 := by
      rw [sum_set _ _ _ (by simpa using hi'), sum_zeros, List.getD_eq_getElem?_getD, List.getElem?_replicate, if_pos hi']; simp
    rw [this]
    refine ⟨⟨by simp, by simp⟩, by simpa using h1, ?_, ⟨by simp, ?_⟩⟩
    · rw [amtB_iff]; intro k hk
      show okB (lim 0) (((List.replicate B.Share.length 0).set i 1).getD k 0) = true
      rw [getD_set _ _ _ _ (by simpa using hi'), hl, okB_iff]
      split
      · omega
      · rw [List.getD_eq_getElem?_getD, List.getElem?_replicate]; split <;> simp
    · show (0 : Int) ≤ lim 0 - ((List.replicate B.Share.length 0).set i 1).sum
      rw [hs, hl]; omega
theorem oneS_cost {B : Bay} {l : List Int} {i : Nat} (hi : i ≤ B.Share.length) : costZ (oneS B i) l = l.getD i 0 := by
  unfold costZ
  by_cases e : i = B.Share.length
  · have : oneS B i = ⟨0, List.replicate B.Share.length 0, 1⟩ := by unfold oneS; rw [if_pos e]
    rw [this]
    simp only [List.length_replicate]
    rw [dotR_zeros, e]; omega
  · have hi' : i < B.Share.length := by omega
    have : oneS B i = ⟨0, (List.replicate B.Share.length 0).set i 1, 0⟩ := by unfold oneS; rw [if_neg e]
    rw [this]
    simp only [List.length_set, List.length_replicate]
    rw [dotR_set _ _ _ _ (by simpa using hi'), dotR_zeros, if_pos hi', zeros_getD]; omega
end Go.Proofs.Ytnafllhgjidbkaa

/- Before; one part of oil in a cell; the reference's Before. -/
namespace Go.Proofs.Ytnafllhgjidbkaa
open Go.RowKit Go.Shelf
set_option linter.unusedVariables false
set_option linter.unusedSimpArgs false
noncomputable def befE (B : Bay) (l : List Int) (n : Int) : Int := if validB B = true then (if priceB B l = true ∧ 0 ≤ n ∧ n ≤ 5 then 0 else 2) else 20
noncomputable def befL (B : Bay) (l : List Int) (n : Int) : List Int := if befE B l n = 0 then bN B l n.toNat else []
theorem befE_no {B : Bay} {l : List Int} {n : Int} {E : Int} (h : befE B l n = E) (h0 : E ≠ 0) : befL B l n = [] := by unfold befL; rw [h, if_neg h0]
theorem befE_20 {B : Bay} {l : List Int} {n : Int} (h : ¬ validP B) : befE B l n = 20 := by unfold befE; rw [if_neg (by rw [validB_false h]; simp)]
theorem befE_2 {B : Bay} {l : List Int} {n : Int} (h : validP B) (h2 : ¬ (priceP B l ∧ 0 ≤ n ∧ n ≤ 5)) : befE B l n = 2 := by
  unfold befE; rw [if_pos (validB_true h), if_neg]
  rintro ⟨a, b⟩; exact h2 ⟨Classical.byContradiction (fun hn => by rw [priceB_false hn] at a; cases a), b⟩
theorem befE_0 {B : Bay} {l : List Int} {n : Nat} (h : validP B) (h2 : priceP B l) (h5 : n ≤ 5) : befE B l n = 0 ∧ befL B l n = bN B l n := by
  have e : befE B l n = 0 := by unfold befE; rw [if_pos (validB_true h), if_pos ⟨priceB_true h2, by omega, by omega⟩]
  exact ⟨e, by unfold befL; rw [if_pos e, Int.toNat_natCast]⟩
theorem price_bd {B : Bay} {l : List Int} (h2 : priceP B l) : ∀ j, 0 ≤ l.getD j 0 ∧ l.getD j 0 ≤ 1000 := by
  intro j
  by_cases h : j < l.length
  · exact amt_range h2.2 j h
  · rw [List.getD_eq_getElem?_getD, List.getElem?_eq_none (by omega)]; simp
def Lst2 (w : World) (L : List Int) (E : Int) (e : Ending) (w' : World) : Prop := ∃ ao c, e = .returned (.tuple #[.slice ao L.length c, .int .i64 E]) ∧ IntsAt w' ao L ∧ (∀ a, ao = some a → w.heap.size ≤ a.block) ∧ Below w.heap.size w w'
theorem ret_si {a a' : Option Addr} {m m' c c' : Nat} {k : IntKind} {x y : Int} (h1 : a = a') (h2 : m = m') (h3 : c = c') (h4 : x = y) : Ending.returned (.tuple #[.slice a m c, .int k x]) = .returned (.tuple #[.slice a' m' c', .int k y]) := by rw [h1, h2, h3, h4]

set_option maxRecDepth 100000 in
set_option maxHeartbeats 1000000 in
theorem Before_any (v : Value) (B : Bay) (po : Option Addr) (pc : Nat) (l : List Int) (n : Int) (w : World) (hv : BayAt w v B) (hp : IntsAt w po l) (hn : l.length ≤ 1000) (hnn : -9223372036854775808 ≤ n ∧ n ≤ 9223372036854775807) :
    Calls Try.prog 46 #[v, .slice po l.length pc, .int .i64 n] w (Lst2 w (befL B l n) (befE B l n)) := by
  have HV := Lib.hid (fun W (h : Below w.heap.size w W) => hv.below (Nat.le_refl _) h)
  have HP := Lib.hid (fun W (h : Below w.heap.size w W) => hp.below (Nat.le_refl _) h)
  obtain ⟨la, lc, sa, sc, rfl, hl, hsh, hll, hsl⟩ := hv
  clear hl hsh hp
  have FF := Lib.hid (one_new (w := w) #[.int .i64 B.W, .int .i64 B.H, .slice la B.Land.length lc, .slice sa B.Share.length sc] 25)
  by_cases hval : validP B
  case neg =>
    have e1 := befE_20 (l := l) (n := n) hval
    have e2 := befE_no e1 (by decide)
    have hc := fun W h => valid_any _ B W (HV.out W h)
    rw [validB_false hval] at hc
    have E1 := Lib.hid e1
    have E2 := Lib.hid e2
    have HC := Lib.hid hc
    clear e1 e2 hc
    clear hval
    go_enter Try.func46, Try.ntmps46
    go_wp2_with fail
    generalize hW : (w.alloc _) = W at *
    clear hW
    obtain ⟨f0, f1, f2⟩ := FF.out
    clear FF
    obtain ⟨x0, hx0⟩ : ∃ x : Aft W, x.val = W := ⟨⟨W, Below.refl _ W⟩, rfl⟩
    have F0 : Hid (Below w.heap.size w W) := f0
    have FZ : Hid (W.heap.size = w.heap.size + 1) := f1
    have FZ0 := Lib.hid (show x0.val.heap.size = w.heap.size + 1 by rw [hx0]; exact f1)
    have G0 : Hid (W.heap[w.heap.size]? = some (.cells #[.int .i64 B.W, .int .i64 B.H, .slice la B.Land.length lc, .slice sa B.Share.length sc] 25 (0, 0))) := f2
    have d0_0 : ∀ x : Aft W, x.val.cell? ⟨w.heap.size, 0, none⟩ = some (.int .i64 B.W) := fun x => cell_of_heap (x.heapH f2) 0
    have d0_1 : ∀ x : Aft W, x.val.cell? ⟨w.heap.size, 1, none⟩ = some (.int .i64 B.H) := fun x => cell_of_heap (x.heapH f2) 1
    have d0_2 : ∀ x : Aft W, x.val.cell? ⟨w.heap.size, 2, none⟩ = some (.slice la B.Land.length lc) := fun x => cell_of_heap (x.heapH f2) 2
    have d0_3 : ∀ x : Aft W, x.val.cell? ⟨w.heap.size, 3, none⟩ = some (.slice sa B.Share.length sc) := fun x => cell_of_heap (x.heapH f2) 3
    rw [← hx0]
    clear hx0 f0 f1 f2
    refine (HC.out _ (Aft.off F0.out x0)).mono ?_
    rintro e w1 ⟨rfl, hb⟩
    obtain ⟨x1, rfl, lk0'⟩ := x0.step (hb)
    have lk0 := Lib.hid lk0'
    clear hb lk0'
    go_wp2
    go_ret2
    exact ⟨none, 0, ret_si rfl (by rw [E2.out]; rfl) rfl E1.out.symm, by rw [E2.out]; exact fun h => absurd rfl h, fun a ha => by (cases ha), Aft.off F0.out x1⟩
  have hc := fun W h => valid_any _ B W (HV.out W h)
  rw [validB_true hval] at hc
  have hc2 := fun W h => priced_any _ B po pc l W (HV.out W h) (HP.out W h) hn hval
  by_cases hpr : priceP B l
  · rw [priceB_true hpr] at hc2
    by_cases hr : 0 ≤ n ∧ n ≤ 5
    · obtain ⟨m, rfl⟩ : ∃ m : Nat, n = m := ⟨n.toNat, by omega⟩
      obtain ⟨e1, e2⟩ := befE_0 (n := m) hval hpr (by omega)
      have hN : l.length = B.Share.length + 1 := by have := hpr.1; have := hval.2.2.2.1; omega
      have hc3 := fun W h => before_any _ B po pc l B.Share.length m W (HV.out W h) (HP.out W h) hval hN rfl (by omega) (price_bd hpr)
      have hbt : betwB 0 (m : Int) 5 = true := by unfold betwB; exact decide_eq_true hr
      have HLEN := Lib.hid ((bN_len B l m).trans hN)
      rw [← hN] at hc3
      have E1 := Lib.hid e1
      have E2 := Lib.hid e2
      have HC := Lib.hid hc
      have HC2 := Lib.hid hc2
      have HC3 := Lib.hid hc3
      have HN := Lib.hid hN
      clear e1 e2 hc hc2 hc3 hN
      clear hval hpr
      go_enter Try.func46, Try.ntmps46
      go_wp2_with fail
      generalize hW : (w.alloc _) = W at *
      clear hW
      obtain ⟨f0, f1, f2⟩ := FF.out
      clear FF
      obtain ⟨x0, hx0⟩ : ∃ x : Aft W, x.val = W := ⟨⟨W, Below.refl _ W⟩, rfl⟩
      have F0 : Hid (Below w.heap.size w W) := f0
      have FZ : Hid (W.heap.size = w.heap.size + 1) := f1
      have FZ0 := Lib.hid (show x0.val.heap.size = w.heap.size + 1 by rw [hx0]; exact f1)
      have G0 : Hid (W.heap[w.heap.size]? = some (.cells #[.int .i64 B.W, .int .i64 B.H, .slice la B.Land.length lc, .slice sa B.Share.length sc] 25 (0, 0))) := f2
      have d0_0 : ∀ x : Aft W, x.val.cell? ⟨w.heap.size, 0, none⟩ = some (.int .i64 B.W) := fun x => cell_of_heap (x.heapH f2) 0
      have d0_1 : ∀ x : Aft W, x.val.cell? ⟨w.heap.size, 1, none⟩ = some (.int .i64 B.H) := fun x => cell_of_heap (x.heapH f2) 1
      have d0_2 : ∀ x : Aft W, x.val.cell? ⟨w.heap.size, 2, none⟩ = some (.slice la B.Land.length lc) := fun x => cell_of_heap (x.heapH f2) 2
      have d0_3 : ∀ x : Aft W, x.val.cell? ⟨w.heap.size, 3, none⟩ = some (.slice sa B.Share.length sc) := fun x => cell_of_heap (x.heapH f2) 3
      rw [← hx0]
      clear hx0 f0 f1 f2
      refine (HC.out _ (Aft.off F0.out x0)).mono ?_
      rintro e w1 ⟨rfl, hb⟩
      obtain ⟨x1, rfl, lk0'⟩ := x0.step (hb)
      have lk0 := Lib.hid lk0'
      clear hb lk0'
      go_wp2_with fail
      refine (HC2.out _ (Aft.off F0.out x1)).mono ?_
      rintro e w1 ⟨rfl, hb⟩
      obtain ⟨x2, rfl, lk1'⟩ := x1.step (hb)
      have lk1 := Lib.hid lk1'
      clear hb lk1'
      go_wp2_with (first | (go_at_call 60; refine (between_any _ _ _ _).mono ?_; rintro e w' ⟨rfl, rfl⟩))
      refine (HC3.out _ (Aft.off F0.out x2)).mono ?_
      rintro e w3 ⟨ao, c3, rfl, hi, hf, hb⟩
      obtain ⟨x3, rfl, lk2⟩ := x2.step hb
      have HI := Lib.hid hi
      have HF := Lib.hid hf
      have LK := Lib.hid lk2
      clear hi hf lk2
      clear hb
      go_wp2
      go_ret2
      refine ⟨ao, c3, ret_si rfl (by rw [E2.out, HN.out, HLEN.out]) rfl E1.out.symm, by rw [E2.out]; exact HI.out, fun a ha => ?_, Aft.off F0.out x3⟩
      have := HF.out a ha; have := (Aft.off F0.out x2).size; omega
    · have e1 := befE_2 (l := l) (n := n) hval (fun h => hr h.2)
      have e2 := befE_no e1 (by decide)
      have hbt : betwB 0 n 5 = false := by unfold betwB; exact decide_eq_false hr
      have E1 := Lib.hid e1
      have E2 := Lib.hid e2
      have HC := Lib.hid hc
      have HC2 := Lib.hid hc2
      clear e1 e2 hc hc2
      clear hval hpr hr
      go_enter Try.func46, Try.ntmps46
      go_wp2_with fail
      generalize hW : (w.alloc _) = W at *
      clear hW
      obtain ⟨f0, f1, f2⟩ := FF.out
      clear FF
      obtain ⟨x0, hx0⟩ : ∃ x : Aft W, x.val = W := ⟨⟨W, Below.refl _ W⟩, rfl⟩
      have F0 : Hid (Below w.heap.size w W) := f0
      have FZ : Hid (W.heap.size = w.heap.size + 1) := f1
      have FZ0 := Lib.hid (show x0.val.heap.size = w.heap.size + 1 by rw [hx0]; exact f1)
      have G0 : Hid (W.heap[w.heap.size]? = some (.cells #[.int .i64 B.W, .int .i64 B.H, .slice la B.Land.length lc, .slice sa B.Share.length sc] 25 (0, 0))) := f2
      have d0_0 : ∀ x : Aft W, x.val.cell? ⟨w.heap.size, 0, none⟩ = some (.int .i64 B.W) := fun x => cell_of_heap (x.heapH f2) 0
      have d0_1 : ∀ x : Aft W, x.val.cell? ⟨w.heap.size, 1, none⟩ = some (.int .i64 B.H) := fun x => cell_of_heap (x.heapH f2) 1
      have d0_2 : ∀ x : Aft W, x.val.cell? ⟨w.heap.size, 2, none⟩ = some (.slice la B.Land.length lc) := fun x => cell_of_heap (x.heapH f2) 2
      have d0_3 : ∀ x : Aft W, x.val.cell? ⟨w.heap.size, 3, none⟩ = some (.slice sa B.Share.length sc) := fun x => cell_of_heap (x.heapH f2) 3
      rw [← hx0]
      clear hx0 f0 f1 f2
      refine (HC.out _ (Aft.off F0.out x0)).mono ?_
      rintro e w1 ⟨rfl, hb⟩
      obtain ⟨x1, rfl, lk0'⟩ := x0.step (hb)
      have lk0 := Lib.hid lk0'
      clear hb lk0'
      go_wp2_with fail
      refine (HC2.out _ (Aft.off F0.out x1)).mono ?_
      rintro e w1 ⟨rfl, hb⟩
      obtain ⟨x2, rfl, lk1'⟩ := x1.step (hb)
      have lk1 := Lib.hid lk1'
      clear hb lk1'
      go_wp2_with (first | (go_at_call 60; refine (between_any _ _ _ _).mono ?_; rintro e w' ⟨rfl, rfl⟩))
      go_ret2
      exact ⟨none, 0, ret_si rfl (by rw [E2.out]; rfl) rfl E1.out.symm, by rw [E2.out]; exact fun h => absurd rfl h, fun a ha => by (cases ha), Aft.off F0.out x2⟩
  · rw [priceB_false hpr] at hc2
    have e1 := befE_2 (l := l) (n := n) hval (fun h => hpr h.1)
    have e2 := befE_no e1 (by decide)
    have E1 := Lib.hid e1
    have E2 := Lib.hid e2
    have HC := Lib.hid hc
    have HC2 := Lib.hid hc2
    clear e1 e2 hc hc2
    clear hval hpr
    go_enter Try.func46, Try.ntmps46
    go_wp2_with fail
    generalize hW : (w.alloc _) = W at *
    clear hW
    obtain ⟨f0, f1, f2⟩ := FF.out
    clear FF
    obtain ⟨x0, hx0⟩ : ∃ x : Aft W, x.val = W := ⟨⟨W, Below.refl _ W⟩, rfl⟩
    have F0 : Hid (Below w.heap.size w W) := f0
    have FZ : Hid (W.heap.size = w.heap.size + 1) := f1
    have FZ0 := Lib.hid (show x0.val.heap.size = w.heap.size + 1 by rw [hx0]; exact f1)
    have G0 : Hid (W.heap[w.heap.size]? = some (.cells #[.int .i64 B.W, .int .i64 B.H, .slice la B.Land.length lc, .slice sa B.Share.length sc] 25 (0, 0))) := f2
    have d0_0 : ∀ x : Aft W, x.val.cell? ⟨w.heap.size, 0, none⟩ = some (.int .i64 B.W) := fun x => cell_of_heap (x.heapH f2) 0
    have d0_1 : ∀ x : Aft W, x.val.cell? ⟨w.heap.size, 1, none⟩ = some (.int .i64 B.H) := fun x => cell_of_heap (x.heapH f2) 1
    have d0_2 : ∀ x : Aft W, x.val.cell? ⟨w.heap.size, 2, none⟩ = some (.slice la B.Land.length lc) := fun x => cell_of_heap (x.heapH f2) 2
    have d0_3 : ∀ x : Aft W, x.val.cell? ⟨w.heap.size, 3, none⟩ = some (.slice sa B.Share.length sc) := fun x => cell_of_heap (x.heapH f2) 3
    rw [← hx0]
    clear hx0 f0 f1 f2
    refine (HC.out _ (Aft.off F0.out x0)).mono ?_
    rintro e w1 ⟨rfl, hb⟩
    obtain ⟨x1, rfl, lk0'⟩ := x0.step (hb)
    have lk0 := Lib.hid lk0'
    clear hb lk0'
    go_wp2_with fail
    refine (HC2.out _ (Aft.off F0.out x1)).mono ?_
    rintro e w1 ⟨rfl, hb⟩
    obtain ⟨x2, rfl, lk1'⟩ := x1.step (hb)
    have lk1 := Lib.hid lk1'
    clear hb lk1'
    go_wp2
    go_ret2
    exact ⟨none, 0, ret_si rfl (by rw [E2.out]; rfl) rfl E1.out.symm, by rw [E2.out]; exact fun h => absurd rfl h, fun a ha => by (cases ha), Aft.off F0.out x2⟩
end Go.Proofs.Ytnafllhgjidbkaa

/- One part of oil in a cell. -/
namespace Go.Proofs.Ytnafllhgjidbkaa
open Go.RowKit Go.Shelf
set_option linter.unusedVariables false
set_option linter.unusedSimpArgs false
theorem makeWH {B : Bay} (hval : validP B) (W : World) : (Instr.makeSlice 26 (.int .i64 (B.W * B.H)) (.int .i64 (B.W * B.H))).run Try.prog W = .ok (.slice (some ⟨W.heap.size, 0, none⟩) B.Share.length B.Share.length) (W.alloc (.cells (zeros B.Share.length) 3)) := by
  have h := make26 B.Share.length (by have := mul36 hval.1.1 hval.1.2 hval.2.1.1 hval.2.1.2; have := hval.2.2.2.1; omega) W
  rw [hval.2.2.2.1] at h; exact h
theorem zeros_set (n i : Nat) (v : Int) : (zeros n).setIfInBounds i (.int .i64 v) = (((List.replicate n 0).set i v).map (Value.int .i64)).toArray := by
  apply Array.toList_inj.1; simp [zeros, List.map_set]
theorem zeros_map (n : Nat) : zeros n = ((List.replicate n (0 : Int)).map (Value.int .i64)).toArray := by simp [zeros]
set_option maxRecDepth 100000 in
set_option maxHeartbeats 1000000 in
theorem One_any (v : Value) (B : Bay) (i : Nat) (w : World) (hv : BayAt w v B) (hval : validP B) (hi : i ≤ B.Share.length) :
    Calls Try.prog 58 #[v, .int .i64 i] w fun e w' => ∃ rv, e = .returned rv ∧ SlkNew w.heap.size w' rv (oneS B i) ∧ Below w.heap.size w w' := by
  obtain ⟨la, lc, sa, sc, rfl, hl, hsh, hll, hsl⟩ := hv
  have hmk := makeWH hval
  have hWH := hval.2.2.2.1
  have h36 : 1 ≤ B.Share.length ∧ B.Share.length ≤ 36 := by have := mul36 hval.1.1 hval.1.2 hval.2.1.1 hval.2.1.2; omega
  obtain ⟨hp1, hp2⟩ := mul36 hval.1.1 hval.1.2 hval.2.1.1 hval.2.1.2
  have FF := Lib.hid (four_new (w := w) #[.int .i64 B.W, .int .i64 B.H, .slice la B.Land.length lc, .slice sa B.Share.length sc] #[.int .i64 0, .slice none 0 0, .int .i64 0] (zeros B.Share.length) #[.int .i64 0, .slice (some ⟨w.heap.size + 1 + 1, 0, none⟩) B.Share.length B.Share.length, .int .i64 0] 25 28 3 28)
  by_cases e : i = B.Share.length
  · have hb : ((i : Int) == B.W * B.H) = true := by rw [e]; simp [hWH]
    have HO : Hid (oneS B i = ⟨0, List.replicate B.Share.length 0, 1⟩) := by unfold Hid oneS; rw [if_pos e]
    clear hWH hl hsh hval
    go_enter Try.func58, Try.ntmps58
    go_upto_region 2 with (fail)
    generalize hW : ((((w.alloc _).alloc _).alloc _).alloc _) = W at *
    clear hW
    obtain ⟨f0, f1, f2, f3, f4, f5⟩ := FF.out
    clear FF
    obtain ⟨x0, hx0⟩ : ∃ x : Aft W, x.val = W := ⟨⟨W, Below.refl _ W⟩, rfl⟩
    have F0 : Hid (Below w.heap.size w W) := f0
    have FZ : Hid (W.heap.size = w.heap.size + 4) := f1
    have FZ0 := Lib.hid (show x0.val.heap.size = w.heap.size + 4 by rw [hx0]; exact f1)
    have G0 : Hid (W.heap[w.heap.size]? = some (.cells #[.int .i64 B.W, .int .i64 B.H, .slice la B.Land.length lc, .slice sa B.Share.length sc] 25 (0, 0))) := f2
    have d0_0 : ∀ x : Aft W, x.val.cell? ⟨w.heap.size, 0, none⟩ = some (.int .i64 B.W) := fun x => cell_of_heap (x.heapH f2) 0
    have d0_1 : ∀ x : Aft W, x.val.cell? ⟨w.heap.size, 1, none⟩ = some (.int .i64 B.H) := fun x => cell_of_heap (x.heapH f2) 1
    have d0_2 : ∀ x : Aft W, x.val.cell? ⟨w.heap.size, 2, none⟩ = some (.slice la B.Land.length lc) := fun x => cell_of_heap (x.heapH f2) 2
    have d0_3 : ∀ x : Aft W, x.val.cell? ⟨w.heap.size, 3, none⟩ = some (.slice sa B.Share.length sc) := fun x => cell_of_heap (x.heapH f2) 3
    have G1 : Hid (W.heap[w.heap.size + 1]? = some (.cells #[.int .i64 0, .slice none 0 0, .int .i64 0] 28 (0, 0))) := f3
    have d1_0 : ∀ x : Aft W, x.val.cell? ⟨w.heap.size + 1, 0, none⟩ = some (.int .i64 0) := fun x => cell_of_heap (x.heapH f3) 0
    have d1_1 : ∀ x : Aft W, x.val.cell? ⟨w.heap.size + 1, 1, none⟩ = some (.slice none 0 0) := fun x => cell_of_heap (x.heapH f3) 1
    have d1_2 : ∀ x : Aft W, x.val.cell? ⟨w.heap.size + 1, 2, none⟩ = some (.int .i64 0) := fun x => cell_of_heap (x.heapH f3) 2
    have z1 : ∀ (x : Aft W) (o : Nat), x.val.frozen? ⟨w.heap.size + 1, o, none⟩ = false := fun x o => free_of_heap (x.heapH f3) o
    have G2 : Hid (W.heap[w.heap.size + 1 + 1]? = some (.cells (zeros B.Share.length) 3 (0, 0))) := f4
    have z2 : ∀ (x : Aft W) (o : Nat), x.val.frozen? ⟨w.heap.size + 1 + 1, o, none⟩ = false := fun x o => free_of_heap (x.heapH f4) o
    have G3 : Hid (W.heap[w.heap.size + 1 + 1 + 1]? = some (.cells #[.int .i64 0, .slice (some ⟨w.heap.size + 1 + 1, 0, none⟩) B.Share.length B.Share.length, .int .i64 0] 28 (0, 0))) := f5
    have d3_0 : ∀ x : Aft W, x.val.cell? ⟨w.heap.size + 1 + 1 + 1, 0, none⟩ = some (.int .i64 0) := fun x => cell_of_heap (x.heapH f5) 0
    have d3_1 : ∀ x : Aft W, x.val.cell? ⟨w.heap.size + 1 + 1 + 1, 1, none⟩ = some (.slice (some ⟨w.heap.size + 1 + 1, 0, none⟩) B.Share.length B.Share.length) := fun x => cell_of_heap (x.heapH f5) 1
    have d3_2 : ∀ x : Aft W, x.val.cell? ⟨w.heap.size + 1 + 1 + 1, 2, none⟩ = some (.int .i64 0) := fun x => cell_of_heap (x.heapH f5) 2
    have z3 : ∀ (x : Aft W) (o : Nat), x.val.frozen? ⟨w.heap.size + 1 + 1 + 1, o, none⟩ = false := fun x o => free_of_heap (x.heapH f5) o
    rw [← hx0]
    clear hx0 f0 f1 f2 f3 f4 f5
    clear hmk
    have hsz : w.heap.size + 1 + 1 + 1 < x0.val.heap.size := by have := FZ0.out; omega
    go_wp2_with fail
    have hb1 : w.heap.size + 1 ≠ w.heap.size + 1 + 1 + 1 := by omega
    have hb2 : w.heap.size + 1 + 1 ≠ w.heap.size + 1 + 1 + 1 := by omega
    have hb3 : w.heap.size + 1 + 1 ≠ w.heap.size + 1 := by omega
    have e2 := (heap_setCell_other (W := x0.val) (b := w.heap.size + 1) (p := ⟨w.heap.size + 1 + 1 + 1, 2, none⟩) hb1 (.int .i64 1)).trans (x0.heapH G1.out)
    have e3 := res3 e2 (.int .i64 0) (.slice (some ⟨w.heap.size + 1 + 1, 0, none⟩) B.Share.length B.Share.length) (.int .i64 1)
    obtain ⟨r0, r1, r2⟩ := res3c e3
    refine bodyPost_ret (v := .agg #[.int .i64 0, .slice (some ⟨w.heap.size + 1 + 1, 0, none⟩) B.Share.length B.Share.length, .int .i64 1]) (by simp [results, Try.results58, go_sem, r0, r1, r2]) rfl ?_
    rw [HO.out]
    refine ⟨_, rfl, ⟨some ⟨w.heap.size + 1 + 1, 0, none⟩, B.Share.length, by simp, ?_, by simp; omega, fun a ha => by cases ha; show _ ≤ w.heap.size + 1 + 1; omega⟩, ?_⟩
    · refine ints_of_heap (t := 3) (f := (0, 0)) ?_
      rw [heap_setCell_other hb3, heap_setCell_other hb3, heap_setCell_other hb3, heap_setCell_other hb2, x0.heapH G2.out, zeros_map]
    · exact ((((Aft.off F0.out x0).setCell (by simp <;> omega) _).setCell (by simp <;> omega) _).setCell (by simp <;> omega) _).setCell (by simp <;> omega) _
  · have hb : ((i : Int) == B.W * B.H) = false := by simp; omega
    have HO : Hid (oneS B i = ⟨0, (List.replicate B.Share.length 0).set i 1, 0⟩) := by unfold Hid oneS; rw [if_neg e]
    have hi' : (i : Int) < B.Share.length := by omega
    have hiN : i < B.Share.length := by omega
    clear hWH hl hsh hval e
    go_enter Try.func58, Try.ntmps58
    go_upto_region 2 with (fail)
    generalize hW : ((((w.alloc _).alloc _).alloc _).alloc _) = W at *
    clear hW
    obtain ⟨f0, f1, f2, f3, f4, f5⟩ := FF.out
    clear FF
    obtain ⟨x0, hx0⟩ : ∃ x : Aft W, x.val = W := ⟨⟨W, Below.refl _ W⟩, rfl⟩
    have F0 : Hid (Below w.heap.size w W) := f0
    have FZ : Hid (W.heap.size = w.heap.size + 4) := f1
    have FZ0 := Lib.hid (show x0.val.heap.size = w.heap.size + 4 by rw [hx0]; exact f1)
    have G0 : Hid (W.heap[w.heap.size]? = some (.cells #[.int .i64 B.W, .int .i64 B.H, .slice la B.Land.length lc, .slice sa B.Share.length sc] 25 (0, 0))) := f2
    have d0_0 : ∀ x : Aft W, x.val.cell? ⟨w.heap.size, 0, none⟩ = some (.int .i64 B.W) := fun x => cell_of_heap (x.heapH f2) 0
    have d0_1 : ∀ x : Aft W, x.val.cell? ⟨w.heap.size, 1, none⟩ = some (.int .i64 B.H) := fun x => cell_of_heap (x.heapH f2) 1
    have d0_2 : ∀ x : Aft W, x.val.cell? ⟨w.heap.size, 2, none⟩ = some (.slice la B.Land.length lc) := fun x => cell_of_heap (x.heapH f2) 2
    have d0_3 : ∀ x : Aft W, x.val.cell? ⟨w.heap.size, 3, none⟩ = some (.slice sa B.Share.length sc) := fun x => cell_of_heap (x.heapH f2) 3
    have G1 : Hid (W.heap[w.heap.size + 1]? = some (.cells #[.int .i64 0, .slice none 0 0, .int .i64 0] 28 (0, 0))) := f3
    have d1_0 : ∀ x : Aft W, x.val.cell? ⟨w.heap.size + 1, 0, none⟩ = some (.int .i64 0) := fun x => cell_of_heap (x.heapH f3) 0
    have d1_1 : ∀ x : Aft W, x.val.cell? ⟨w.heap.size + 1, 1, none⟩ = some (.slice none 0 0) := fun x => cell_of_heap (x.heapH f3) 1
    have d1_2 : ∀ x : Aft W, x.val.cell? ⟨w.heap.size + 1, 2, none⟩ = some (.int .i64 0) := fun x => cell_of_heap (x.heapH f3) 2
    have z1 : ∀ (x : Aft W) (o : Nat), x.val.frozen? ⟨w.heap.size + 1, o, none⟩ = false := fun x o => free_of_heap (x.heapH f3) o
    have G2 : Hid (W.heap[w.heap.size + 1 + 1]? = some (.cells (zeros B.Share.length) 3 (0, 0))) := f4
    have z2 : ∀ (x : Aft W) (o : Nat), x.val.frozen? ⟨w.heap.size + 1 + 1, o, none⟩ = false := fun x o => free_of_heap (x.heapH f4) o
    have G3 : Hid (W.heap[w.heap.size + 1 + 1 + 1]? = some (.cells #[.int .i64 0, .slice (some ⟨w.heap.size + 1 + 1, 0, none⟩) B.Share.length B.Share.length, .int .i64 0] 28 (0, 0))) := f5
    have d3_0 : ∀ x : Aft W, x.val.cell? ⟨w.heap.size + 1 + 1 + 1, 0, none⟩ = some (.int .i64 0) := fun x => cell_of_heap (x.heapH f5) 0
    have d3_1 : ∀ x : Aft W, x.val.cell? ⟨w.heap.size + 1 + 1 + 1, 1, none⟩ = some (.slice (some ⟨w.heap.size + 1 + 1, 0, none⟩) B.Share.length B.Share.length) := fun x => cell_of_heap (x.heapH f5) 1
    have d3_2 : ∀ x : Aft W, x.val.cell? ⟨w.heap.size + 1 + 1 + 1, 2, none⟩ = some (.int .i64 0) := fun x => cell_of_heap (x.heapH f5) 2
    have z3 : ∀ (x : Aft W) (o : Nat), x.val.frozen? ⟨w.heap.size + 1 + 1 + 1, o, none⟩ = false := fun x o => free_of_heap (x.heapH f5) o
    rw [← hx0]
    clear hx0 f0 f1 f2 f3 f4 f5
    clear hmk
    have hsz : w.heap.size + 1 + 1 + 1 < x0.val.heap.size := by have := FZ0.out; omega
    have hc : x0.val.cell? ⟨w.heap.size + 1 + 1, i, none⟩ = some (.int .i64 0) := by rw [cell_of_heap (x0.heapH G2.out) i]; simp [zeros, hiN]
    go_wp2_with fail
    have hb1 : w.heap.size + 1 ≠ w.heap.size + 1 + 1 + 1 := by omega
    have hb2 : w.heap.size + 1 + 1 ≠ w.heap.size + 1 + 1 + 1 := by omega
    have hb3 : w.heap.size + 1 + 1 ≠ w.heap.size + 1 := by omega
    have e2 := (heap_setCell_other (W := x0.val) (b := w.heap.size + 1) (p := ⟨w.heap.size + 1 + 1, i, none⟩) hb3.symm (.int .i64 1)).trans (x0.heapH G1.out)
    have e3 := res3 e2 (.int .i64 0) (.slice (some ⟨w.heap.size + 1 + 1, 0, none⟩) B.Share.length B.Share.length) (.int .i64 0)
    obtain ⟨r0, r1, r2⟩ := res3c e3
    refine bodyPost_ret (v := .agg #[.int .i64 0, .slice (some ⟨w.heap.size + 1 + 1, 0, none⟩) B.Share.length B.Share.length, .int .i64 0]) (by simp [results, Try.results58, go_sem, r0, r1, r2]) rfl ?_
    rw [HO.out]
    refine ⟨_, rfl, ⟨some ⟨w.heap.size + 1 + 1, 0, none⟩, B.Share.length, by simp, ?_, by simp; omega, fun a ha => by cases ha; show _ ≤ w.heap.size + 1 + 1; omega⟩, ?_⟩
    · refine ints_of_heap (t := 3) (f := (0, 0)) ?_
      rw [heap_setCell_other hb3, heap_setCell_other hb3, heap_setCell_other hb3, heap_setCell_same (x0.heapH G2.out), zeros_set]
    · exact ((((Aft.off F0.out x0).setCell (by simp <;> omega) _).setCell (by simp <;> omega) _).setCell (by simp <;> omega) _).setCell (by simp <;> omega) _
set_option maxRecDepth 100000 in
set_option maxHeartbeats 1000000 in
theorem one_any (v : Value) (B : Bay) (i : Nat) (w : World) (hv : BayAt w v B) (hval : validP B) (hi : i < B.Share.length) :
    Calls Try.prog 82 #[v, .int .i64 i] w fun e w' => ∃ rv, e = .returned rv ∧ SlkNew w.heap.size w' rv (oneS B i) ∧ Below w.heap.size w w' := by
  obtain ⟨la, lc, sa, sc, rfl, hl, hsh, hll, hsl⟩ := hv
  have hWH := hval.2.2.2.1
  have hLS : B.Land.length = B.Share.length := by have := hval.2.2.1; omega
  have h36 : 1 ≤ B.Share.length ∧ B.Share.length ≤ 36 := by have := mul36 hval.1.1 hval.1.2 hval.2.1.1 hval.2.1.2; omega
  have hmk := fun W => make26 B.Share.length (by omega) W
  rw [hLS]
  have FF := Lib.hid (four_new (w := w) #[.int .i64 B.W, .int .i64 B.H, .slice la B.Share.length lc, .slice sa B.Share.length sc] #[.int .i64 0, .slice none 0 0, .int .i64 0] (zeros B.Share.length) #[.int .i64 0, .slice (some ⟨w.heap.size + 1 + 1, 0, none⟩) B.Share.length B.Share.length, .int .i64 0] 25 28 3 28)
  have HO : Hid (oneS B i = ⟨0, (List.replicate B.Share.length 0).set i 1, 0⟩) := by unfold Hid oneS; rw [if_neg (by omega)]
  have hi' : (i : Int) < B.Share.length := by omega
  have hiN := hi
  clear hWH hl hsh hval hLS
  go_enter Try.func82, Try.ntmps82
  go_upto_region 2 with (fail)
  generalize hW : ((((w.alloc _).alloc _).alloc _).alloc _) = W at *
  clear hW
  obtain ⟨f0, f1, f2, f3, f4, f5⟩ := FF.out
  clear FF
  obtain ⟨x0, hx0⟩ : ∃ x : Aft W, x.val = W := ⟨⟨W, Below.refl _ W⟩, rfl⟩
  have F0 : Hid (Below w.heap.size w W) := f0
  have FZ : Hid (W.heap.size = w.heap.size + 4) := f1
  have FZ0 := Lib.hid (show x0.val.heap.size = w.heap.size + 4 by rw [hx0]; exact f1)
  have G0 : Hid (W.heap[w.heap.size]? = some (.cells #[.int .i64 B.W, .int .i64 B.H, .slice la B.Share.length lc, .slice sa B.Share.length sc] 25 (0, 0))) := f2
  have d0_0 : ∀ x : Aft W, x.val.cell? ⟨w.heap.size, 0, none⟩ = some (.int .i64 B.W) := fun x => cell_of_heap (x.heapH f2) 0
  have d0_1 : ∀ x : Aft W, x.val.cell? ⟨w.heap.size, 1, none⟩ = some (.int .i64 B.H) := fun x => cell_of_heap (x.heapH f2) 1
  have d0_2 : ∀ x : Aft W, x.val.cell? ⟨w.heap.size, 2, none⟩ = some (.slice la B.Share.length lc) := fun x => cell_of_heap (x.heapH f2) 2
  have d0_3 : ∀ x : Aft W, x.val.cell? ⟨w.heap.size, 3, none⟩ = some (.slice sa B.Share.length sc) := fun x => cell_of_heap (x.heapH f2) 3
  have G1 : Hid (W.heap[w.heap.size + 1]? = some (.cells #[.int .i64 0, .slice none 0 0, .int .i64 0] 28 (0, 0))) := f3
  have d1_0 : ∀ x : Aft W, x.val.cell? ⟨w.heap.size + 1, 0, none⟩ = some (.int .i64 0) := fun x => cell_of_heap (x.heapH f3) 0
  have d1_1 : ∀ x : Aft W, x.val.cell? ⟨w.heap.size + 1, 1, none⟩ = some (.slice none 0 0) := fun x => cell_of_heap (x.heapH f3) 1
  have d1_2 : ∀ x : Aft W, x.val.cell? ⟨w.heap.size + 1, 2, none⟩ = some (.int .i64 0) := fun x => cell_of_heap (x.heapH f3) 2
  have z1 : ∀ (x : Aft W) (o : Nat), x.val.frozen? ⟨w.heap.size + 1, o, none⟩ = false := fun x o => free_of_heap (x.heapH f3) o
  have G2 : Hid (W.heap[w.heap.size + 1 + 1]? = some (.cells (zeros B.Share.length) 3 (0, 0))) := f4
  have z2 : ∀ (x : Aft W) (o : Nat), x.val.frozen? ⟨w.heap.size + 1 + 1, o, none⟩ = false := fun x o => free_of_heap (x.heapH f4) o
  have G3 : Hid (W.heap[w.heap.size + 1 + 1 + 1]? = some (.cells #[.int .i64 0, .slice (some ⟨w.heap.size + 1 + 1, 0, none⟩) B.Share.length B.Share.length, .int .i64 0] 28 (0, 0))) := f5
  have d3_0 : ∀ x : Aft W, x.val.cell? ⟨w.heap.size + 1 + 1 + 1, 0, none⟩ = some (.int .i64 0) := fun x => cell_of_heap (x.heapH f5) 0
  have d3_1 : ∀ x : Aft W, x.val.cell? ⟨w.heap.size + 1 + 1 + 1, 1, none⟩ = some (.slice (some ⟨w.heap.size + 1 + 1, 0, none⟩) B.Share.length B.Share.length) := fun x => cell_of_heap (x.heapH f5) 1
  have d3_2 : ∀ x : Aft W, x.val.cell? ⟨w.heap.size + 1 + 1 + 1, 2, none⟩ = some (.int .i64 0) := fun x => cell_of_heap (x.heapH f5) 2
  have z3 : ∀ (x : Aft W) (o : Nat), x.val.frozen? ⟨w.heap.size + 1 + 1 + 1, o, none⟩ = false := fun x o => free_of_heap (x.heapH f5) o
  rw [← hx0]
  clear hx0 f0 f1 f2 f3 f4 f5
  clear hmk
  have hsz : w.heap.size + 1 + 1 + 1 < x0.val.heap.size := by have := FZ0.out; omega
  have hc : x0.val.cell? ⟨w.heap.size + 1 + 1, i, none⟩ = some (.int .i64 0) := by rw [cell_of_heap (x0.heapH G2.out) i]; simp [zeros, hiN]
  go_wp2_with fail
  have hb1 : w.heap.size + 1 ≠ w.heap.size + 1 + 1 + 1 := by omega
  have hb2 : w.heap.size + 1 + 1 ≠ w.heap.size + 1 + 1 + 1 := by omega
  have hb3 : w.heap.size + 1 + 1 ≠ w.heap.size + 1 := by omega
  have e2 := (heap_setCell_other (W := x0.val) (b := w.heap.size + 1) (p := ⟨w.heap.size + 1 + 1, i, none⟩) hb3.symm (.int .i64 1)).trans (x0.heapH G1.out)
  have e3 := res3 e2 (.int .i64 0) (.slice (some ⟨w.heap.size + 1 + 1, 0, none⟩) B.Share.length B.Share.length) (.int .i64 0)
  obtain ⟨r0, r1, r2⟩ := res3c e3
  refine bodyPost_ret (v := .agg #[.int .i64 0, .slice (some ⟨w.heap.size + 1 + 1, 0, none⟩) B.Share.length B.Share.length, .int .i64 0]) (by simp [results, Try.results82, go_sem, r0, r1, r2]) rfl ?_
  rw [HO.out]
  refine ⟨_, rfl, ⟨some ⟨w.heap.size + 1 + 1, 0, none⟩, B.Share.length, by simp, ?_, by simp; omega, fun a ha => by cases ha; show _ ≤ w.heap.size + 1 + 1; omega⟩, ?_⟩
  · refine ints_of_heap (t := 3) (f := (0, 0)) ?_
    rw [heap_setCell_other hb3, heap_setCell_other hb3, heap_setCell_other hb3, heap_setCell_same (x0.heapH G2.out), zeros_set]
  · exact ((((Aft.off F0.out x0).setCell (by simp <;> omega) _).setCell (by simp <;> omega) _).setCell (by simp <;> omega) _).setCell (by simp <;> omega) _
end Go.Proofs.Ytnafllhgjidbkaa

/- Cells of a kind; the first greatest number of a list. -/
namespace Go.Proofs.Ytnafllhgjidbkaa
open Go.RowKit Go.Shelf
set_option linter.unusedVariables false
set_option linter.unusedSimpArgs false
def cellP (B : Bay) (i : Int) (ld : Bool) : Prop := 0 ≤ i ∧ i < B.Share.length ∧ B.Land.getD i.toNat false = ld
open Classical in
noncomputable def cellB (B : Bay) (i : Int) (ld : Bool) : Bool := decide (cellP B i ld)
theorem cellB_true {B : Bay} {i : Int} {ld : Bool} (h : cellP B i ld) : cellB B i ld = true := by simp [cellB, h]
theorem cellB_false {B : Bay} {i : Int} {ld : Bool} (h : ¬ cellP B i ld) : cellB B i ld = false := by simp [cellB, h]
noncomputable def placE (B : Bay) (i : Int) (ld : Bool) (n : Int) : Int := if validB B = true then (if cellB B i ld = true ∧ 0 ≤ n ∧ n ≤ 5 then 0 else 2) else 20
theorem placE_cases (B : Bay) (i : Int) (ld : Bool) (n : Int) : (placE B i ld n = 0 ∧ validP B ∧ cellP B i ld ∧ 0 ≤ n ∧ n ≤ 5) ∨ placE B i ld n = 2 ∨ placE B i ld n = 20 := by
  unfold placE
  by_cases h : validP B
  · rw [if_pos (validB_true h)]
    by_cases h2 : cellP B i ld ∧ 0 ≤ n ∧ n ≤ 5
    · rw [if_pos ⟨cellB_true h2.1, h2.2⟩]; exact .inl ⟨rfl, h, h2.1, h2.2⟩
    · rw [if_neg (fun hh => h2 ⟨Classical.byContradiction (fun hn => by rw [cellB_false hn] at hh; cases hh.1), hh.2⟩)]; exact .inr (.inl rfl)
  · rw [if_neg (by rw [validB_false h]; simp)]; exact .inr (.inr rfl)

set_option maxRecDepth 100000 in
theorem cell_any (v : Value) (B : Bay) (i : Int) (ld : Bool) (w : World) (hv : BayAt w v B) (hval : validP B) (hii : -9223372036854775808 ≤ i ∧ i ≤ 9223372036854775807) :
    Calls Try.prog 91 #[v, .int .i64 i, .bool ld] w fun e w' => e = .returned (.bool (cellB B i ld)) ∧ Below w.heap.size w w' := by
  obtain ⟨la, lc, sa, sc, rfl, hl, hsh, hll, hsl⟩ := hv
  have hLS : B.Land.length = B.Share.length := by have := hval.2.2.1; have := hval.2.2.2.1; omega
  have HLD := Lib.hid (fun W (h : Below w.heap.size w W) => hl.below (Nat.le_refl _) h)
  by_cases hr : 0 ≤ i ∧ i ≤ (B.Land.length : Int) - 1
  · have hbt : betwB 0 i ((B.Land.length : Int) - 1) = true := by unfold betwB; exact decide_eq_true hr
    obtain ⟨n, rfl⟩ : ∃ n : Nat, i = n := ⟨i.toNat, by omega⟩
    have hn : (n : Int) < B.Land.length := by omega
    obtain ⟨bl, ol, rfl, hbl, _⟩ := hl.get (k := n) (by omega)
    have hcl : Hid (∀ x : World, Below w.heap.size w x → x.cell? ⟨bl, ol + n, none⟩ = some (.bool (B.Land.getD n false))) := fun x h => by
      obtain ⟨b', o', e, _, hc⟩ := (HLD.out _ h).get (k := n) (by omega); cases e; exact hc
    have HR : Hid (cellB B n ld = (B.Land.getD n false == ld)) := by
      unfold Hid
      by_cases h : B.Land.getD n false = ld
      · rw [cellB_true ⟨by omega, by omega, by rw [Int.toNat_natCast]; exact h⟩]; exact (beq_iff_eq.2 h).symm
      · rw [cellB_false (fun hh => h (by have := hh.2.2; rwa [Int.toNat_natCast] at this))]; exact (beq_eq_false_iff_ne.2 h).symm
    have FF := Lib.hid (one_new (w := w) #[.int .i64 B.W, .int .i64 B.H, .slice (some ⟨bl, ol, none⟩) B.Land.length lc, .slice sa B.Share.length sc] 25)
    clear hLS hl hsh hval
    generalize B.Land.getD n false = g at *
    go_enter Try.func91, Try.ntmps91
    go_wp2_with fail
    generalize hW : (w.alloc _) = W at *
    clear hW
    obtain ⟨f0, f1, f2⟩ := FF.out
    clear FF
    obtain ⟨x0, hx0⟩ : ∃ x : Aft W, x.val = W := ⟨⟨W, Below.refl _ W⟩, rfl⟩
    have F0 : Hid (Below w.heap.size w W) := f0
    have FZ : Hid (W.heap.size = w.heap.size + 1) := f1
    have FZ0 := Lib.hid (show x0.val.heap.size = w.heap.size + 1 by rw [hx0]; exact f1)
    have G0 : Hid (W.heap[w.heap.size]? = some (.cells #[.int .i64 B.W, .int .i64 B.H, .slice (some ⟨bl, ol, none⟩) B.Land.length lc, .slice sa B.Share.length sc] 25 (0, 0))) := f2
    have d0_0 : ∀ x : Aft W, x.val.cell? ⟨w.heap.size, 0, none⟩ = some (.int .i64 B.W) := fun x => cell_of_heap (x.heapH f2) 0
    have d0_1 : ∀ x : Aft W, x.val.cell? ⟨w.heap.size, 1, none⟩ = some (.int .i64 B.H) := fun x => cell_of_heap (x.heapH f2) 1
    have d0_2 : ∀ x : Aft W, x.val.cell? ⟨w.heap.size, 2, none⟩ = some (.slice (some ⟨bl, ol, none⟩) B.Land.length lc) := fun x => cell_of_heap (x.heapH f2) 2
    have d0_3 : ∀ x : Aft W, x.val.cell? ⟨w.heap.size, 3, none⟩ = some (.slice sa B.Share.length sc) := fun x => cell_of_heap (x.heapH f2) 3
    rw [← hx0]
    clear hx0 f0 f1 f2
    have hc := hcl.out _ (Aft.off F0.out x0)
    go_wp2_with (first | (go_at_call 60; refine (between_any _ _ _ _).mono ?_; rintro e w' ⟨rfl, rfl⟩))
    go_ret
    exact ⟨ret_bool HR.out.symm, Aft.off F0.out x0⟩
  · have hbt : betwB 0 i ((B.Land.length : Int) - 1) = false := by unfold betwB; exact decide_eq_false hr
    have HR := Lib.hid (cellB_false (B := B) (i := i) (ld := ld) (fun h => hr ⟨h.1, by have := h.2.1; omega⟩))
    have FF := Lib.hid (one_new (w := w) #[.int .i64 B.W, .int .i64 B.H, .slice la B.Land.length lc, .slice sa B.Share.length sc] 25)
    clear hLS hl hsh hval hr
    go_enter Try.func91, Try.ntmps91
    go_wp2_with fail
    generalize hW : (w.alloc _) = W at *
    clear hW
    obtain ⟨f0, f1, f2⟩ := FF.out
    clear FF
    obtain ⟨x0, hx0⟩ : ∃ x : Aft W, x.val = W := ⟨⟨W, Below.refl _ W⟩, rfl⟩
    have F0 : Hid (Below w.heap.size w W) := f0
    have FZ : Hid (W.heap.size = w.heap.size + 1) := f1
    have FZ0 := Lib.hid (show x0.val.heap.size = w.heap.size + 1 by rw [hx0]; exact f1)
    have G0 : Hid (W.heap[w.heap.size]? = some (.cells #[.int .i64 B.W, .int .i64 B.H, .slice la B.Land.length lc, .slice sa B.Share.length sc] 25 (0, 0))) := f2
    have d0_0 : ∀ x : Aft W, x.val.cell? ⟨w.heap.size, 0, none⟩ = some (.int .i64 B.W) := fun x => cell_of_heap (x.heapH f2) 0
    have d0_1 : ∀ x : Aft W, x.val.cell? ⟨w.heap.size, 1, none⟩ = some (.int .i64 B.H) := fun x => cell_of_heap (x.heapH f2) 1
    have d0_2 : ∀ x : Aft W, x.val.cell? ⟨w.heap.size, 2, none⟩ = some (.slice la B.Land.length lc) := fun x => cell_of_heap (x.heapH f2) 2
    have d0_3 : ∀ x : Aft W, x.val.cell? ⟨w.heap.size, 3, none⟩ = some (.slice sa B.Share.length sc) := fun x => cell_of_heap (x.heapH f2) 3
    rw [← hx0]
    clear hx0 f0 f1 f2
    go_wp2_with (first | (go_at_call 60; refine (between_any _ _ _ _).mono ?_; rintro e w' ⟨rfl, rfl⟩))
    go_ret
    exact ⟨ret_bool HR.out.symm, Aft.off F0.out x0⟩

set_option maxRecDepth 100000 in
theorem isCell_any (v : Value) (B : Bay) (i : Int) (ld : Bool) (w : World) (hv : BayAt w v B) (hval : validP B) (hii : -9223372036854775808 ≤ i ∧ i ≤ 9223372036854775807) :
    Calls Try.prog 94 #[v, .int .i64 i, .bool ld] w fun e w' => e = .returned (.bool (cellB B i ld)) ∧ Below w.heap.size w w' := by
  obtain ⟨la, lc, sa, sc, rfl, hl, hsh, hll, hsl⟩ := hv
  have hLS : B.Land.length = B.Share.length := by have := hval.2.2.1; have := hval.2.2.2.1; omega
  have hWH := hval.2.2.2.1
  obtain ⟨hp1, hp2⟩ := mul36 hval.1.1 hval.1.2 hval.2.1.1 hval.2.1.2
  have HLD := Lib.hid (fun W (h : Below w.heap.size w W) => hl.below (Nat.le_refl _) h)
  by_cases h0 : 0 ≤ i
  case neg =>
    have HR := Lib.hid (cellB_false (B := B) (i := i) (ld := ld) (fun h => h0 h.1))
    have FF := Lib.hid (one_new (w := w) #[.int .i64 B.W, .int .i64 B.H, .slice la B.Land.length lc, .slice sa B.Share.length sc] 25)
    clear hLS hl hsh hval hWH
    go_enter Try.func94, Try.ntmps94
    go_wp2_with fail
    generalize hW : (w.alloc _) = W at *
    clear hW
    obtain ⟨f0, f1, f2⟩ := FF.out
    clear FF
    obtain ⟨x0, hx0⟩ : ∃ x : Aft W, x.val = W := ⟨⟨W, Below.refl _ W⟩, rfl⟩
    have F0 : Hid (Below w.heap.size w W) := f0
    have FZ : Hid (W.heap.size = w.heap.size + 1) := f1
    have FZ0 := Lib.hid (show x0.val.heap.size = w.heap.size + 1 by rw [hx0]; exact f1)
    have G0 : Hid (W.heap[w.heap.size]? = some (.cells #[.int .i64 B.W, .int .i64 B.H, .slice la B.Land.length lc, .slice sa B.Share.length sc] 25 (0, 0))) := f2
    have d0_0 : ∀ x : Aft W, x.val.cell? ⟨w.heap.size, 0, none⟩ = some (.int .i64 B.W) := fun x => cell_of_heap (x.heapH f2) 0
    have d0_1 : ∀ x : Aft W, x.val.cell? ⟨w.heap.size, 1, none⟩ = some (.int .i64 B.H) := fun x => cell_of_heap (x.heapH f2) 1
    have d0_2 : ∀ x : Aft W, x.val.cell? ⟨w.heap.size, 2, none⟩ = some (.slice la B.Land.length lc) := fun x => cell_of_heap (x.heapH f2) 2
    have d0_3 : ∀ x : Aft W, x.val.cell? ⟨w.heap.size, 3, none⟩ = some (.slice sa B.Share.length sc) := fun x => cell_of_heap (x.heapH f2) 3
    rw [← hx0]
    clear hx0 f0 f1 f2
    go_wp2
    go_ret
    exact ⟨ret_bool HR.out.symm, Aft.off F0.out x0⟩
  by_cases hr : i < B.W * B.H
  · obtain ⟨n, rfl⟩ : ∃ n : Nat, i = n := ⟨i.toNat, by omega⟩
    have hn : (n : Int) < B.Land.length := by omega
    obtain ⟨bl, ol, rfl, hbl, _⟩ := hl.get (k := n) (by omega)
    have hcl : Hid (∀ x : World, Below w.heap.size w x → x.cell? ⟨bl, ol + n, none⟩ = some (.bool (B.Land.getD n false))) := fun x h => by
      obtain ⟨b', o', e, _, hc⟩ := (HLD.out _ h).get (k := n) (by omega); cases e; exact hc
    have HR : Hid (cellB B n ld = (B.Land.getD n false == ld)) := by
      unfold Hid
      by_cases h : B.Land.getD n false = ld
      · rw [cellB_true ⟨by omega, by omega, by rw [Int.toNat_natCast]; exact h⟩]; exact (beq_iff_eq.2 h).symm
      · rw [cellB_false (fun hh => h (by have := hh.2.2; rwa [Int.toNat_natCast] at this))]; exact (beq_eq_false_iff_ne.2 h).symm
    have FF := Lib.hid (one_new (w := w) #[.int .i64 B.W, .int .i64 B.H, .slice (some ⟨bl, ol, none⟩) B.Land.length lc, .slice sa B.Share.length sc] 25)
    clear hLS hl hsh hval hWH
    generalize B.Land.getD n false = g at *
    go_enter Try.func94, Try.ntmps94
    go_wp2_with fail
    generalize hW : (w.alloc _) = W at *
    clear hW
    obtain ⟨f0, f1, f2⟩ := FF.out
    clear FF
    obtain ⟨x0, hx0⟩ : ∃ x : Aft W, x.val = W := ⟨⟨W, Below.refl _ W⟩, rfl⟩
    have F0 : Hid (Below w.heap.size w W) := f0
    have FZ : Hid (W.heap.size = w.heap.size + 1) := f1
    have FZ0 := Lib.hid (show x0.val.heap.size = w.heap.size + 1 by rw [hx0]; exact f1)
    have G0 : Hid (W.heap[w.heap.size]? = some (.cells #[.int .i64 B.W, .int .i64 B.H, .slice (some ⟨bl, ol, none⟩) B.Land.length lc, .slice sa B.Share.length sc] 25 (0, 0))) := f2
    have d0_0 : ∀ x : Aft W, x.val.cell? ⟨w.heap.size, 0, none⟩ = some (.int .i64 B.W) := fun x => cell_of_heap (x.heapH f2) 0
    have d0_1 : ∀ x : Aft W, x.val.cell? ⟨w.heap.size, 1, none⟩ = some (.int .i64 B.H) := fun x => cell_of_heap (x.heapH f2) 1
    have d0_2 : ∀ x : Aft W, x.val.cell? ⟨w.heap.size, 2, none⟩ = some (.slice (some ⟨bl, ol, none⟩) B.Land.length lc) := fun x => cell_of_heap (x.heapH f2) 2
    have d0_3 : ∀ x : Aft W, x.val.cell? ⟨w.heap.size, 3, none⟩ = some (.slice sa B.Share.length sc) := fun x => cell_of_heap (x.heapH f2) 3
    rw [← hx0]
    clear hx0 f0 f1 f2
    have hc := hcl.out _ (Aft.off F0.out x0)
    go_wp2
    go_ret
    exact ⟨ret_bool HR.out.symm, Aft.off F0.out x0⟩
  · have HR := Lib.hid (cellB_false (B := B) (i := i) (ld := ld) (fun h => hr (by have := h.2.1; omega)))
    have FF := Lib.hid (one_new (w := w) #[.int .i64 B.W, .int .i64 B.H, .slice la B.Land.length lc, .slice sa B.Share.length sc] 25)
    clear hLS hl hsh hval hWH
    go_enter Try.func94, Try.ntmps94
    go_wp2_with fail
    generalize hW : (w.alloc _) = W at *
    clear hW
    obtain ⟨f0, f1, f2⟩ := FF.out
    clear FF
    obtain ⟨x0, hx0⟩ : ∃ x : Aft W, x.val = W := ⟨⟨W, Below.refl _ W⟩, rfl⟩
    have F0 : Hid (Below w.heap.size w W) := f0
    have FZ : Hid (W.heap.size = w.heap.size + 1) := f1
    have FZ0 := Lib.hid (show x0.val.heap.size = w.heap.size + 1 by rw [hx0]; exact f1)
    have G0 : Hid (W.heap[w.heap.size]? = some (.cells #[.int .i64 B.W, .int .i64 B.H, .slice la B.Land.length lc, .slice sa B.Share.length sc] 25 (0, 0))) := f2
    have d0_0 : ∀ x : Aft W, x.val.cell? ⟨w.heap.size, 0, none⟩ = some (.int .i64 B.W) := fun x => cell_of_heap (x.heapH f2) 0
    have d0_1 : ∀ x : Aft W, x.val.cell? ⟨w.heap.size, 1, none⟩ = some (.int .i64 B.H) := fun x => cell_of_heap (x.heapH f2) 1
    have d0_2 : ∀ x : Aft W, x.val.cell? ⟨w.heap.size, 2, none⟩ = some (.slice la B.Land.length lc) := fun x => cell_of_heap (x.heapH f2) 2
    have d0_3 : ∀ x : Aft W, x.val.cell? ⟨w.heap.size, 3, none⟩ = some (.slice sa B.Share.length sc) := fun x => cell_of_heap (x.heapH f2) 3
    rw [← hx0]
    clear hx0 f0 f1 f2
    go_wp2
    go_ret
    exact ⟨ret_bool HR.out.symm, Aft.off F0.out x0⟩

set_option maxRecDepth 100000 in
theorem placed_any (v : Value) (B : Bay) (i : Int) (ld : Bool) (n : Int) (w : World) (hv : BayAt w v B) (hii : -9223372036854775808 ≤ i ∧ i ≤ 9223372036854775807) (hnn : -9223372036854775808 ≤ n ∧ n ≤ 9223372036854775807) :
    Calls Try.prog 80 #[v, .int .i64 i, .bool ld, .int .i64 n] w fun e w' => e = .returned (.int .i64 (placE B i ld n)) ∧ Below w.heap.size w w' := by
  have HV := Lib.hid (fun W (h : Below w.heap.size w W) => hv.below (Nat.le_refl _) h)
  obtain ⟨la, lc, sa, sc, rfl, hl, hsh, hll, hsl⟩ := hv
  have F1 := fun W h => valid_any _ B W (HV.out W h)
  clear hl hsh
  have FF := Lib.hid (one_new (w := w) #[.int .i64 B.W, .int .i64 B.H, .slice la B.Land.length lc, .slice sa B.Share.length sc] 25)
  by_cases hval : validP B
  case neg =>
    rw [validB_false hval] at F1
    have HR : Hid (placE B i ld n = 20) := by unfold Hid placE; rw [if_neg (by rw [validB_false hval]; simp)]
    have H1 := Lib.hid F1
    clear F1
    clear hval
    go_enter Try.func80, Try.ntmps80
    go_wp2_with fail
    generalize hW : (w.alloc _) = W at *
    clear hW
    obtain ⟨f0, f1, f2⟩ := FF.out
    clear FF
    obtain ⟨x0, hx0⟩ : ∃ x : Aft W, x.val = W := ⟨⟨W, Below.refl _ W⟩, rfl⟩
    have F0 : Hid (Below w.heap.size w W) := f0
    have FZ : Hid (W.heap.size = w.heap.size + 1) := f1
    have FZ0 := Lib.hid (show x0.val.heap.size = w.heap.size + 1 by rw [hx0]; exact f1)
    have G0 : Hid (W.heap[w.heap.size]? = some (.cells #[.int .i64 B.W, .int .i64 B.H, .slice la B.Land.length lc, .slice sa B.Share.length sc] 25 (0, 0))) := f2
    have d0_0 : ∀ x : Aft W, x.val.cell? ⟨w.heap.size, 0, none⟩ = some (.int .i64 B.W) := fun x => cell_of_heap (x.heapH f2) 0
    have d0_1 : ∀ x : Aft W, x.val.cell? ⟨w.heap.size, 1, none⟩ = some (.int .i64 B.H) := fun x => cell_of_heap (x.heapH f2) 1
    have d0_2 : ∀ x : Aft W, x.val.cell? ⟨w.heap.size, 2, none⟩ = some (.slice la B.Land.length lc) := fun x => cell_of_heap (x.heapH f2) 2
    have d0_3 : ∀ x : Aft W, x.val.cell? ⟨w.heap.size, 3, none⟩ = some (.slice sa B.Share.length sc) := fun x => cell_of_heap (x.heapH f2) 3
    rw [← hx0]
    clear hx0 f0 f1 f2
    refine (H1.out _ (Aft.off F0.out x0)).mono ?_
    rintro e w1 ⟨rfl, hb⟩
    obtain ⟨x1, rfl, lk0'⟩ := x0.step (hb)
    have lk0 := Lib.hid lk0'
    clear hb lk0'
    go_wp2
    go_ret
    exact ⟨ret_int HR.out.symm, Aft.off F0.out x1⟩
  rw [validB_true hval] at F1
  have F2 := fun W h => cell_any _ B i ld W (HV.out W h) hval hii
  by_cases hc : cellP B i ld
  · rw [cellB_true hc] at F2
    cases hbt : betwB 0 n 5
    · have HR : Hid (placE B i ld n = 2) := by unfold Hid placE; rw [if_pos (validB_true hval), if_neg (fun h => by simp [betwB] at hbt; omega)]
      have H1 := Lib.hid F1
      have H2 := Lib.hid F2
      clear F1 F2
      clear hval hc
      go_enter Try.func80, Try.ntmps80
      go_wp2_with fail
      generalize hW : (w.alloc _) = W at *
      clear hW
      obtain ⟨f0, f1, f2⟩ := FF.out
      clear FF
      obtain ⟨x0, hx0⟩ : ∃ x : Aft W, x.val = W := ⟨⟨W, Below.refl _ W⟩, rfl⟩
      have F0 : Hid (Below w.heap.size w W) := f0
      have FZ : Hid (W.heap.size = w.heap.size + 1) := f1
      have FZ0 := Lib.hid (show x0.val.heap.size = w.heap.size + 1 by rw [hx0]; exact f1)
      have G0 : Hid (W.heap[w.heap.size]? = some (.cells #[.int .i64 B.W, .int .i64 B.H, .slice la B.Land.length lc, .slice sa B.Share.length sc] 25 (0, 0))) := f2
      have d0_0 : ∀ x : Aft W, x.val.cell? ⟨w.heap.size, 0, none⟩ = some (.int .i64 B.W) := fun x => cell_of_heap (x.heapH f2) 0
      have d0_1 : ∀ x : Aft W, x.val.cell? ⟨w.heap.size, 1, none⟩ = some (.int .i64 B.H) := fun x => cell_of_heap (x.heapH f2) 1
      have d0_2 : ∀ x : Aft W, x.val.cell? ⟨w.heap.size, 2, none⟩ = some (.slice la B.Land.length lc) := fun x => cell_of_heap (x.heapH f2) 2
      have d0_3 : ∀ x : Aft W, x.val.cell? ⟨w.heap.size, 3, none⟩ = some (.slice sa B.Share.length sc) := fun x => cell_of_heap (x.heapH f2) 3
      rw [← hx0]
      clear hx0 f0 f1 f2
      refine (H1.out _ (Aft.off F0.out x0)).mono ?_
      rintro e w1 ⟨rfl, hb⟩
      obtain ⟨x1, rfl, lk0'⟩ := x0.step (hb)
      have lk0 := Lib.hid lk0'
      clear hb lk0'
      go_wp2_with fail
      refine (H2.out _ (Aft.off F0.out x1)).mono ?_
      rintro e w1 ⟨rfl, hb⟩
      obtain ⟨x2, rfl, lk1'⟩ := x1.step (hb)
      have lk1 := Lib.hid lk1'
      clear hb lk1'
      go_wp2_with (first | (go_at_call 60; refine (between_any _ _ _ _).mono ?_; rintro e w' ⟨rfl, rfl⟩))
      go_ret
      exact ⟨ret_int HR.out.symm, Aft.off F0.out x2⟩
    · have HR : Hid (placE B i ld n = 0) := by unfold Hid placE; rw [if_pos (validB_true hval), if_pos ⟨cellB_true hc, by simpa [betwB] using hbt⟩]
      have H1 := Lib.hid F1
      have H2 := Lib.hid F2
      clear F1 F2
      clear hval hc
      go_enter Try.func80, Try.ntmps80
      go_wp2_with fail
      generalize hW : (w.alloc _) = W at *
      clear hW
      obtain ⟨f0, f1, f2⟩ := FF.out
      clear FF
      obtain ⟨x0, hx0⟩ : ∃ x : Aft W, x.val = W := ⟨⟨W, Below.refl _ W⟩, rfl⟩
      have F0 : Hid (Below w.heap.size w W) := f0
      have FZ : Hid (W.heap.size = w.heap.size + 1) := f1
      have FZ0 := Lib.hid (show x0.val.heap.size = w.heap.size + 1 by rw [hx0]; exact f1)
      have G0 : Hid (W.heap[w.heap.size]? = some (.cells #[.int .i64 B.W, .int .i64 B.H, .slice la B.Land.length lc, .slice sa B.Share.length sc] 25 (0, 0))) := f2
      have d0_0 : ∀ x : Aft W, x.val.cell? ⟨w.heap.size, 0, none⟩ = some (.int .i64 B.W) := fun x => cell_of_heap (x.heapH f2) 0
      have d0_1 : ∀ x : Aft W, x.val.cell? ⟨w.heap.size, 1, none⟩ = some (.int .i64 B.H) := fun x => cell_of_heap (x.heapH f2) 1
      have d0_2 : ∀ x : Aft W, x.val.cell? ⟨w.heap.size, 2, none⟩ = some (.slice la B.Land.length lc) := fun x => cell_of_heap (x.heapH f2) 2
      have d0_3 : ∀ x : Aft W, x.val.cell? ⟨w.heap.size, 3, none⟩ = some (.slice sa B.Share.length sc) := fun x => cell_of_heap (x.heapH f2) 3
      rw [← hx0]
      clear hx0 f0 f1 f2
      refine (H1.out _ (Aft.off F0.out x0)).mono ?_
      rintro e w1 ⟨rfl, hb⟩
      obtain ⟨x1, rfl, lk0'⟩ := x0.step (hb)
      have lk0 := Lib.hid lk0'
      clear hb lk0'
      go_wp2_with fail
      refine (H2.out _ (Aft.off F0.out x1)).mono ?_
      rintro e w1 ⟨rfl, hb⟩
      obtain ⟨x2, rfl, lk1'⟩ := x1.step (hb)
      have lk1 := Lib.hid lk1'
      clear hb lk1'
      go_wp2_with (first | (go_at_call 60; refine (between_any _ _ _ _).mono ?_; rintro e w' ⟨rfl, rfl⟩))
      go_ret
      exact ⟨ret_int HR.out.symm, Aft.off F0.out x2⟩
  · rw [cellB_false hc] at F2
    have HR : Hid (placE B i ld n = 2) := by unfold Hid placE; rw [if_pos (validB_true hval), if_neg (fun h => by rw [cellB_false hc] at h; cases h.1)]
    have H1 := Lib.hid F1
    have H2 := Lib.hid F2
    clear F1 F2
    clear hval hc
    go_enter Try.func80, Try.ntmps80
    go_wp2_with fail
    generalize hW : (w.alloc _) = W at *
    clear hW
    obtain ⟨f0, f1, f2⟩ := FF.out
    clear FF
    obtain ⟨x0, hx0⟩ : ∃ x : Aft W, x.val = W := ⟨⟨W, Below.refl _ W⟩, rfl⟩
    have F0 : Hid (Below w.heap.size w W) := f0
    have FZ : Hid (W.heap.size = w.heap.size + 1) := f1
    have FZ0 := Lib.hid (show x0.val.heap.size = w.heap.size + 1 by rw [hx0]; exact f1)
    have G0 : Hid (W.heap[w.heap.size]? = some (.cells #[.int .i64 B.W, .int .i64 B.H, .slice la B.Land.length lc, .slice sa B.Share.length sc] 25 (0, 0))) := f2
    have d0_0 : ∀ x : Aft W, x.val.cell? ⟨w.heap.size, 0, none⟩ = some (.int .i64 B.W) := fun x => cell_of_heap (x.heapH f2) 0
    have d0_1 : ∀ x : Aft W, x.val.cell? ⟨w.heap.size, 1, none⟩ = some (.int .i64 B.H) := fun x => cell_of_heap (x.heapH f2) 1
    have d0_2 : ∀ x : Aft W, x.val.cell? ⟨w.heap.size, 2, none⟩ = some (.slice la B.Land.length lc) := fun x => cell_of_heap (x.heapH f2) 2
    have d0_3 : ∀ x : Aft W, x.val.cell? ⟨w.heap.size, 3, none⟩ = some (.slice sa B.Share.length sc) := fun x => cell_of_heap (x.heapH f2) 3
    rw [← hx0]
    clear hx0 f0 f1 f2
    refine (H1.out _ (Aft.off F0.out x0)).mono ?_
    rintro e w1 ⟨rfl, hb⟩
    obtain ⟨x1, rfl, lk0'⟩ := x0.step (hb)
    have lk0 := Lib.hid lk0'
    clear hb lk0'
    go_wp2_with fail
    refine (H2.out _ (Aft.off F0.out x1)).mono ?_
    rintro e w1 ⟨rfl, hb⟩
    obtain ⟨x2, rfl, lk1'⟩ := x1.step (hb)
    have lk1 := Lib.hid lk1'
    clear hb lk1'
    go_wp2
    go_ret
    exact ⟨ret_int HR.out.symm, Aft.off F0.out x2⟩

set_option maxRecDepth 100000 in
theorem moved_any (v : Value) (B : Bay) (i : Int) (ld : Bool) (n : Int) (w : World) (hv : BayAt w v B) (hii : -9223372036854775808 ≤ i ∧ i ≤ 9223372036854775807) (hnn : -9223372036854775808 ≤ n ∧ n ≤ 9223372036854775807) :
    Calls Try.prog 83 #[v, .int .i64 i, .bool ld, .int .i64 n] w fun e w' => e = .returned (.int .i64 (placE B i ld n)) ∧ Below w.heap.size w w' := by
  have HV := Lib.hid (fun W (h : Below w.heap.size w W) => hv.below (Nat.le_refl _) h)
  obtain ⟨la, lc, sa, sc, rfl, hl, hsh, hll, hsl⟩ := hv
  have F1 := fun W h => rvalid_any _ B W (HV.out W h)
  clear hl hsh
  have FF := Lib.hid (one_new (w := w) #[.int .i64 B.W, .int .i64 B.H, .slice la B.Land.length lc, .slice sa B.Share.length sc] 25)
  by_cases hval : validP B
  case neg =>
    rw [validB_false hval] at F1
    have HR : Hid (placE B i ld n = 20) := by unfold Hid placE; rw [if_neg (by rw [validB_false hval]; simp)]
    have H1 := Lib.hid F1
    clear F1
    clear hval
    go_enter Try.func83, Try.ntmps83
    go_wp2_with fail
    generalize hW : (w.alloc _) = W at *
    clear hW
    obtain ⟨f0, f1, f2⟩ := FF.out
    clear FF
    obtain ⟨x0, hx0⟩ : ∃ x : Aft W, x.val = W := ⟨⟨W, Below.refl _ W⟩, rfl⟩
    have F0 : Hid (Below w.heap.size w W) := f0
    have FZ : Hid (W.heap.size = w.heap.size + 1) := f1
    have FZ0 := Lib.hid (show x0.val.heap.size = w.heap.size + 1 by rw [hx0]; exact f1)
    have G0 : Hid (W.heap[w.heap.size]? = some (.cells #[.int .i64 B.W, .int .i64 B.H, .slice la B.Land.length lc, .slice sa B.Share.length sc] 25 (0, 0))) := f2
    have d0_0 : ∀ x : Aft W, x.val.cell? ⟨w.heap.size, 0, none⟩ = some (.int .i64 B.W) := fun x => cell_of_heap (x.heapH f2) 0
    have d0_1 : ∀ x : Aft W, x.val.cell? ⟨w.heap.size, 1, none⟩ = some (.int .i64 B.H) := fun x => cell_of_heap (x.heapH f2) 1
    have d0_2 : ∀ x : Aft W, x.val.cell? ⟨w.heap.size, 2, none⟩ = some (.slice la B.Land.length lc) := fun x => cell_of_heap (x.heapH f2) 2
    have d0_3 : ∀ x : Aft W, x.val.cell? ⟨w.heap.size, 3, none⟩ = some (.slice sa B.Share.length sc) := fun x => cell_of_heap (x.heapH f2) 3
    rw [← hx0]
    clear hx0 f0 f1 f2
    refine (H1.out _ (Aft.off F0.out x0)).mono ?_
    rintro e w1 ⟨rfl, hb⟩
    obtain ⟨x1, rfl, lk0'⟩ := x0.step (hb)
    have lk0 := Lib.hid lk0'
    clear hb lk0'
    go_wp2
    go_ret
    exact ⟨ret_int HR.out.symm, Aft.off F0.out x1⟩
  rw [validB_true hval] at F1
  have F2 := fun W h => isCell_any _ B i ld W (HV.out W h) hval hii
  by_cases hc : cellP B i ld
  · rw [cellB_true hc] at F2
    by_cases hr : 0 ≤ n ∧ n ≤ 5
    · have HR : Hid (placE B i ld n = 0) := by unfold Hid placE; rw [if_pos (validB_true hval), if_pos ⟨cellB_true hc, hr⟩]
      have H1 := Lib.hid F1
      have H2 := Lib.hid F2
      clear F1 F2
      clear hval hc
      go_enter Try.func83, Try.ntmps83
      go_wp2_with fail
      generalize hW : (w.alloc _) = W at *
      clear hW
      obtain ⟨f0, f1, f2⟩ := FF.out
      clear FF
      obtain ⟨x0, hx0⟩ : ∃ x : Aft W, x.val = W := ⟨⟨W, Below.refl _ W⟩, rfl⟩
      have F0 : Hid (Below w.heap.size w W) := f0
      have FZ : Hid (W.heap.size = w.heap.size + 1) := f1
      have FZ0 := Lib.hid (show x0.val.heap.size = w.heap.size + 1 by rw [hx0]; exact f1)
      have G0 : Hid (W.heap[w.heap.size]? = some (.cells #[.int .i64 B.W, .int .i64 B.H, .slice la B.Land.length lc, .slice sa B.Share.length sc] 25 (0, 0))) := f2
      have d0_0 : ∀ x : Aft W, x.val.cell? ⟨w.heap.size, 0, none⟩ = some (.int .i64 B.W) := fun x => cell_of_heap (x.heapH f2) 0
      have d0_1 : ∀ x : Aft W, x.val.cell? ⟨w.heap.size, 1, none⟩ = some (.int .i64 B.H) := fun x => cell_of_heap (x.heapH f2) 1
      have d0_2 : ∀ x : Aft W, x.val.cell? ⟨w.heap.size, 2, none⟩ = some (.slice la B.Land.length lc) := fun x => cell_of_heap (x.heapH f2) 2
      have d0_3 : ∀ x : Aft W, x.val.cell? ⟨w.heap.size, 3, none⟩ = some (.slice sa B.Share.length sc) := fun x => cell_of_heap (x.heapH f2) 3
      rw [← hx0]
      clear hx0 f0 f1 f2
      refine (H1.out _ (Aft.off F0.out x0)).mono ?_
      rintro e w1 ⟨rfl, hb⟩
      obtain ⟨x1, rfl, lk0'⟩ := x0.step (hb)
      have lk0 := Lib.hid lk0'
      clear hb lk0'
      go_wp2_with fail
      refine (H2.out _ (Aft.off F0.out x1)).mono ?_
      rintro e w1 ⟨rfl, hb⟩
      obtain ⟨x2, rfl, lk1'⟩ := x1.step (hb)
      have lk1 := Lib.hid lk1'
      clear hb lk1'
      go_wp2
      go_ret
      exact ⟨ret_int HR.out.symm, Aft.off F0.out x2⟩
    · have HR : Hid (placE B i ld n = 2) := by unfold Hid placE; rw [if_pos (validB_true hval), if_neg (fun h => hr h.2)]
      have hr' : n < 0 ∨ 5 < n := by omega
      have H1 := Lib.hid F1
      have H2 := Lib.hid F2
      clear F1 F2
      clear hval hc hr
      rcases hr' with hr | hr
      all_goals
        go_enter Try.func83, Try.ntmps83
        go_wp2_with fail
        generalize hW : (w.alloc _) = W at *
        clear hW
        obtain ⟨f0, f1, f2⟩ := FF.out
        clear FF
        obtain ⟨x0, hx0⟩ : ∃ x : Aft W, x.val = W := ⟨⟨W, Below.refl _ W⟩, rfl⟩
        have F0 : Hid (Below w.heap.size w W) := f0
        have FZ : Hid (W.heap.size = w.heap.size + 1) := f1
        have FZ0 := Lib.hid (show x0.val.heap.size = w.heap.size + 1 by rw [hx0]; exact f1)
        have G0 : Hid (W.heap[w.heap.size]? = some (.cells #[.int .i64 B.W, .int .i64 B.H, .slice la B.Land.length lc, .slice sa B.Share.length sc] 25 (0, 0))) := f2
        have d0_0 : ∀ x : Aft W, x.val.cell? ⟨w.heap.size, 0, none⟩ = some (.int .i64 B.W) := fun x => cell_of_heap (x.heapH f2) 0
        have d0_1 : ∀ x : Aft W, x.val.cell? ⟨w.heap.size, 1, none⟩ = some (.int .i64 B.H) := fun x => cell_of_heap (x.heapH f2) 1
        have d0_2 : ∀ x : Aft W, x.val.cell? ⟨w.heap.size, 2, none⟩ = some (.slice la B.Land.length lc) := fun x => cell_of_heap (x.heapH f2) 2
        have d0_3 : ∀ x : Aft W, x.val.cell? ⟨w.heap.size, 3, none⟩ = some (.slice sa B.Share.length sc) := fun x => cell_of_heap (x.heapH f2) 3
        rw [← hx0]
        clear hx0 f0 f1 f2
        refine (H1.out _ (Aft.off F0.out x0)).mono ?_
        rintro e w1 ⟨rfl, hb⟩
        obtain ⟨x1, rfl, lk0'⟩ := x0.step (hb)
        have lk0 := Lib.hid lk0'
        clear hb lk0'
        go_wp2_with fail
        refine (H2.out _ (Aft.off F0.out x1)).mono ?_
        rintro e w1 ⟨rfl, hb⟩
        obtain ⟨x2, rfl, lk1'⟩ := x1.step (hb)
        have lk1 := Lib.hid lk1'
        clear hb lk1'
        go_wp2
        go_ret
        exact ⟨ret_int HR.out.symm, Aft.off F0.out x2⟩
  · rw [cellB_false hc] at F2
    have HR : Hid (placE B i ld n = 2) := by unfold Hid placE; rw [if_pos (validB_true hval), if_neg (fun h => by rw [cellB_false hc] at h; cases h.1)]
    have H1 := Lib.hid F1
    have H2 := Lib.hid F2
    clear F1 F2
    clear hval hc
    go_enter Try.func83, Try.ntmps83
    go_wp2_with fail
    generalize hW : (w.alloc _) = W at *
    clear hW
    obtain ⟨f0, f1, f2⟩ := FF.out
    clear FF
    obtain ⟨x0, hx0⟩ : ∃ x : Aft W, x.val = W := ⟨⟨W, Below.refl _ W⟩, rfl⟩
    have F0 : Hid (Below w.heap.size w W) := f0
    have FZ : Hid (W.heap.size = w.heap.size + 1) := f1
    have FZ0 := Lib.hid (show x0.val.heap.size = w.heap.size + 1 by rw [hx0]; exact f1)
    have G0 : Hid (W.heap[w.heap.size]? = some (.cells #[.int .i64 B.W, .int .i64 B.H, .slice la B.Land.length lc, .slice sa B.Share.length sc] 25 (0, 0))) := f2
    have d0_0 : ∀ x : Aft W, x.val.cell? ⟨w.heap.size, 0, none⟩ = some (.int .i64 B.W) := fun x => cell_of_heap (x.heapH f2) 0
    have d0_1 : ∀ x : Aft W, x.val.cell? ⟨w.heap.size, 1, none⟩ = some (.int .i64 B.H) := fun x => cell_of_heap (x.heapH f2) 1
    have d0_2 : ∀ x : Aft W, x.val.cell? ⟨w.heap.size, 2, none⟩ = some (.slice la B.Land.length lc) := fun x => cell_of_heap (x.heapH f2) 2
    have d0_3 : ∀ x : Aft W, x.val.cell? ⟨w.heap.size, 3, none⟩ = some (.slice sa B.Share.length sc) := fun x => cell_of_heap (x.heapH f2) 3
    rw [← hx0]
    clear hx0 f0 f1 f2
    refine (H1.out _ (Aft.off F0.out x0)).mono ?_
    rintro e w1 ⟨rfl, hb⟩
    obtain ⟨x1, rfl, lk0'⟩ := x0.step (hb)
    have lk0 := Lib.hid lk0'
    clear hb lk0'
    go_wp2_with fail
    refine (H2.out _ (Aft.off F0.out x1)).mono ?_
    rintro e w1 ⟨rfl, hb⟩
    obtain ⟨x2, rfl, lk1'⟩ := x1.step (hb)
    have lk1 := Lib.hid lk1'
    clear hb lk1'
    go_wp2
    go_ret
    exact ⟨ret_int HR.out.symm, Aft.off F0.out x2⟩

/-! ### The first greatest number -/
def bestU (l : List Int) : Nat → Nat × Int
  | 0 => (0, 0)
  | k + 1 => if (bestU l k).2 < l.getD k 0 then (k, l.getD k 0) else bestU l k
theorem bestU_spec (l : List Int) : ∀ k, (∀ j, j < k → 0 ≤ l.getD j 0) → 0 ≤ (bestU l k).2 ∧ (∀ j, j < k → l.getD j 0 ≤ (bestU l k).2) ∧ (((bestU l k).2 = 0 ∧ (bestU l k).1 = 0) ∨ (0 < (bestU l k).2 ∧ (bestU l k).1 < k ∧ l.getD (bestU l k).1 0 = (bestU l k).2 ∧ ∀ j, j < (bestU l k).1 → l.getD j 0 < (bestU l k).2))
  | 0, _ => ⟨by simp [bestU], by intro j hj; omega, .inl ⟨rfl, rfl⟩⟩
  | k + 1, h => by
    obtain ⟨h0, h1, h2⟩ := bestU_spec l k (fun j hj => h j (by omega))
    have hk := h k (by omega)
    show 0 ≤ (if (bestU l k).2 < l.getD k 0 then (k, l.getD k 0) else bestU l k).2 ∧ _
    have e : bestU l (k + 1) = if (bestU l k).2 < l.getD k 0 then (k, l.getD k 0) else bestU l k := rfl
    rw [e]
    by_cases hlt : (bestU l k).2 < l.getD k 0
    · rw [if_pos hlt]
      refine ⟨hk, fun j hj => ?_, .inr ⟨by show 0 < l.getD k 0; omega, by show k < k + 1; omega, rfl, fun j hj => ?_⟩⟩
      · show l.getD j 0 ≤ l.getD k 0
        by_cases e : j = k
        · subst e; omega
        · have := h1 j (by omega); omega
      · show l.getD j 0 < l.getD k 0
        have := h1 j hj; omega
    · rw [if_neg hlt]
      refine ⟨h0, fun j hj => ?_, ?_⟩
      · by_cases e : j = k
        · subst e; omega
        · exact h1 j (by omega)
      · rcases h2 with h2 | ⟨a, b, c, d⟩
        · exact .inl h2
        · exact .inr ⟨a, by omega, c, d⟩
def MaxQ (l : List Int) (w : World) (e : Ending) (w' : World) : Prop := ∃ m, e = .returned (.int .i64 m) ∧ (∃ k, k < l.length ∧ l.getD k 0 = m) ∧ (∀ k, k < l.length → l.getD k 0 ≤ m) ∧ w = w'
theorem max_any (ao : Option Addr) (c : Nat) (l : List Int) (w : World) (hl : IntsAt w ao l) (h0 : 0 < l.length) (hn : l.length ≤ 1000000) :
    Calls Try.prog 92 #[.slice ao l.length c] w (MaxQ l w) := by
  obtain ⟨bs, os, rfl, hbs, hc0⟩ := hl.get h0
  have hb : ((l.length : Int) < 1) = False := by simp; omega
  have hn' : (0 : Int) < l.length := by omega
  have hc : w.cell? ⟨bs, os, none⟩ = some (.int .i64 (l.getD 0 0)) := hc0
  clear hc0
  generalize hx : l.getD 0 0 = x at hc
  have HX := Lib.hid hx
  clear hx
  go_enter Try.func92, Try.ntmps92
  go_wp2
  clear hc
  go_loop [3, 4] (fun m i => ∃ (k : Nat) (mm : Int), 1 ≤ k ∧ k ≤ l.length ∧ i = .int .i64 k ∧ m = .int .i64 mm ∧ (∃ q, q < l.length ∧ l.getD q 0 = mm) ∧ ∀ q, q < k → l.getD q 0 ≤ mm) (fun _ i => l.length - (intOf i).toNat)
  case atStart => exact ⟨1, x, by omega, by omega, rfl, rfl, ⟨0, h0, HX.out⟩, fun q hq => by (have e : q = 0 := by omega); subst e; exact Int.le_of_eq HX.out⟩
  case round =>
    obtain ⟨k, mm, hk1, hk, rfl, rfl, hex, hall⟩ := hrel
    have HEX := Lib.hid hex
    have HALL := Lib.hid hall
    clear hex hall
    by_cases hlt : k < l.length
    · obtain ⟨b', o', e, hb', hcs⟩ := hl.get hlt
      cases e
      generalize hy : l.getD k 0 = y at hcs
      have HY := Lib.hid hy
      clear hy
      by_cases hmy : mm < y
      · have hmx : (if mm < y then y else mm) = y := if_pos hmy
        have HMX := Lib.hid hmx
        clear hmx
        go_wp2
        go_round
        case rel =>
          refine ⟨k + 1, y, by omega, by omega, by go_num, by first | rw [HMX.out] | rfl, ⟨k, hlt, HY.out⟩, fun q hq => ?_⟩
          by_cases e : q = k
          · subst e; rw [HY.out]; omega
          · have := HALL.out q (by omega); omega
        case measure => simp [intOf]; omega
      · have hmx : (if mm < y then y else mm) = mm := if_neg hmy
        have HMX := Lib.hid hmx
        clear hmx
        go_wp2
        go_round
        case rel =>
          refine ⟨k + 1, mm, by omega, by omega, by go_num, by first | rw [HMX.out] | rfl, HEX.out, fun q hq => ?_⟩
          by_cases e : q = k
          · subst e; rw [HY.out]; omega
          · exact HALL.out q (by omega)
        case measure => simp [intOf]; omega
    · obtain rfl : k = l.length := by omega
      go_wp2
      go_ret
      exact ⟨mm, rfl, HEX.out, HALL.out, rfl⟩
theorem index_any (ao : Option Addr) (c : Nat) (l : List Int) (m : Int) (k0 : Nat) (w : World) (hl : IntsAt w ao l) (hk0 : k0 < l.length) (hn : l.length ≤ 1000000) (hm : l.getD k0 0 = m) (hfirst : ∀ j, j < k0 → l.getD j 0 ≠ m) :
    Calls Try.prog 93 #[.slice ao l.length c, .int .i64 m] w fun e w' => e = .returned (.int .i64 k0) ∧ w = w' := by
  have HM := Lib.hid hm
  have HF := Lib.hid hfirst
  clear hm hfirst
  go_enter Try.func93, Try.ntmps93
  go_wp2
  go_loop [8] (fun i => ∃ k : Nat, k ≤ k0 ∧ i = .int .i64 k) (fun i => l.length - (intOf i).toNat)
  case atStart => exact ⟨0, Nat.zero_le _, rfl⟩
  case round =>
    obtain ⟨k, hk, rfl⟩ := hrel
    obtain ⟨bs, os, rfl, hbs, hcs⟩ := hl.get (k := k) (by omega)
    have hkl : (k : Int) < l.length := by omega
    by_cases e : k = k0
    · subst e
      rw [HM.out] at hcs
      go_wp2
      go_ret
      exact ⟨rfl, rfl⟩
    · have hne := HF.out k (by omega)
      generalize l.getD k 0 = y at hcs hne
      have hb : (m == y) = false := by simpa using hne.symm
      clear hne
      go_wp2
      go_round
      case rel => exact ⟨k + 1, by omega, by go_num⟩
      case measure => simp [intOf]; omega
def gE (m : Int) : Int := if m = 0 then 5 else 0
theorem greatest_any (ao : Option Addr) (c : Nat) (l : List Int) (w : World) (hl : IntsAt w ao l) (h0 : 0 < l.length) (hn : l.length ≤ 1000000) (hb : ∀ j, j < l.length → 0 ≤ l.getD j 0) :
    Calls Try.prog 81 #[.slice ao l.length c] w fun e w' => e = .returned (.tuple #[.int .i64 (bestU l l.length).1, .int .i64 (gE (bestU l l.length).2)]) ∧ w = w' := by
  obtain ⟨g0, g1, g2⟩ := bestU_spec l l.length hb
  have HM := Lib.hid (max_any ao c l w hl h0 hn)
  go_enter Try.func81, Try.ntmps81
  go_wp2_with fail
  refine HM.out.mono ?_
  rintro e w1 ⟨m, rfl, ⟨k, hk, hkm⟩, hall, rfl⟩
  have hmm : m = (bestU l l.length).2 := by
    have h1 := g1 k hk
    rcases g2 with ⟨a, b⟩ | ⟨a, b, c, d⟩
    · have := hb k hk; omega
    · have := hall _ b; omega
  by_cases hz : m = 0
  · have HR : Hid ((bestU l l.length).1 = 0 ∧ gE (bestU l l.length).2 = 5) := by
      rcases g2 with ⟨a, b⟩ | ⟨a, b, c, d⟩
      · exact ⟨b, by rw [a]; rfl⟩
      · omega
    subst hz
    clear hmm hall hkm g2 g1 HM hb
    go_wp2
    go_ret2
    exact ⟨ret_ii (by rw [HR.out.1]; rfl) HR.out.2.symm, rfl⟩
  · rcases g2 with ⟨a, b⟩ | ⟨a, b, c', d⟩
    · exact absurd (hmm.trans a) hz
    · have HR : Hid (gE (bestU l l.length).2 = 0) := if_neg (by omega)
      have HI := Lib.hid (index_any ao c l m (bestU l l.length).1 w hl b hn (by rw [c', hmm]) (fun j hj => by have := d j hj; omega))
      have hzb : (m == 0) = false := by simpa using hz
      clear hmm hall hkm g1 HM hb a b c' d hz g0
      go_wp2_with fail
      refine HI.out.mono ?_
      rintro e w2 ⟨rfl, rfl⟩
      go_wp2
      go_ret2
      exact ⟨ret_ii rfl HR.out.symm, rfl⟩
end Go.Proofs.Ytnafllhgjidbkaa

namespace Go.Proofs.Ytnafllhgjidbkaa
open Go.RowKit Go.Shelf
set_option linter.unusedVariables false
set_option linter.unusedSimpArgs false

set_option maxHeartbeats 1000000 in
theorem rafter_own (v : Value) (B : Bay) (s : Slk) (ao : Option Addr) (c : Nat) (n : Nat) (w : World) (hv : BayAt w v B) (hi : IntsAt w ao s.Oil) (hn : s.Oil.length < 1152921504606846976) (hval : validP B) (hf : fitsP B s) (hn5 : s.K + n ≤ 5) :
    Calls Try.prog 63 #[v, .agg #[.int .i64 s.K, .slice ao s.Oil.length c, .int .i64 s.Away], .int .i64 n] w fun e w' => ∃ a' c', e = .returned (.agg #[.int .i64 (mvN B s n).K, .slice a' (mvN B s n).Oil.length c', .int .i64 (mvN B s n).Away]) ∧ IntsAt w' a' (mvN B s n).Oil ∧ (mvN B s n).Oil.length < 1152921504606846976 ∧ (∀ a, a' = some a → ao = some a ∨ w.heap.size ≤ a.block) ∧ Below w.heap.size w w' := by
  have hv0 := hv
  obtain ⟨la, lc, sa, sc, rfl, hl, hsh, hll, hsl⟩ := hv
  have hlen := len_share hval hf
  have hn100 : s.Oil.length ≤ 100 := by omega
  have hn5' : n ≤ 5 := by have := hf.1; omega
  have HV := Lib.hid hv0
  have HVAL := Lib.hid hval
  have HF := Lib.hid hf
  clear hv0 hl hsh hval hf hlen
  obtain ⟨f0, f1, f2, f3, f4⟩ := three_new (w := w) #[.int .i64 B.W, .int .i64 B.H, .slice la B.Land.length lc, .slice sa B.Share.length sc] #[.int .i64 s.K, .slice ao s.Oil.length c, .int .i64 s.Away] #[.int .i64 0, .slice none 0 0, .int .i64 0] 25 28 28
  go_enter Try.func63, Try.ntmps63
  go_wp2_with fail
  generalize hW : (((w.alloc _).alloc _).alloc _) = W at *
  clear hW
  have haw : ∀ a, ao = some a → a.block < w.heap.size := by
    rintro a rfl
    obtain ⟨b, off, he, hlt, _⟩ := hi.get (k := 0) (by have := HVAL.out; have h36 := mul36 this.1.1 this.1.2 this.2.1.1 this.2.1.2; have := HF.out.2.1; omega)
    cases he; exact hlt
  have HG0 := Lib.hid f2
  have HG1 := Lib.hid f3
  have HG2 := Lib.hid f4
  have HF1 := Lib.hid f1
  have HI1 := Lib.hid (hi.below (Nat.le_refl _) f0)
  have HAW := Lib.hid haw
  have HB1 : Hid (Below w.heap.size w W) := f0
  clear f0 f1 f2 f3 f4 hi haw
  go_wp2_with fail
  go_loopw [7] (fun i wr => ∃ (k : Nat) (ak : Option Addr) (ck : Nat), k ≤ n ∧ i = .int .i64 k ∧ Below w.heap.size w wr ∧ wr.heap[w.heap.size]? = some (.cells #[.int .i64 B.W, .int .i64 B.H, .slice la B.Land.length lc, .slice sa B.Share.length sc] 25 (0, 0)) ∧
      wr.heap[w.heap.size + 1]? = some (.cells #[.int .i64 (mvN B s k).K, .slice ak (mvN B s k).Oil.length ck, .int .i64 (mvN B s k).Away] 28 (0, 0)) ∧ wr.heap[w.heap.size + 1 + 1]? = some (.cells #[.int .i64 0, .slice none 0 0, .int .i64 0] 28 (0, 0)) ∧
      IntsAt wr ak (mvN B s k).Oil ∧ (∀ a, ak = some a → (ao = some a ∧ a.block < w.heap.size) ∨ w.heap.size + 3 ≤ a.block)) (fun i _ => n - (intOf i).toNat)
  case atStart => exact ⟨0, ao, c, Nat.zero_le _, rfl, HB1.out, HG0.out, HG1.out, HG2.out, HI1.out, fun a ha => .inl ⟨ha, HAW.out a ha⟩⟩
  case round =>
    obtain ⟨k, ak, ck, hk, rfl, hb, g0, g1, g2, hik, hfk⟩ := hrel
    have d0 := cell_of_heap g0 0
    have d1 := cell_of_heap g0 1
    have d2 := cell_of_heap g0 2
    have d3 := cell_of_heap g0 3
    have s0 := cell_of_heap g1 0
    have s1 := cell_of_heap g1 1
    have s2 := cell_of_heap g1 2
    simp at d0 d1 d2 d3 s0 s1 s2
    have l1 := heap_lt g1
    have l2 := heap_lt g2
    have HB := Lib.hid hb
    have HG0 := Lib.hid g0
    have HG1 := Lib.hid g1
    have HG2 := Lib.hid g2
    have HIK := Lib.hid hik
    have HFK := Lib.hid hfk
    clear hb g0 g1 g2 hik hfk
    by_cases hlt : k < n
    · have hfit := mvN_fits HVAL.out HF.out k (by omega)
      have hpre := move_pre HVAL.out hfit (by rw [mvN_K]; omega)
      have HC := Lib.hid (rmove_any _ (.agg #[.int .i64 (mvN B s k).K, .slice ak (mvN B s k).Oil.length ck, .int .i64 (mvN B s k).Away]) B (mvN B s k) wr (HV.out.below (Nat.le_refl _) HB.out) ⟨ak, ck, rfl, HIK.out, by rw [mvN_len]; omega⟩ HVAL.out hpre.1 hpre.2.1 hpre.2.2.1 hpre.2.2.2)
      clear hfit hpre
      have hmv : Hid (mvN B s (k + 1) = mv B (mvN B s k)) := rfl
      generalize hsk : mvN B s k = sk at *
      have HSK := Lib.hid hsk
      clear hsk
      go_wp2_with fail
      refine (HC.out).mono ?_
      rintro e w1 ⟨rv, rfl, ⟨a', c', rfl, hi', hn', hf'⟩, hb1⟩
      have e1 := (hb1.block _ l1).trans HG1.out
      have e2 := (hb1.block _ l2).trans HG2.out
      have e0 := (hb1.block _ (heap_lt HG0.out)).trans HG0.out
      have s0' := cell_of_heap e1 0
      have s1' := cell_of_heap e1 1
      have s2' := cell_of_heap e1 2
      simp at s0' s1' s2'
      have z0 := free_of_heap e1 0
      have z1 := free_of_heap e1 1
      have z2 := free_of_heap e1 2
      have HE0 := Lib.hid e0
      have HE1 := Lib.hid e1
      have HE2 := Lib.hid e2
      have HB1' := Lib.hid hb1
      have HI' := Lib.hid hi'
      have HF' := Lib.hid hf'
      clear e0 e1 e2 hb1 hi' hf' s0 s1 s2
      go_wp2
      go_roundw
      case rel =>
        refine ⟨k + 1, a', c', by omega, by go_num, ?_, ?_, ?_, ?_, ?_, ?_⟩
        · exact (((HB.out.trans (HB1'.out.mono HB.out.size)).setCell (by simp) _).setCell (by simp) _).setCell (by simp) _
        · exact (heap_setCell_other (by simp) _).trans ((heap_setCell_other (by simp) _).trans ((heap_setCell_other (by simp) _).trans HE0.out))
        · refine (heap_setCell_same (heap_setCell_same (heap_setCell_same HE1.out _) _) _).trans ?_
          rw [hmv.out, set3]
        · exact (heap_setCell_other (by simp) _).trans ((heap_setCell_other (by simp) _).trans ((heap_setCell_other (by simp) _).trans HE2.out))
        · rw [hmv.out]
          have hne : ∀ a, a' = some a → a.block ≠ w.heap.size + 1 := fun a ha => by have := HF'.out a ha; omega
          exact IntsAt.setCell (IntsAt.setCell (IntsAt.setCell HI'.out hne _) hne _) hne _
        · intro a ha; have := HF'.out a ha; right; omega
      case measure => simp [intOf]; omega
    · obtain rfl : k = n := by omega
      have r0 := cell_of_heap HG2.out 0
      have r1 := cell_of_heap HG2.out 1
      have r2 := cell_of_heap HG2.out 2
      simp at r0 r1 r2
      have z0 := free_of_heap HG2.out 0
      have z1 := free_of_heap HG2.out 1
      have z2 := free_of_heap HG2.out 2
      have hmk : Hid ((mvN B s k).Oil.length = s.Oil.length) := mvN_len B s k
      have hl2 : w.heap.size + 1 + 1 < wr.heap.size := l2
      have hrr := heap_setCell_same (heap_setCell_same (heap_setCell_same HG2.out (i := 0) (.int .i64 (mvN B s k).K)) (i := 1) (.slice ak (mvN B s k).Oil.length ck)) (i := 2) (.int .i64 (mvN B s k).Away)
      rw [set3] at hrr
      have HRR := Lib.hid hrr
      clear hrr
      go_wp2
      have c0 := cell_of_heap HRR.out 0
      have c1 := cell_of_heap HRR.out 1
      have c2 := cell_of_heap HRR.out 2
      simp at c0 c1 c2
      refine bodyPost_ret (v := .agg #[.int .i64 (mvN B s k).K, .slice ak (mvN B s k).Oil.length ck, .int .i64 (mvN B s k).Away]) (by simp [results, Try.results63, go_sem, c0, c1, c2]) rfl ⟨ak, ck, rfl, ?_, by rw [hmk.out]; omega, ?_, ?_⟩
      · have hne : ∀ a, ak = some a → a.block ≠ w.heap.size + 1 + 1 := fun a ha => by rcases HFK.out a ha with ⟨_, h⟩ | h <;> omega
        exact IntsAt.setCell (IntsAt.setCell (IntsAt.setCell HIK.out hne _) hne _) hne _
      · intro a ha; rcases HFK.out a ha with ⟨h, _⟩ | h
        · exact .inl h
        · right; omega
      · exact ((HB.out.setCell (by simp; omega) _).setCell (by simp; omega) _).setCell (by simp; omega) _
end Go.Proofs.Ytnafllhgjidbkaa

/- One cell's oil, and the callees of Source and Reach, as the calculus takes them. -/
namespace Go.Proofs.Ytnafllhgjidbkaa
open Go.RowKit
set_option linter.unusedVariables false
set_option linter.unusedSimpArgs false
theorem CallK.oldOwn {n0 nx : Nat} {f : FuncId} {vs : List V} {L : List E} {K : V → List E → Nat → Prop} {l : List Int} {u : V} (hok : callB Try.prog f = true) (hu : u.wf (nx + 1))
    (h : ∀ ρ w, Hp n0 ρ w L nx → Calls Try.prog f (vs.map (V.den ρ)).toArray w fun e w' => ∃ ao c, e = .returned (u.den (ρ.put nx ao c)) ∧ w'.ownsRow w.heap.size 3 1 (.slice ao l.length c) l.length (l.map (Value.int .i64)) ∧ Below w.heap.size w w')
    (hK : K u [⟨nx, .vec 3 1, l.map C.i⟩] (nx + 1)) : CallK Try.prog n0 f vs L nx K := by
  refine ⟨hok, fun ρ w hp _ => (h ρ w hp).mono ?_⟩
  rintro e w' ⟨ao, c, rfl, hown, hbw⟩
  refine ⟨u, [⟨nx, .vec 3 1, l.map C.i⟩], nx + 1, ρ.put nx ao c, rfl, Nat.le_succ _, hu, Env.put_agr _ _ _ _, hbw, News.one ?_ rfl (wf_ints _ _) ?_, hK⟩
  · refine ⟨l.length, ?_⟩
    simp only [Env.put_same]
    rw [den_ints]
    exact own_base hown hp.base
  · intro b hb
    simp only [blk, Env.put_same, Option.map_eq_some_iff] at hb
    obtain ⟨a, ha, rfl⟩ := hb
    obtain ⟨ao', c', hv, _, hblk⟩ := own_ints hown
    cases hv
    exact hblk a ha
theorem oneS_oil {B : Bay} {i : Nat} (hi : i < B.Share.length) : (oneS B i).Oil = (List.replicate B.Share.length 0).set i 1 := by
  unfold oneS; rw [if_neg (by omega)]
theorem one_set {n i : Nat} {N : Nat} (hn : n = N) : setL (repC n [C.i 0]) (mulS ((i : Nat) : Int).toNat 1) [C.i 1] = ((List.replicate N 0).set i 1).map C.i := by
  subst hn
  rw [mulS_eq]
  simp only [setL, Int.toNat_natCast, Nat.mul_one]
  rw [List.map_set]
  simp [repC]
set_option maxRecDepth 100000 in
theorem one_spec (B : Bay) (i : Nat) (hll : B.Land.length ≤ 100) (hN : B.Land.length = B.Share.length) (hi : i < B.Share.length) :
    Spec Try.prog 82 [V.agg [C.i B.W, C.i B.H, C.sl 0 B.Land.length, C.sl 1 B.Share.length], V.i i] [⟨0, .ro 0, B.Land.map C.bool⟩, ⟨1, .ro 0, shareC B.Share⟩] 2
      (fun v L' _ => ∃ l, v = V.agg [C.i 0, C.sl l B.Land.length, C.i 0] ∧ find L' l = some ⟨l, .vec 3 1, (oneS B i).Oil.map C.i⟩) := by
  have hoil := oneS_oil hi
  rw [hoil]
  have hrep : (repC ((B.Land.length : Nat) : Int).toNat [C.int IntKind.i64 0]).length = B.Land.length := by simp [repC]
  refine Spec.of tok Try.func82 rfl rfl rfl fun n0 => vc_ok tok ?_
  repeat ((conv => whnf); first
      | (refine And.intro (by first | omega | exact Nat.le_of_ble_eq_true rfl | (dsimp only [inK]; omega) | (simp only [mulS_eq]; omega) | (simp only [mulS_eq, setL_length]; omega) | (simp only [setL_length, List.length_map]; omega) | exact ⟨by omega, by omega, by first | exact Nat.le_of_ble_eq_true rfl | (dsimp only; omega) | (simp only [setL_length]; omega) | (simp only [setL_length, List.length_map]; omega)⟩ | exact ⟨by omega, by first | rfl | omega, by omega, Nat.le_of_ble_eq_true rfl, Nat.le_of_ble_eq_true rfl⟩ | exact ⟨rfl, rfl, rfl, Nat.le_of_ble_eq_true rfl, by first | rfl | omega | exact Nat.le_of_ble_eq_true rfl | (simp; done) | (simp; omega), by first | rfl | omega | exact Nat.le_of_ble_eq_true rfl | (simp; done) | (simp; omega), by omega, Nat.le_of_ble_eq_true rfl⟩ | exact Eq.refl true) ?_)
      | (refine Exists.intro _ (And.intro rfl ?_))
      | (refine And.intro (And.intro rfl (chk_rowI _ _ _ _)) ?_)
      | (refine br_t (by omega) ?_)
      | (refine br_f (by omega) ?_)
      | (refine bs_t (by omega) ?_)
      | (refine bs_f (by omega) ?_)
      | (refine fun (K' : K3) hK' => ?_)
      | (refine hK' _ _ _ ?_; clear hK' K')
      | (refine draw_auto tok mixed (by kernel_rfl) ?_)
      | (refine And.intro (And.intro rfl rfl) ?_))
  rw [← one_set (i := i) hN]
  rfl
theorem one_own (v : Value) (B : Bay) (i : Nat) (w : World) (hv : BayAt w v B) (hval : validP B) (hi : i < B.Share.length) :
    Calls Try.prog 82 #[v, .int .i64 i] w fun e w' => ∃ ao c, e = .returned (.agg #[.int .i64 0, .slice ao (oneS B i).Oil.length c, .int .i64 0]) ∧ w'.ownsRow w.heap.size 3 1 (.slice ao (oneS B i).Oil.length c) (oneS B i).Oil.length ((oneS B i).Oil.map (Value.int .i64)) ∧ Below w.heap.size w w' := by
  obtain ⟨la, lc, sa, sc, rfl, hl, hsh, hll, hsl⟩ := hv
  have hN : B.Land.length = B.Share.length := by have := hval.2.2.1; have := hval.2.2.2.1; omega
  have hlen : (oneS B i).Oil.length = B.Land.length := by rw [oneS_len, hN]
  let ρ : Env := fun l => match l with | 0 => (la, lc) | _ => (sa, sc)
  have hp : Hp w.heap.size ρ w [⟨0, .ro 0, B.Land.map C.bool⟩, ⟨1, .ro 0, shareC B.Share⟩] 2 := by
    refine Hp.ros (fun e he => ?_) rfl
    simp only [List.mem_cons, List.not_mem_nil, or_false] at he
    rcases he with rfl | rfl
    · exact ⟨rfl, by simp, wf_bools _ _, by rw [den_bools]; exact hl⟩
    · exact ⟨rfl, by simp, wf_shares _ _, by rw [den_shares]; exact hsh⟩
  have h := one_spec B i hll hN hi ρ w hp (by
    intro v hv
    simp only [List.mem_cons, List.not_mem_nil, or_false] at hv
    rcases hv with rfl | rfl <;> simp [V.wf, A.wf, C.wf, C.i])
  refine (show Calls Try.prog 82 #[.agg #[.int .i64 B.W, .int .i64 B.H, .slice la B.Land.length lc, .slice sa B.Share.length sc], .int .i64 i] w _ from h).mono ?_
  rintro e w' ⟨v, ρ', L', nx', rfl, h1, h2, h3, h4, h5, l, rfl, hf⟩
  obtain ⟨hm, _⟩ := find_mem hf
  obtain ⟨n, hown⟩ := h5.ok _ hm
  rw [den_ints] at hown
  have hn : n = (oneS B i).Oil.length := by have := hown.1; simp at this; omega
  rw [hn] at hown
  exact ⟨_, _, by rw [hlen]; rfl, hown, h4⟩
theorem chk_row (p : Nat → Bool) (l : List Int) (lab : Nat) (kd : Kd) : (([⟨lab, kd, l.map C.i⟩] : List E).all fun e => e.cs.all (C.chk p)) = true := by
  simp only [List.all_cons, List.all_nil, Bool.and_true]
  exact chk_ints p l
section
variable {n0 nx a b c d : Nat} {ka kb kc kd : Kd} {L : List E} {K : V → List E → Nat → Prop} {B : Bay} {s : Slk}
theorem one_k {i : Nat} (hval : validP B) (hll : B.Land.length ≤ 100) (hsl : B.Share.length ≤ 100) (hi : i < B.Share.length) (ha : find L a = some ⟨a, ka, B.Land.map C.bool⟩) (hb : find L b = some ⟨b, kb, shareC B.Share⟩)
    (hK : K (V.agg [C.i (oneS B i).K, C.sl nx (oneS B i).Oil.length, C.i (oneS B i).Away]) [⟨nx, .vec 3 1, (oneS B i).Oil.map C.i⟩] (nx + 1)) :
    CallK Try.prog n0 82 [V.agg [C.i B.W, C.i B.H, C.sl a B.Land.length, C.sl b B.Share.length], V.i i] L nx K := by
  have hK0 : (oneS B i).K = 0 := by unfold oneS; split <;> rfl
  have hA0 : (oneS B i).Away = 0 := by unfold oneS; rw [if_neg (by omega)]
  refine CallK.oldOwn (l := (oneS B i).Oil) (u := V.agg [C.i (oneS B i).K, C.sl nx (oneS B i).Oil.length, C.i (oneS B i).Away]) (by kernel_rfl) (by simp [V.wf, A.wf, C.wf, C.i]) (fun ρ w hp => (one_own _ B i w (bay_of hp ha hb hll hsl) hval hi).mono ?_) hK
  rintro e w' ⟨ao, cc, rfl, h1, h2⟩
  exact ⟨ao, cc, by simp [V.den, A.den, C.den, C.i, Env.put_same, hK0, hA0], h1, h2⟩
theorem One_k {i : Nat} (hval : validP B) (hll : B.Land.length ≤ 100) (hsl : B.Share.length ≤ 100) (hi : i ≤ B.Share.length) (ha : find L a = some ⟨a, ka, B.Land.map C.bool⟩) (hb : find L b = some ⟨b, kb, shareC B.Share⟩)
    (hK : K (V.agg [C.i (oneS B i).K, C.sl nx (oneS B i).Oil.length, C.i (oneS B i).Away]) [⟨nx, .ro 0, (oneS B i).Oil.map C.i⟩] (nx + 1)) :
    CallK Try.prog n0 58 [V.agg [C.i B.W, C.i B.H, C.sl a B.Land.length, C.sl b B.Share.length], V.i i] L nx K :=
  CallK.oldSlk (s := oneS B i) (by kernel_rfl) (fun ρ w hp => One_any _ B i w (bay_of hp ha hb hll hsl) hval hi) hK
theorem placed_kt {i n : Int} (hll : B.Land.length ≤ 100) (hsl : B.Share.length ≤ 100) (hii : -9223372036854775808 ≤ i ∧ i ≤ 9223372036854775807) (hnn : -9223372036854775808 ≤ n ∧ n ≤ 9223372036854775807) (ha : find L a = some ⟨a, ka, B.Land.map C.bool⟩) (hb : find L b = some ⟨b, kb, shareC B.Share⟩)
    (hK : K (V.i (placE B i true n)) [] nx) : CallK Try.prog n0 80 [V.agg [C.i B.W, C.i B.H, C.sl a B.Land.length, C.sl b B.Share.length], V.i i, V.c .tt, V.i n] L nx K :=
  CallK.old (u := V.i (placE B i true n)) (by kernel_rfl) trivial (fun ρ w hp => placed_any _ B i true n w (bay_of hp ha hb hll hsl) hii hnn) hK
theorem placed_kf {i n : Int} (hll : B.Land.length ≤ 100) (hsl : B.Share.length ≤ 100) (hii : -9223372036854775808 ≤ i ∧ i ≤ 9223372036854775807) (hnn : -9223372036854775808 ≤ n ∧ n ≤ 9223372036854775807) (ha : find L a = some ⟨a, ka, B.Land.map C.bool⟩) (hb : find L b = some ⟨b, kb, shareC B.Share⟩)
    (hK : K (V.i (placE B i false n)) [] nx) : CallK Try.prog n0 80 [V.agg [C.i B.W, C.i B.H, C.sl a B.Land.length, C.sl b B.Share.length], V.i i, V.c .ff, V.i n] L nx K :=
  CallK.old (u := V.i (placE B i false n)) (by kernel_rfl) trivial (fun ρ w hp => placed_any _ B i false n w (bay_of hp ha hb hll hsl) hii hnn) hK
theorem moved_kt {i n : Int} (hll : B.Land.length ≤ 100) (hsl : B.Share.length ≤ 100) (hii : -9223372036854775808 ≤ i ∧ i ≤ 9223372036854775807) (hnn : -9223372036854775808 ≤ n ∧ n ≤ 9223372036854775807) (ha : find L a = some ⟨a, ka, B.Land.map C.bool⟩) (hb : find L b = some ⟨b, kb, shareC B.Share⟩)
    (hK : K (V.i (placE B i true n)) [] nx) : CallK Try.prog n0 83 [V.agg [C.i B.W, C.i B.H, C.sl a B.Land.length, C.sl b B.Share.length], V.i i, V.c .tt, V.i n] L nx K :=
  CallK.old (u := V.i (placE B i true n)) (by kernel_rfl) trivial (fun ρ w hp => moved_any _ B i true n w (bay_of hp ha hb hll hsl) hii hnn) hK
theorem moved_kf {i n : Int} (hll : B.Land.length ≤ 100) (hsl : B.Share.length ≤ 100) (hii : -9223372036854775808 ≤ i ∧ i ≤ 9223372036854775807) (hnn : -9223372036854775808 ≤ n ∧ n ≤ 9223372036854775807) (ha : find L a = some ⟨a, ka, B.Land.map C.bool⟩) (hb : find L b = some ⟨b, kb, shareC B.Share⟩)
    (hK : K (V.i (placE B i false n)) [] nx) : CallK Try.prog n0 83 [V.agg [C.i B.W, C.i B.H, C.sl a B.Land.length, C.sl b B.Share.length], V.i i, V.c .ff, V.i n] L nx K :=
  CallK.old (u := V.i (placE B i false n)) (by kernel_rfl) trivial (fun ρ w hp => moved_any _ B i false n w (bay_of hp ha hb hll hsl) hii hnn) hK
theorem greatest_k {n : Nat} {l : List Int} (he : n = l.length) (h0 : 0 < l.length) (hn : l.length ≤ 1000000) (hb : ∀ j, j < l.length → 0 ≤ l.getD j 0) (ha : find L a = some ⟨a, ka, l.map C.i⟩)
    (hK : K (V.tup [A.c (C.i (bestU l l.length).1), A.c (C.i (gE (bestU l l.length).2))]) [] nx) : CallK Try.prog n0 81 [V.c (.sl a n)] L nx K := by
  subst he
  exact CallK.oldS (u := V.tup [A.c (C.i (bestU l l.length).1), A.c (C.i (gE (bestU l l.length).2))]) (by kernel_rfl) (by simp [V.wf, A.wf, C.wf, C.i]) (fun ρ w hp => greatest_any _ _ l w (ints_of hp ha) h0 hn hb) hK
/-- The prices before some moves: a row with its room. -/
theorem before_k {l : List Int} {n : Nat} {m : Nat} (hval : validP B) (hll : B.Land.length ≤ 100) (hsl : B.Share.length ≤ 100) (hm : m = B.Share.length + 1) (hlen : l.length = B.Share.length + 1) (hn : n ≤ 5) (hbd : ∀ j, 0 ≤ l.getD j 0 ∧ l.getD j 0 ≤ 1000)
    (ha : find L a = some ⟨a, ka, B.Land.map C.bool⟩) (hb : find L b = some ⟨b, kb, shareC B.Share⟩) (hc : find L c = some ⟨c, kc, l.map C.i⟩)
    (hK : K (V.c (.sl nx (B.Share.length + 1))) [⟨nx, .ro 1, (bN B l n).map C.i⟩] (nx + 1)) :
    CallK Try.prog n0 79 [V.agg [C.i B.W, C.i B.H, C.sl a B.Land.length, C.sl b B.Share.length], V.c (.sl c m), V.i (n : Int)] L nx K := by
  subst hm
  refine ⟨by kernel_rfl, fun ρ w hp _ => (before_cap _ B _ _ l B.Share.length n w (bay_of hp ha hb hll hsl) (ints_of hp hc) hval hlen rfl hn hbd).mono ?_⟩
  rintro e w' ⟨ao, cc, rfl, hi, hblk, hbw, hcap⟩
  refine ⟨V.c (.sl nx (B.Share.length + 1)), [⟨nx, .ro 1, (bN B l n).map C.i⟩], nx + 1, ρ.put nx ao cc, ?_, Nat.le_succ _, Nat.lt_succ_self nx, Env.put_agr _ _ _ _, hbw, News.one (show EOK n0 (ρ.put nx ao cc) w' ⟨nx, .ro 1, (bN B l n).map C.i⟩ from ⟨?_, .inr ?_⟩) rfl (wf_ints _ _) ?_, hK⟩
  · simp [V.den, A.den, C.den, Env.put_same]
  · simp only [Env.put_same]
    rw [den_ints]
    exact hi
  · simp only [Env.put_same, List.length_map]
    rw [bN_len, hlen]; omega
  · intro b hb
    simp only [blk, Env.put_same, Option.map_eq_some_iff] at hb
    obtain ⟨a, ha, rfl⟩ := hb
    exact hblk a ha
theorem cells_take {w : World} {ao : Option Addr} {l : List Int} (h : IntsAt w ao l) (k : Nat) : IntsAt w ao (l.take k) := by
  intro hne
  have hl : l ≠ [] := by rintro rfl; simp at hne
  obtain ⟨b, off, rfl, hlt, hc⟩ := h (by simpa using hl)
  refine ⟨b, off, rfl, hlt, fun i hi => ?_⟩
  simp only [List.length_map, List.length_take] at hi
  rw [hc i (by simp; omega)]
  simp only [List.getD_eq_getElem?_getD, List.getElem?_map, List.getElem?_take]
  rw [if_pos (by omega)]
theorem chosen_kf {l l' : List Int} {m k : Nat} (hl' : landsL B (l.take k) false = l') (hm : m = (l.take k).length) (hN : (l.take k).length ≤ B.Land.length) (hll : B.Land.length ≤ 100) (hsl : B.Share.length ≤ 100)
    (ha : find L a = some ⟨a, ka, B.Land.map C.bool⟩) (hb : find L b = some ⟨b, kb, shareC B.Share⟩) (hc : find L c = some ⟨c, kc, l.map C.i⟩)
    (hK : K (V.c (.sl nx l'.length)) [⟨nx, .ro 0, l'.map C.i⟩] (nx + 1)) :
    CallK Try.prog n0 70 [V.agg [C.i B.W, C.i B.H, C.sl a B.Land.length, C.sl b B.Share.length], V.agg [C.i 0, C.sl c m, C.i 0], V.c .ff] L nx K := by
  subst hm
  subst hl'
  refine CallK.oldRo (l := landsL B (l.take k) false) (u := V.c (.sl nx (landsL B (l.take k) false).length)) (by kernel_rfl) (Nat.lt_succ_self nx) (fun ρ w hp => (chosen_any _ _ B ⟨0, l.take k, 0⟩ false w (bay_of hp ha hb hll hsl) ⟨_, _, rfl, cells_take (ints_of hp hc) k, by simp only; omega⟩ hN (by simp only; omega)).mono ?_) hK
  rintro e w' ⟨rv, rfl, ⟨ao, cc, rfl, hi, hblk⟩, hbw⟩
  exact ⟨ao, cc, by simp [V.den, A.den, C.den, Env.put_same], hi, hblk, hbw⟩
/-- The reference's moves: the same row, or a new one. -/
theorem rafter_k {n : Nat} (hval : validP B) (hll : B.Land.length ≤ 100) (hsl : B.Share.length ≤ 100) (hf : fitsP B s) (hn5 : s.K + n ≤ 5) (hn : s.Oil.length < 1152921504606846976)
    (ha : find L a = some ⟨a, ka, B.Land.map C.bool⟩) (hb : find L b = some ⟨b, kb, shareC B.Share⟩) (hc : find L c = some ⟨c, .ro 0, s.Oil.map C.i⟩)
    (hK : K (V.agg [C.i (mvN B s n).K, C.sl nx (mvN B s n).Oil.length, C.i (mvN B s n).Away]) [⟨nx, .ro 0, (mvN B s n).Oil.map C.i⟩] (nx + 1)) :
    CallK Try.prog n0 63 [V.agg [C.i B.W, C.i B.H, C.sl a B.Land.length, C.sl b B.Share.length], V.agg [C.i s.K, C.sl c s.Oil.length, C.i s.Away], V.i (n : Int)] L nx K := by
  refine ⟨by kernel_rfl, fun ρ w hp _ => (rafter_own _ B s _ _ n w (bay_of hp ha hb hll hsl) (ints_of hp hc) hn hval hf hn5).mono ?_⟩
  rintro e w' ⟨a', c', rfl, hi, hl', hblk, hbw⟩
  have hlen : (mvN B s n).Oil.length = s.Oil.length := mvN_len B s n
  refine ⟨V.agg [C.i (mvN B s n).K, C.sl nx (mvN B s n).Oil.length, C.i (mvN B s n).Away], [⟨nx, .ro 0, (mvN B s n).Oil.map C.i⟩], nx + 1, ρ.put nx a' c', ?_, Nat.le_succ _, by simp [V.wf, A.wf, C.wf, C.i], Env.put_agr _ _ _ _, hbw, ⟨?_, ?_, ?_, ?_, ?_⟩, hK⟩
  · simp [V.den, A.den, C.den, C.i, Env.put_same]
  · intro x hx
    rw [List.mem_singleton.1 hx]
    refine ⟨?_, .inl rfl⟩
    simp only [Env.put_same]
    rw [den_ints]
    exact hi
  · intro x hx
    rw [List.mem_singleton.1 hx]
    exact ⟨⟨Nat.le_refl _, Nat.lt_succ_self nx⟩, wf_ints _ _⟩
  · intro x hx y hy _; rw [List.mem_singleton.1 hx, List.mem_singleton.1 hy]
  · intro x hx y hy hro; rw [List.mem_singleton.1 hx] at hro; cases hro
  · intro x hx
    rw [List.mem_singleton.1 hx]
    by_cases h0 : s.Oil = []
    · refine .inr ⟨rfl, .inl ?_⟩
      have : (mvN B s n).Oil = [] := List.length_eq_zero_iff.1 (by rw [hlen, h0]; rfl)
      simp only [this, List.map_nil]
    · cases ha' : a' with
      | none => exact .inl (fun b hb => by simp [blk, Env.put_same] at hb)
      | some a0 =>
        rcases hblk a0 ha' with h1 | h1
        · refine .inr ⟨rfl, .inr ⟨⟨c, .ro 0, s.Oil.map C.i⟩, (find_mem hc).1, rfl, by simpa using h0, ?_⟩⟩
          simp only [blk, Env.put_same, h1]
        · refine .inl (fun b hb => ?_)
          simp only [blk, Env.put_same, Option.map_some, Option.some.injEq] at hb
          omega
theorem move_k (hval : validP B) (hll : B.Land.length ≤ 100) (hsl : B.Share.length ≤ 100) (hf : fitsP B s) (hK4 : s.K ≤ 4)
    (ha : find L a = some ⟨a, ka, B.Land.map C.bool⟩) (hb : find L b = some ⟨b, kb, shareC B.Share⟩) (hc : find L c = some ⟨c, kc, s.Oil.map C.i⟩)
    (hK : K (V.agg [C.i (mv B s).K, C.sl nx (mv B s).Oil.length, C.i (mv B s).Away]) [⟨nx, .ro 0, (mv B s).Oil.map C.i⟩] (nx + 1)) :
    CallK Try.prog n0 84 [V.agg [C.i B.W, C.i B.H, C.sl a B.Land.length, C.sl b B.Share.length], V.agg [C.i s.K, C.sl c s.Oil.length, C.i s.Away]] L nx K := by
  have hlen := len_share hval hf
  have hp4 : lim s.K ≤ 2359296000 := by
    obtain ⟨k, hk⟩ : ∃ k : Nat, s.K = k := ⟨s.K.toNat, by have := hf.1; omega⟩
    have : k = 0 ∨ k = 1 ∨ k = 2 ∨ k = 3 ∨ k = 4 := by omega
    unfold lim; rw [hk]
    rcases this with rfl | rfl | rfl | rfl | rfl <;> decide
  have hr := amt_range hf.2.2.1
  have hsum := sum_bd _ hr
  exact CallK.oldSlk (s := mv B s) (by kernel_rfl) (fun ρ w hp => move_any _ _ B s w (bay_of hp ha hb hll hsl) (slk_of hp hc (by omega)) hval hlen ⟨hf.1.1, hK4⟩ (fun k hk => by have := hr k hk; omega) (by have := hf.2.2.2; omega)) hK
end
/-! ### The plain law of the source -/
def unitP (B : Bay) (i : Nat) : List Int := (oneS B i).Oil ++ [0]
theorem unitP_len (B : Bay) (i : Nat) : (unitP B i).length = B.Share.length + 1 := by simp [unitP, oneS_len]
theorem unitP_get {B : Bay} {i j : Nat} (hi : i < B.Share.length) : (unitP B i).getD j 0 = if j = i then 1 else 0 := by
  unfold unitP
  by_cases hj : j < B.Share.length
  · have := oneS_get (B := B) (i := i) (j := j) hi
    rw [← this]
    simp only [List.getD_eq_getElem?_getD]
    rw [List.getElem?_append_left (by rw [oneS_len]; exact hj)]
  · rw [if_neg (by omega)]
    simp only [List.getD_eq_getElem?_getD]
    rw [List.getElem?_append_right (by rw [oneS_len]; omega), oneS_len]
    cases hjj : j - B.Share.length with
    | zero => rfl
    | succ k => rfl
theorem unitP_bd {B : Bay} {i : Nat} (hi : i < B.Share.length) : ∀ j, 0 ≤ (unitP B i).getD j 0 ∧ (unitP B i).getD j 0 ≤ 1000 := fun j => by rw [unitP_get hi]; split <;> omega
theorem dotR_unit {B : Bay} {i : Nat} (hi : i < B.Share.length) (a : List Int) : ∀ k, dotR a (unitP B i) k = if i < k then a.getD i 0 else 0
  | 0 => by simp [dotR, sumR_zero]
  | k + 1 => by
    rw [dotR_succ, dotR_unit hi a k, unitP_get hi]
    by_cases h : k = i
    · subst h; rw [if_neg (by omega), if_pos rfl, if_pos (by omega)]; omega
    · rw [if_neg h]
      by_cases h2 : i < k
      · rw [if_pos h2, if_pos (by omega)]; omega
      · rw [if_neg h2, if_neg (by omega)]; omega
theorem price_of {B : Bay} {i j n : Nat} (hval : validP B) (hi : i < B.Share.length) (hj : j < B.Share.length) : (bN B (unitP B i) n).getD j 0 = (mvN B (oneS B j) n).Oil.getD i 0 := by
  have h := (adjN hval (oneS_len B j) n (unitP B i) (by rw [unitP_len, oneS_len])).trans (oneS_cost (Nat.le_of_lt hj))
  rw [← h]
  unfold costZ
  rw [mvN_len, oneS_len, dotR_unit hi, if_pos hi, unitP_get hi, if_neg (by omega)]
  omega
/-- From which cell of water how much comes. -/
def fromL (B : Bay) (i n : Nat) : List Int := (List.range B.Share.length).map fun j => if B.Land.getD j false = true then 0 else (mvN B (oneS B j) n).Oil.getD i 0
theorem fromL_len (B : Bay) (i n : Nat) : (fromL B i n).length = B.Share.length := by simp [fromL]
theorem fromL_get {B : Bay} {i n j : Nat} (hj : j < B.Share.length) : (fromL B i n).getD j 0 = if B.Land.getD j false = true then 0 else (mvN B (oneS B j) n).Oil.getD i 0 := by
  simp [fromL, List.getD_eq_getElem?_getD, hj]
theorem fromL_lands {B : Bay} {i n : Nat} (hval : validP B) (hi : i < B.Share.length) : landsL B ((bN B (unitP B i) n).take B.Share.length) false = fromL B i n := by
  have hl : ((bN B (unitP B i) n).take B.Share.length).length = B.Share.length := by rw [List.length_take, bN_len, unitP_len]; omega
  refine list_ext_getD (by rw [lands_len, hl, fromL_len]) (fun j hj => ?_)
  rw [lands_len, hl] at hj
  rw [lands_get B _ _ (by rw [hl]; exact hj), fromL_get hj]
  have ht : ((bN B (unitP B i) n).take B.Share.length).getD j 0 = (bN B (unitP B i) n).getD j 0 := by
    simp only [List.getD_eq_getElem?_getD, List.getElem?_take]; rw [if_pos hj]
  cases hb : B.Land.getD j false
  · rw [if_pos rfl, if_neg (by simp), ht, price_of hval hi hj]
  · rw [if_neg (by simp), if_pos rfl]
theorem one_mv {B : Bay} {j k : Nat} (hval : validP B) (hj : j < B.Share.length) (hk : k ≤ 5) : fitsP B (mvN B (oneS B j) k) ∧ (oneS B j).K = 0 := by
  have hK : (oneS B j).K = 0 := by unfold oneS; split <;> rfl
  exact ⟨mvN_fits hval (oneS_fits hval (Nat.le_of_lt hj)) k (by rw [hK]; omega), hK⟩
theorem one_nonneg {B : Bay} {j k i : Nat} (hval : validP B) (hj : j < B.Share.length) (hk : k ≤ 5) : 0 ≤ (mvN B (oneS B j) k).Oil.getD i 0 ∧ (mvN B (oneS B j) k).Oil.getD i 0 ≤ 37748736000 := by
  have hf := (one_mv hval hj hk).1
  by_cases hi : i < (mvN B (oneS B j) k).Oil.length
  · have := amt_range hf.2.2.1 i hi
    have hp := pow_bd _ hf.1.1 hf.1.2
    have : lim (mvN B (oneS B j) k).K ≤ 37748736000 := by unfold lim; omega
    omega
  · rw [List.getD_eq_getElem?_getD, List.getElem?_eq_none (by omega)]; simp
theorem fromL_nonneg {B : Bay} {i n : Nat} (hval : validP B) (hn : n ≤ 5) : ∀ j, j < B.Share.length → 0 ≤ (fromL B i n).getD j 0 ∧ (fromL B i n).getD j 0 ≤ 37748736000 := fun j hj => by
  rw [fromL_get hj]
  split
  · omega
  · exact one_nonneg hval hj hn
noncomputable def srcE (B : Bay) (i n : Int) : Int := if placE B i true n = 0 then gE (bestU (fromL B i.toNat n.toNat) B.Share.length).2 else placE B i true n
noncomputable def srcI (B : Bay) (i n : Int) : Nat := if placE B i true n = 0 then (bestU (fromL B i.toNat n.toNat) B.Share.length).1 else 0
end Go.Proofs.Ytnafllhgjidbkaa

namespace Go.Proofs.Ytnafllhgjidbkaa
open Go.RowKit Go.Shelf
set_option linter.unusedVariables false
set_option linter.unusedSimpArgs false

set_option maxHeartbeats 1000000 in
theorem rafter_any (v sv : Value) (B : Bay) (s : Slk) (n : Nat) (w : World) (hv : BayAt w v B) (hs : SlkAt w sv s) (hval : validP B) (hf : fitsP B s) (hn5 : s.K + n ≤ 5) :
    Calls Try.prog 63 #[v, sv, .int .i64 n] w fun e w' => ∃ rv, e = .returned rv ∧ SlkAt w' rv (mvN B s n) ∧ Below w.heap.size w w' := by
  have hv0 := hv
  obtain ⟨la, lc, sa, sc, rfl, hl, hsh, hll, hsl⟩ := hv
  obtain ⟨ao, c, rfl, hi, hn⟩ := hs
  have hlen := len_share hval hf
  have hn100 : s.Oil.length ≤ 100 := by omega
  have hn5' : n ≤ 5 := by have := hf.1; omega
  have HV := Lib.hid hv0
  have HVAL := Lib.hid hval
  have HF := Lib.hid hf
  clear hv0 hl hsh hval hf hlen
  obtain ⟨f0, f1, f2, f3, f4⟩ := three_new (w := w) #[.int .i64 B.W, .int .i64 B.H, .slice la B.Land.length lc, .slice sa B.Share.length sc] #[.int .i64 s.K, .slice ao s.Oil.length c, .int .i64 s.Away] #[.int .i64 0, .slice none 0 0, .int .i64 0] 25 28 28
  go_enter Try.func63, Try.ntmps63
  go_wp2_with fail
  generalize hW : (((w.alloc _).alloc _).alloc _) = W at *
  clear hW
  have haw : ∀ a, ao = some a → a.block < w.heap.size := by
    rintro a rfl
    obtain ⟨b, off, he, hlt, _⟩ := hi.get (k := 0) (by have := HVAL.out; have h36 := mul36 this.1.1 this.1.2 this.2.1.1 this.2.1.2; have := HF.out.2.1; omega)
    cases he; exact hlt
  have HG0 := Lib.hid f2
  have HG1 := Lib.hid f3
  have HG2 := Lib.hid f4
  have HF1 := Lib.hid f1
  have HI1 := Lib.hid (hi.below (Nat.le_refl _) f0)
  have HAW := Lib.hid haw
  have HB1 : Hid (Below w.heap.size w W) := f0
  clear f0 f1 f2 f3 f4 hi haw
  go_wp2_with fail
  go_loopw [7] (fun i wr => ∃ (k : Nat) (ak : Option Addr) (ck : Nat), k ≤ n ∧ i = .int .i64 k ∧ Below w.heap.size w wr ∧ wr.heap[w.heap.size]? = some (.cells #[.int .i64 B.W, .int .i64 B.H, .slice la B.Land.length lc, .slice sa B.Share.length sc] 25 (0, 0)) ∧
      wr.heap[w.heap.size + 1]? = some (.cells #[.int .i64 (mvN B s k).K, .slice ak (mvN B s k).Oil.length ck, .int .i64 (mvN B s k).Away] 28 (0, 0)) ∧ wr.heap[w.heap.size + 1 + 1]? = some (.cells #[.int .i64 0, .slice none 0 0, .int .i64 0] 28 (0, 0)) ∧
      IntsAt wr ak (mvN B s k).Oil ∧ (∀ a, ak = some a → a.block < w.heap.size ∨ w.heap.size + 3 ≤ a.block)) (fun i _ => n - (intOf i).toNat)
  case atStart => exact ⟨0, ao, c, Nat.zero_le _, rfl, HB1.out, HG0.out, HG1.out, HG2.out, HI1.out, fun a ha => .inl (HAW.out a ha)⟩
  case round =>
    obtain ⟨k, ak, ck, hk, rfl, hb, g0, g1, g2, hik, hfk⟩ := hrel
    have d0 := cell_of_heap g0 0
    have d1 := cell_of_heap g0 1
    have d2 := cell_of_heap g0 2
    have d3 := cell_of_heap g0 3
    have s0 := cell_of_heap g1 0
    have s1 := cell_of_heap g1 1
    have s2 := cell_of_heap g1 2
    simp at d0 d1 d2 d3 s0 s1 s2
    have l1 := heap_lt g1
    have l2 := heap_lt g2
    have HB := Lib.hid hb
    have HG0 := Lib.hid g0
    have HG1 := Lib.hid g1
    have HG2 := Lib.hid g2
    have HIK := Lib.hid hik
    have HFK := Lib.hid hfk
    clear hb g0 g1 g2 hik hfk
    by_cases hlt : k < n
    · have hfit := mvN_fits HVAL.out HF.out k (by omega)
      have hpre := move_pre HVAL.out hfit (by rw [mvN_K]; omega)
      have HC := Lib.hid (rmove_any _ (.agg #[.int .i64 (mvN B s k).K, .slice ak (mvN B s k).Oil.length ck, .int .i64 (mvN B s k).Away]) B (mvN B s k) wr (HV.out.below (Nat.le_refl _) HB.out) ⟨ak, ck, rfl, HIK.out, by rw [mvN_len]; omega⟩ HVAL.out hpre.1 hpre.2.1 hpre.2.2.1 hpre.2.2.2)
      clear hfit hpre
      have hmv : Hid (mvN B s (k + 1) = mv B (mvN B s k)) := rfl
      generalize hsk : mvN B s k = sk at *
      have HSK := Lib.hid hsk
      clear hsk
      go_wp2_with fail
      refine (HC.out).mono ?_
      rintro e w1 ⟨rv, rfl, ⟨a', c', rfl, hi', hn', hf'⟩, hb1⟩
      have e1 := (hb1.block _ l1).trans HG1.out
      have e2 := (hb1.block _ l2).trans HG2.out
      have e0 := (hb1.block _ (heap_lt HG0.out)).trans HG0.out
      have s0' := cell_of_heap e1 0
      have s1' := cell_of_heap e1 1
      have s2' := cell_of_heap e1 2
      simp at s0' s1' s2'
      have z0 := free_of_heap e1 0
      have z1 := free_of_heap e1 1
      have z2 := free_of_heap e1 2
      have HE0 := Lib.hid e0
      have HE1 := Lib.hid e1
      have HE2 := Lib.hid e2
      have HB1' := Lib.hid hb1
      have HI' := Lib.hid hi'
      have HF' := Lib.hid hf'
      clear e0 e1 e2 hb1 hi' hf' s0 s1 s2
      go_wp2
      go_roundw
      case rel =>
        refine ⟨k + 1, a', c', by omega, by go_num, ?_, ?_, ?_, ?_, ?_, ?_⟩
        · exact (((HB.out.trans (HB1'.out.mono HB.out.size)).setCell (by simp) _).setCell (by simp) _).setCell (by simp) _
        · exact (heap_setCell_other (by simp) _).trans ((heap_setCell_other (by simp) _).trans ((heap_setCell_other (by simp) _).trans HE0.out))
        · refine (heap_setCell_same (heap_setCell_same (heap_setCell_same HE1.out _) _) _).trans ?_
          rw [hmv.out, set3]
        · exact (heap_setCell_other (by simp) _).trans ((heap_setCell_other (by simp) _).trans ((heap_setCell_other (by simp) _).trans HE2.out))
        · rw [hmv.out]
          have hne : ∀ a, a' = some a → a.block ≠ w.heap.size + 1 := fun a ha => by have := HF'.out a ha; omega
          exact IntsAt.setCell (IntsAt.setCell (IntsAt.setCell HI'.out hne _) hne _) hne _
        · intro a ha; have := HF'.out a ha; right; omega
      case measure => simp [intOf]; omega
    · obtain rfl : k = n := by omega
      have r0 := cell_of_heap HG2.out 0
      have r1 := cell_of_heap HG2.out 1
      have r2 := cell_of_heap HG2.out 2
      simp at r0 r1 r2
      have z0 := free_of_heap HG2.out 0
      have z1 := free_of_heap HG2.out 1
      have z2 := free_of_heap HG2.out 2
      have hmk : Hid ((mvN B s k).Oil.length = s.Oil.length) := mvN_len B s k
      have hl2 : w.heap.size + 1 + 1 < wr.heap.size := l2
      have hrr := heap_setCell_same (heap_setCell_same (heap_setCell_same HG2.out (i := 0) (.int .i64 (mvN B s k).K)) (i := 1) (.slice ak (mvN B s k).Oil.length ck)) (i := 2) (.int .i64 (mvN B s k).Away)
      rw [set3] at hrr
      have HRR := Lib.hid hrr
      clear hrr
      go_wp2
      have c0 := cell_of_heap HRR.out 0
      have c1 := cell_of_heap HRR.out 1
      have c2 := cell_of_heap HRR.out 2
      simp at c0 c1 c2
      refine bodyPost_ret (v := .agg #[.int .i64 (mvN B s k).K, .slice ak (mvN B s k).Oil.length ck, .int .i64 (mvN B s k).Away]) (by simp [results, Try.results63, go_sem, c0, c1, c2]) rfl ⟨_, rfl, ⟨ak, ck, rfl, ?_, by rw [hmk.out]; omega⟩, ?_⟩
      · have hne : ∀ a, ak = some a → a.block ≠ w.heap.size + 1 + 1 := fun a ha => by have := HFK.out a ha; omega
        exact IntsAt.setCell (IntsAt.setCell (IntsAt.setCell HIK.out hne _) hne _) hne _
      · exact ((HB.out.setCell (by simp; omega) _).setCell (by simp; omega) _).setCell (by simp; omega) _
end Go.Proofs.Ytnafllhgjidbkaa

/- The reference's After and Move. -/
namespace Go.Proofs.Ytnafllhgjidbkaa
open Go.RowKit Go.Shelf
set_option linter.unusedVariables false
set_option linter.unusedSimpArgs false
set_option maxRecDepth 100000 in
set_option maxHeartbeats 4000000 in
theorem rAfter_any (v sv : Value) (B : Bay) (s : Slk) (n : Int) (w : World) (hv : BayAt w v B) (hs : SlkAt w sv s) (hnn : -9223372036854775808 ≤ n ∧ n ≤ 9223372036854775807) :
    Calls Try.prog 21 #[v, sv, .int .i64 n] w (Aft3 w (aftS B s n) (aftE B s n)) := by
  have HV := Lib.hid (fun W (h : Below w.heap.size w W) => hv.below (Nat.le_refl _) h)
  have HS := Lib.hid (fun W (h : Below w.heap.size w W) => hs.below (Nat.le_refl _) h)
  obtain ⟨la, lc, sa, sc, rfl, hl, hsh, hll, hsl⟩ := hv
  obtain ⟨ao, c, rfl, hi, hn⟩ := hs
  clear hl hsh hi
  have FF := Lib.hid (three_new (w := w) #[.int .i64 B.W, .int .i64 B.H, .slice la B.Land.length lc, .slice sa B.Share.length sc] #[.int .i64 s.K, .slice ao s.Oil.length c, .int .i64 s.Away] #[.int .i64 0, .slice none 0 0, .int .i64 0] 25 28 28)
  go_enter Try.func21, Try.ntmps21
  go_wp2_with fail
  generalize hW : (((w.alloc _).alloc _).alloc _) = W at *
  clear hW
  obtain ⟨f0, f1, f2, f3, f4⟩ := FF.out
  clear FF
  obtain ⟨x0, hx0⟩ : ∃ x : Aft W, x.val = W := ⟨⟨W, Below.refl _ W⟩, rfl⟩
  have F0 : Hid (Below w.heap.size w W) := f0
  have FZ : Hid (W.heap.size = w.heap.size + 3) := f1
  have FZ0 := Lib.hid (show x0.val.heap.size = w.heap.size + 3 by rw [hx0]; exact f1)
  have G0 : Hid (W.heap[w.heap.size]? = some (.cells #[.int .i64 B.W, .int .i64 B.H, .slice la B.Land.length lc, .slice sa B.Share.length sc] 25 (0, 0))) := f2
  have d0_0 : ∀ x : Aft W, x.val.cell? ⟨w.heap.size, 0, none⟩ = some (.int .i64 B.W) := fun x => cell_of_heap (x.heapH f2) 0
  have d0_1 : ∀ x : Aft W, x.val.cell? ⟨w.heap.size, 1, none⟩ = some (.int .i64 B.H) := fun x => cell_of_heap (x.heapH f2) 1
  have d0_2 : ∀ x : Aft W, x.val.cell? ⟨w.heap.size, 2, none⟩ = some (.slice la B.Land.length lc) := fun x => cell_of_heap (x.heapH f2) 2
  have d0_3 : ∀ x : Aft W, x.val.cell? ⟨w.heap.size, 3, none⟩ = some (.slice sa B.Share.length sc) := fun x => cell_of_heap (x.heapH f2) 3
  have G1 : Hid (W.heap[w.heap.size + 1]? = some (.cells #[.int .i64 s.K, .slice ao s.Oil.length c, .int .i64 s.Away] 28 (0, 0))) := f3
  have d1_0 : ∀ x : Aft W, x.val.cell? ⟨w.heap.size + 1, 0, none⟩ = some (.int .i64 s.K) := fun x => cell_of_heap (x.heapH f3) 0
  have d1_1 : ∀ x : Aft W, x.val.cell? ⟨w.heap.size + 1, 1, none⟩ = some (.slice ao s.Oil.length c) := fun x => cell_of_heap (x.heapH f3) 1
  have d1_2 : ∀ x : Aft W, x.val.cell? ⟨w.heap.size + 1, 2, none⟩ = some (.int .i64 s.Away) := fun x => cell_of_heap (x.heapH f3) 2
  have G2 : Hid (W.heap[w.heap.size + 1 + 1]? = some (.cells #[.int .i64 0, .slice none 0 0, .int .i64 0] 28 (0, 0))) := f4
  have d2_0 : ∀ x : Aft W, x.val.cell? ⟨w.heap.size + 1 + 1, 0, none⟩ = some (.int .i64 0) := fun x => cell_of_heap (x.heapH f4) 0
  have d2_1 : ∀ x : Aft W, x.val.cell? ⟨w.heap.size + 1 + 1, 1, none⟩ = some (.slice none 0 0) := fun x => cell_of_heap (x.heapH f4) 1
  have d2_2 : ∀ x : Aft W, x.val.cell? ⟨w.heap.size + 1 + 1, 2, none⟩ = some (.int .i64 0) := fun x => cell_of_heap (x.heapH f4) 2
  have z2 : ∀ (x : Aft W) (o : Nat), x.val.frozen? ⟨w.heap.size + 1 + 1, o, none⟩ = false := fun x o => free_of_heap (x.heapH f4) o
  rw [← hx0]
  clear hx0 f0 f1 f2 f3 f4
  refine (rasked_any _ _ B s _ (HV.out _ (Aft.off F0.out x0)) (HS.out _ (Aft.off F0.out x0))).mono ?_
  rintro e w1 ⟨rfl, hb⟩
  obtain ⟨x1, rfl, lk0'⟩ := x0.step (hb)
  have lk0 := Lib.hid lk0'
  clear hb lk0'
  have zeroend : Hid (∀ (x : Aft W) (E : Int), aftE B s n = E → E ≠ 0 → Aft3 w (aftS B s n) (aftE B s n) (.returned (.tuple #[.agg #[.int .i64 0, .slice none 0 0, .int .i64 0], .int .i64 E])) (((x.val.setCell ⟨w.heap.size + 1 + 1, 0, none⟩ (.int .i64 0)).setCell ⟨w.heap.size + 1 + 1, 1, none⟩ (.slice none 0 0)).setCell ⟨w.heap.size + 1 + 1, 2, none⟩ (.int .i64 0))) := by
    intro x E hE h0
    refine ⟨_, by rw [hE], ?_, (((Aft.off F0.out x).setCell (by simp; omega) _).setCell (by simp; omega) _).setCell (by simp; omega) _⟩
    rw [show aftS B s n = ⟨0, [], 0⟩ from by unfold aftS; rw [hE, if_neg h0]]
    exact zero_new _ _
  have hlt2 : Hid (∀ x : Aft W, w.heap.size + 1 + 1 < x.val.heap.size) := fun x => by have := x.size_le; have := FZ.out; omega
  rcases okE_cases B s with ⟨h0, hval, hfit⟩ | h0 | h0
  · rw [h0]
    by_cases hr : n < 0 ∨ 5 < n
    · have hE : aftE B s n = 2 := by unfold aftE; rw [if_neg (by simp [h0]), if_pos hr]
      have HZ := Lib.hid (zeroend.out x1 2 hE (by decide))
      have hsz := hlt2.out x1
      clear zeroend h0 hE hval hfit
      rcases hr with hr | hr
      all_goals
        go_wp2
        refine bodyPost_ret (v := .tuple #[.agg #[.int .i64 0, .slice none 0 0, .int .i64 0], .int .i64 2]) (by simp [results, Try.results21, go_sem, d2_0, d2_1, d2_2, hsz]) rfl HZ.out
    · have hK := hfit.1
      by_cases hk : 5 < s.K + n
      · have hE : aftE B s n = 4 := by unfold aftE; rw [if_neg (by simp [h0]), if_neg hr, if_pos hk]
        have HZ := Lib.hid (zeroend.out x1 4 hE (by decide))
        have hnr : 0 ≤ n ∧ n ≤ 5 := by omega
        have hsz := hlt2.out x1
        clear zeroend h0 hE hval hfit hr
        go_wp2
        refine bodyPost_ret (v := .tuple #[.agg #[.int .i64 0, .slice none 0 0, .int .i64 0], .int .i64 4]) (by simp [results, Try.results21, go_sem, d2_0, d2_1, d2_2, hsz]) rfl HZ.out
      · have hE : aftE B s n = 0 := by unfold aftE; rw [if_neg (by simp [h0]), if_neg hr, if_neg hk]
        have hS : aftS B s n = mvN B s n.toNat := by unfold aftS; rw [hE, if_pos rfl]
        obtain ⟨m, rfl⟩ : ∃ m : Nat, n = m := ⟨n.toNat, by omega⟩
        rw [Int.toNat_natCast] at hS
        have hml : 1 ≤ (mvN B s m).Oil.length ∧ (mvN B s m).Oil.length ≤ 36 := by rw [mvN_len]; have h1 := mul36 hval.1.1 hval.1.2 hval.2.1.1 hval.2.1.2; have := hfit.2.1; omega
        have HE := Lib.hid hE
        have HS2 := Lib.hid hS
        have HC := Lib.hid (rafter_any _ _ B s m x1.val (HV.out _ (Aft.off F0.out x1)) (HS.out _ (Aft.off F0.out x1)) hval hfit (by omega))
        have hnr : (0 : Int) ≤ m ∧ (m : Int) ≤ 5 := by omega
        have hkk : s.K + m ≤ 5 := by omega
        have hlt2' := hlt2
        clear zeroend h0 hE hval hfit hr hS hk
        generalize mvN B s m = S at *
        go_wp2_with fail
        refine (HC.out).mono ?_
        rintro e w1 ⟨rv, rfl, ⟨a', c', rfl, hi', hn'⟩, hb1⟩
        obtain ⟨x2, rfl, lk1⟩ := x1.step hb1
        obtain ⟨a, rfl⟩ : ∃ a, a' = some a := by
          obtain ⟨b, off, e, _⟩ := hi'.get (k := 0) (by omega); exact ⟨_, e⟩
        obtain ⟨i0, hi0, hz0, hz1, hz2⟩ := info_parts info3
        have hbox : Hid ((x2.val.alloc (.cells #[.int .i64 S.K, .slice (some a) S.Oil.length c', .int .i64 S.Away] 28)).heap[x2.val.heap.size]? = some (.cells #[.int .i64 S.K, .slice (some a) S.Oil.length c', .int .i64 S.Away] 28 (0, 0))) := World.alloc_heap_new _ _
        have hown := own_empty (x2.val.alloc (.cells #[.int .i64 S.K, .slice (some a) S.Oil.length c', .int .i64 S.Away] 28)) (x2.val.heap.size + 1) (x2.val.heap.size + 1) (by simp) (by simp)
        have hnews := news_of (hi'.below (Nat.le_refl _) (((Below.refl _ _).alloc (Nat.le_refl _) (.cells #[.int .i64 S.K, .slice (some a) S.Oil.length c', .int .i64 S.Away] 28)).alloc (by simp) (.cells #[] 3)))
        have HO := Lib.hid hown
        have HN := Lib.hid hnews
        clear hown hnews hi' hb1 lk1
        go_upto_region 10 with (first | (at_builtin; refine wpList_append_own _ rfl _ _ 26 rfl (x2.val.heap.size + 1) 3 i0 (.int .i64 0) 1 8 Try.underlying26 hi0 hz0 hz1 hz2 rfl (by decide) _ _ _ rfl HO.out a S.Oil.length c' (S.Oil.map (Value.int .i64)) rfl (by simp) HN.out ints_one (by simp [maxLen]; omega) (by omega) (by simp) ?_; intro v' w3 hown1 hgrow1 hnil; clear hnil; have hB3 := (Below.refl (x2.val.heap.size + 1) _).grown hgrow1 (by simp) (fun k e => by cases e; exact Nat.le_refl _); clear hgrow1; simp only [Nat.zero_add, List.nil_append] at hown1; obtain ⟨a3, c3, rfl, hi3, hf3⟩ := own_ints hown1; clear hown1; obtain ⟨x3, rfl, lk2⟩ := x2.step (((Below.refl _ _).alloc (Nat.le_refl _) _).alloc (by simp) _ |>.trans (hB3.mono (by simp))); have b3 := (hB3.block x2.val.heap.size (by simp)).trans (heap_alloc_old hbox.out _); have LK := Lib.hid lk2; have HI3 := Lib.hid hi3; have HF3 := Lib.hid hf3; have hlt3 := heap_lt b3; have y0 := cell_of_heap b3 0; have y1 := cell_of_heap b3 1; have y2 := cell_of_heap b3 2; simp at y0 y1 y2; have yf := free_of_heap b3 1; have B3 := Lib.hid b3; clear hB3 lk2 hi3 hf3 b3 HO HN))
        have hW3 := x2.size_le
        have hWz := FZ.out
        have hb4 : Below W.heap.size W (x3.val.setCell ⟨x2.val.heap.size, 1, none⟩ (.slice a3 S.Oil.length c3)) := x3.bel.setCell (by show _ ≤ x2.val.heap.size; omega) _
        have b4 := heap_setCell_same B3.out (i := 1) (.slice a3 S.Oil.length c3)
        have h1 : ∀ a, a3 = some a → a.block ≠ x2.val.heap.size := fun a ha => by have := HF3.out a ha; omega
        have hi4 := IntsAt.setCell (p := ⟨x2.val.heap.size, 1, none⟩) HI3.out h1 (.slice a3 S.Oil.length c3)
        clear yf y0 y1 y2 h1
        generalize x3.val.setCell ⟨x2.val.heap.size, 1, none⟩ (.slice a3 S.Oil.length c3) = W4 at *
        obtain ⟨x4, rfl⟩ : ∃ x : Aft W, x.val = W4 := ⟨⟨W4, hb4⟩, rfl⟩
        have y0 := cell_of_heap b4 0
        have y1 := cell_of_heap b4 1
        have y2 := cell_of_heap b4 2
        simp at y0 y1 y2
        have hsz : w.heap.size + 1 + 1 < x4.val.heap.size := hlt2'.out x4
        have HI4 := Lib.hid hi4
        have HWz := Lib.hid hWz
        have E3 := Lib.hid (res3 (x4.heapH G2.out) (.int .i64 S.K) (.slice a3 S.Oil.length c3) (.int .i64 S.Away))
        clear hWz hb4 b4 hi4
        go_wp2
        obtain ⟨r0, r1, r2⟩ := res3c E3.out
        refine bodyPost_ret (v := .tuple #[.agg #[.int .i64 S.K, .slice a3 S.Oil.length c3, .int .i64 S.Away], .int .i64 0]) (by simp [results, Try.results21, go_sem, r0, r1, r2]) rfl ?_
        rw [HE.out, HS2.out]
        refine ⟨_, rfl, ⟨a3, c3, rfl, ?_, hn', ?_⟩, ?_⟩
        · have h2 : ∀ a, a3 = some a → a.block ≠ w.heap.size + 1 + 1 := fun a ha => by have := HF3.out a ha; have := HWz.out; omega
          exact IntsAt.setCell (IntsAt.setCell (IntsAt.setCell HI4.out h2 _) h2 _) h2 _
        · intro a ha; have := HF3.out a ha; have := HWz.out; omega
        · exact (((Aft.off F0.out x4).setCell (by simp; omega) _).setCell (by simp; omega) _).setCell (by simp; omega) _
  all_goals
    have HZ := Lib.hid (zeroend.out x1 _ (by unfold aftE; rw [if_pos (by rw [h0]; decide), h0]) (by decide))
    have hsz := hlt2.out x1
    rw [h0]
    clear zeroend h0
    go_wp2
    refine bodyPost_ret (v := .tuple #[.agg #[.int .i64 0, .slice none 0 0, .int .i64 0], _]) (by simp [results, Try.results21, go_sem, d2_0, d2_1, d2_2, hsz]) rfl HZ.out
end Go.Proofs.Ytnafllhgjidbkaa

/- The reference's Before. -/
namespace Go.Proofs.Ytnafllhgjidbkaa
open Go.RowKit Go.Shelf
set_option linter.unusedVariables false
set_option linter.unusedSimpArgs false
theorem Aft.stepd {W w1 : World} (x : Aft W) (hb : Below x.val.drew.heap.size x.val.drew w1) : ∃ y : Aft W, y.val = w1 ∧ Below x.val.heap.size x.val y.val := by
  have h : Below x.val.heap.size x.val w1 := ((Below.refl x.val.heap.size x.val).drew).trans hb
  exact x.step h
theorem own_below {w w' : World} {base e sz n : Nat} {v : Value} {xs : List Value} (h : w.ownsRow base e sz v n xs) (hb : Below w.heap.size w w') : w'.ownsRow base e sz v n xs := by
  obtain ⟨h1, h2 | ⟨g, cap, cur, hv, hb', hh, hn, hm, hs, ht⟩⟩ := h
  · exact ⟨h1, .inl h2⟩
  · exact ⟨h1, .inr ⟨g, cap, cur, hv, hb', (hb.block g (heap_lt hh)).trans hh, hn, hm, hs, ht⟩⟩
theorem own_block {w : World} {base e sz n : Nat} {v : Value} {xs : List Value} (h : w.ownsRow base e sz v n xs) : ∀ k, v.ownBlock = some k → base ≤ k := by
  obtain ⟨h1, ⟨rfl, _⟩ | ⟨g, cap, cur, rfl, hb', _⟩⟩ := h
  · intro k hk; cases hk
  · intro k hk; cases hk; exact hb'
def upL (L : List Int) (k : Nat) : List Int := L.take k
theorem upL_succ {L : List Int} {k : Nat} (h : k < L.length) : (upL L k).map (Value.int .i64) ++ [.int .i64 (L.getD k 0)] = (upL L (k + 1)).map (Value.int .i64) := by
  unfold upL
  rw [List.take_succ_eq_append_getElem h, List.map_append]; simp [List.getD_eq_getElem?_getD, h, -List.map_take]

set_option maxRecDepth 100000 in
set_option maxHeartbeats 4000000 in
theorem rBefore_any (v : Value) (B : Bay) (po : Option Addr) (pc : Nat) (l : List Int) (n : Int) (w : World) (hv : BayAt w v B) (hp : IntsAt w po l) (hn : l.length ≤ 1000) (hnn : -9223372036854775808 ≤ n ∧ n ≤ 9223372036854775807) :
    Calls Try.prog 49 #[v, .slice po l.length pc, .int .i64 n] w (Lst2 w (befL B l n) (befE B l n)) := by
  have HV := Lib.hid (fun W (h : Below w.heap.size w W) => hv.below (Nat.le_refl _) h)
  have HP := Lib.hid (fun W (h : Below w.heap.size w W) => hp.below (Nat.le_refl _) h)
  obtain ⟨la, lc, sa, sc, rfl, hl, hsh, hll, hsl⟩ := hv
  clear hl hsh hp
  have FF := Lib.hid (one_new (w := w) #[.int .i64 B.W, .int .i64 B.H, .slice la B.Land.length lc, .slice sa B.Share.length sc] 25)
  by_cases hval : validP B
  case neg =>
    have e1 := befE_20 (l := l) (n := n) hval
    have e2 := befE_no e1 (by decide)
    have hc := fun W h => rvalid_any _ B W (HV.out W h)
    rw [validB_false hval] at hc
    have E1 := Lib.hid e1
    have E2 := Lib.hid e2
    have HC := Lib.hid hc
    clear e1 e2 hc
    clear hval
    go_enter Try.func49, Try.ntmps49
    go_wp2_with fail
    generalize hW : (w.alloc _) = W at *
    clear hW
    obtain ⟨f0, f1, f2⟩ := FF.out
    clear FF
    obtain ⟨x0, hx0⟩ : ∃ x : Aft W, x.val = W := ⟨⟨W, Below.refl _ W⟩, rfl⟩
    have F0 : Hid (Below w.heap.size w W) := f0
    have FZ : Hid (W.heap.size = w.heap.size + 1) := f1
    have FZ0 := Lib.hid (show x0.val.heap.size = w.heap.size + 1 by rw [hx0]; exact f1)
    have G0 : Hid (W.heap[w.heap.size]? = some (.cells #[.int .i64 B.W, .int .i64 B.H, .slice la B.Land.length lc, .slice sa B.Share.length sc] 25 (0, 0))) := f2
    have d0_0 : ∀ x : Aft W, x.val.cell? ⟨w.heap.size, 0, none⟩ = some (.int .i64 B.W) := fun x => cell_of_heap (x.heapH f2) 0
    have d0_1 : ∀ x : Aft W, x.val.cell? ⟨w.heap.size, 1, none⟩ = some (.int .i64 B.H) := fun x => cell_of_heap (x.heapH f2) 1
    have d0_2 : ∀ x : Aft W, x.val.cell? ⟨w.heap.size, 2, none⟩ = some (.slice la B.Land.length lc) := fun x => cell_of_heap (x.heapH f2) 2
    have d0_3 : ∀ x : Aft W, x.val.cell? ⟨w.heap.size, 3, none⟩ = some (.slice sa B.Share.length sc) := fun x => cell_of_heap (x.heapH f2) 3
    rw [← hx0]
    clear hx0 f0 f1 f2
    refine (HC.out _ (Aft.off F0.out x0)).mono ?_
    rintro e w1 ⟨rfl, hb⟩
    obtain ⟨x1, rfl, lk0'⟩ := x0.step (hb)
    have lk0 := Lib.hid lk0'
    clear hb lk0'
    go_wp2
    go_ret2
    exact ⟨none, 0, ret_si rfl (by rw [E2.out]; rfl) rfl E1.out.symm, by rw [E2.out]; exact fun h => absurd rfl h, fun a ha => by (cases ha), Aft.off F0.out x1⟩
  have hc := fun W h => rvalid_any _ B W (HV.out W h)
  rw [validB_true hval] at hc
  have hc2 := fun W h => arePrices_any _ B po pc l W (HV.out W h) (HP.out W h) hn hval
  by_cases hpr : priceP B l
  case neg =>
    rw [priceB_false hpr] at hc2
    have e1 := befE_2 (l := l) (n := n) hval (fun h => hpr h.1)
    have e2 := befE_no e1 (by decide)
    have E1 := Lib.hid e1
    have E2 := Lib.hid e2
    have HC := Lib.hid hc
    have HC2 := Lib.hid hc2
    clear e1 e2 hc hc2
    clear hval hpr
    go_enter Try.func49, Try.ntmps49
    go_wp2_with fail
    generalize hW : (w.alloc _) = W at *
    clear hW
    obtain ⟨f0, f1, f2⟩ := FF.out
    clear FF
    obtain ⟨x0, hx0⟩ : ∃ x : Aft W, x.val = W := ⟨⟨W, Below.refl _ W⟩, rfl⟩
    have F0 : Hid (Below w.heap.size w W) := f0
    have FZ : Hid (W.heap.size = w.heap.size + 1) := f1
    have FZ0 := Lib.hid (show x0.val.heap.size = w.heap.size + 1 by rw [hx0]; exact f1)
    have G0 : Hid (W.heap[w.heap.size]? = some (.cells #[.int .i64 B.W, .int .i64 B.H, .slice la B.Land.length lc, .slice sa B.Share.length sc] 25 (0, 0))) := f2
    have d0_0 : ∀ x : Aft W, x.val.cell? ⟨w.heap.size, 0, none⟩ = some (.int .i64 B.W) := fun x => cell_of_heap (x.heapH f2) 0
    have d0_1 : ∀ x : Aft W, x.val.cell? ⟨w.heap.size, 1, none⟩ = some (.int .i64 B.H) := fun x => cell_of_heap (x.heapH f2) 1
    have d0_2 : ∀ x : Aft W, x.val.cell? ⟨w.heap.size, 2, none⟩ = some (.slice la B.Land.length lc) := fun x => cell_of_heap (x.heapH f2) 2
    have d0_3 : ∀ x : Aft W, x.val.cell? ⟨w.heap.size, 3, none⟩ = some (.slice sa B.Share.length sc) := fun x => cell_of_heap (x.heapH f2) 3
    rw [← hx0]
    clear hx0 f0 f1 f2
    refine (HC.out _ (Aft.off F0.out x0)).mono ?_
    rintro e w1 ⟨rfl, hb⟩
    obtain ⟨x1, rfl, lk0'⟩ := x0.step (hb)
    have lk0 := Lib.hid lk0'
    clear hb lk0'
    go_wp2_with fail
    refine (HC2.out _ (Aft.off F0.out x1)).mono ?_
    rintro e w1 ⟨rfl, hb⟩
    obtain ⟨x2, rfl, lk1'⟩ := x1.step (hb)
    have lk1 := Lib.hid lk1'
    clear hb lk1'
    go_wp2
    go_ret2
    exact ⟨none, 0, ret_si rfl (by rw [E2.out]; rfl) rfl E1.out.symm, by rw [E2.out]; exact fun h => absurd rfl h, fun a ha => by (cases ha), Aft.off F0.out x2⟩
  rw [priceB_true hpr] at hc2
  by_cases hr : 0 ≤ n ∧ n ≤ 5
  case neg =>
    have e1 := befE_2 (l := l) (n := n) hval (fun h => hr h.2)
    have e2 := befE_no e1 (by decide)
    have hr' : n < 0 ∨ 5 < n := by omega
    have E1 := Lib.hid e1
    have E2 := Lib.hid e2
    have HC := Lib.hid hc
    have HC2 := Lib.hid hc2
    clear e1 e2 hc hc2
    clear hval hpr hr
    rcases hr' with hr | hr
    all_goals
      go_enter Try.func49, Try.ntmps49
      go_wp2_with fail
      generalize hW : (w.alloc _) = W at *
      clear hW
      obtain ⟨f0, f1, f2⟩ := FF.out
      clear FF
      obtain ⟨x0, hx0⟩ : ∃ x : Aft W, x.val = W := ⟨⟨W, Below.refl _ W⟩, rfl⟩
      have F0 : Hid (Below w.heap.size w W) := f0
      have FZ : Hid (W.heap.size = w.heap.size + 1) := f1
      have FZ0 := Lib.hid (show x0.val.heap.size = w.heap.size + 1 by rw [hx0]; exact f1)
      have G0 : Hid (W.heap[w.heap.size]? = some (.cells #[.int .i64 B.W, .int .i64 B.H, .slice la B.Land.length lc, .slice sa B.Share.length sc] 25 (0, 0))) := f2
      have d0_0 : ∀ x : Aft W, x.val.cell? ⟨w.heap.size, 0, none⟩ = some (.int .i64 B.W) := fun x => cell_of_heap (x.heapH f2) 0
      have d0_1 : ∀ x : Aft W, x.val.cell? ⟨w.heap.size, 1, none⟩ = some (.int .i64 B.H) := fun x => cell_of_heap (x.heapH f2) 1
      have d0_2 : ∀ x : Aft W, x.val.cell? ⟨w.heap.size, 2, none⟩ = some (.slice la B.Land.length lc) := fun x => cell_of_heap (x.heapH f2) 2
      have d0_3 : ∀ x : Aft W, x.val.cell? ⟨w.heap.size, 3, none⟩ = some (.slice sa B.Share.length sc) := fun x => cell_of_heap (x.heapH f2) 3
      rw [← hx0]
      clear hx0 f0 f1 f2
      refine (HC.out _ (Aft.off F0.out x0)).mono ?_
      rintro e w1 ⟨rfl, hb⟩
      obtain ⟨x1, rfl, lk0'⟩ := x0.step (hb)
      have lk0 := Lib.hid lk0'
      clear hb lk0'
      go_wp2_with fail
      refine (HC2.out _ (Aft.off F0.out x1)).mono ?_
      rintro e w1 ⟨rfl, hb⟩
      obtain ⟨x2, rfl, lk1'⟩ := x1.step (hb)
      have lk1 := Lib.hid lk1'
      clear hb lk1'
      go_wp2
      go_ret2
      exact ⟨none, 0, ret_si rfl (by rw [E2.out]; rfl) rfl E1.out.symm, by rw [E2.out]; exact fun h => absurd rfl h, fun a ha => by (cases ha), Aft.off F0.out x2⟩
  obtain ⟨m, rfl⟩ : ∃ m : Nat, n = m := ⟨n.toNat, by omega⟩
  obtain ⟨e1, e2⟩ := befE_0 (n := m) hval hpr (by omega)
  have hN : l.length = B.Share.length + 1 := by have := hpr.1; have := hval.2.2.2.1; omega
  have hWH := hval.2.2.2.1
  obtain ⟨hp1, hp2⟩ := mul36 hval.1.1 hval.1.2 hval.2.1.1 hval.2.1.2
  have HBL := Lib.hid ((bN_len B l m).trans hN)
  have HONE := Lib.hid (fun i (hi : i ≤ B.Share.length) => (show costZ (mvN B (oneS B i) m) l = (bN B l m).getD i 0 from (adjN hval (oneS_len B i) m l (by rw [oneS_len]; exact hN)).trans (oneS_cost hi)))
  have HVAL := Lib.hid hval
  have HPR := Lib.hid hpr
  have HWH := Lib.hid hWH
  have E1 := Lib.hid e1
  have E2 := Lib.hid e2
  have HC := Lib.hid hc
  have HC2 := Lib.hid hc2
  have HN := Lib.hid hN
  clear e1 e2 hc hc2 hN
  clear hval hpr hWH
  generalize bN B l m = L at *
  go_enter Try.func49, Try.ntmps49
  go_wp2_with fail
  generalize hW : (w.alloc _) = W at *
  clear hW
  obtain ⟨f0, f1, f2⟩ := FF.out
  clear FF
  obtain ⟨x0, hx0⟩ : ∃ x : Aft W, x.val = W := ⟨⟨W, Below.refl _ W⟩, rfl⟩
  have F0 : Hid (Below w.heap.size w W) := f0
  have FZ : Hid (W.heap.size = w.heap.size + 1) := f1
  have FZ0 := Lib.hid (show x0.val.heap.size = w.heap.size + 1 by rw [hx0]; exact f1)
  have G0 : Hid (W.heap[w.heap.size]? = some (.cells #[.int .i64 B.W, .int .i64 B.H, .slice la B.Land.length lc, .slice sa B.Share.length sc] 25 (0, 0))) := f2
  have d0_0 : ∀ x : Aft W, x.val.cell? ⟨w.heap.size, 0, none⟩ = some (.int .i64 B.W) := fun x => cell_of_heap (x.heapH f2) 0
  have d0_1 : ∀ x : Aft W, x.val.cell? ⟨w.heap.size, 1, none⟩ = some (.int .i64 B.H) := fun x => cell_of_heap (x.heapH f2) 1
  have d0_2 : ∀ x : Aft W, x.val.cell? ⟨w.heap.size, 2, none⟩ = some (.slice la B.Land.length lc) := fun x => cell_of_heap (x.heapH f2) 2
  have d0_3 : ∀ x : Aft W, x.val.cell? ⟨w.heap.size, 3, none⟩ = some (.slice sa B.Share.length sc) := fun x => cell_of_heap (x.heapH f2) 3
  have e0_0 : ∀ (x : Aft W) (o : Obj), (x.val.alloc o).cell? ⟨w.heap.size, 0, none⟩ = some (.int .i64 B.W) := fun x o => cell_of_heap (heap_alloc_old (x.heapH f2) o) 0
  have e0_1 : ∀ (x : Aft W) (o : Obj), (x.val.alloc o).cell? ⟨w.heap.size, 1, none⟩ = some (.int .i64 B.H) := fun x o => cell_of_heap (heap_alloc_old (x.heapH f2) o) 1
  have e0_2 : ∀ (x : Aft W) (o : Obj), (x.val.alloc o).cell? ⟨w.heap.size, 2, none⟩ = some (.slice la B.Land.length lc) := fun x o => cell_of_heap (heap_alloc_old (x.heapH f2) o) 2
  have e0_3 : ∀ (x : Aft W) (o : Obj), (x.val.alloc o).cell? ⟨w.heap.size, 3, none⟩ = some (.slice sa B.Share.length sc) := fun x o => cell_of_heap (heap_alloc_old (x.heapH f2) o) 3
  rw [← hx0]
  clear hx0 f0 f1 f2
  refine (HC.out _ (Aft.off F0.out x0)).mono ?_
  rintro e w1 ⟨rfl, hb⟩
  obtain ⟨x1, rfl, lk0'⟩ := x0.step (hb)
  have lk0 := Lib.hid lk0'
  clear hb lk0'
  go_wp2_with fail
  refine (HC2.out _ (Aft.off F0.out x1)).mono ?_
  rintro e w1 ⟨rfl, hb⟩
  obtain ⟨x2, rfl, lk1'⟩ := x1.step (hb)
  have lk1 := Lib.hid lk1'
  clear hb lk1'
  go_wp2_with fail
  go_loopw [8, 9] (fun v i wr => ∃ (k : Nat) (x : Aft W), wr = x.val ∧ k ≤ B.Share.length + 1 ∧ i = .int .i64 k ∧ x.val.ownsRow (w.heap.size + 1) 3 1 v k ((upL L k).map (Value.int .i64))) (fun _ i _ => B.Share.length + 1 - (intOf i).toNat)
  case atStart => exact ⟨0, x2, rfl, by omega, rfl, by simp [upL]; exact World.ownsRow_nil _ _ _ _⟩
  case round =>
    obtain ⟨k, x3, rfl, hk, rfl, hown⟩ := hrel
    have HOWN := Lib.hid hown
    clear hown
    by_cases hlt : k ≤ B.Share.length
    · have hle : (k : Int) ≤ B.W * B.H := by have := HWH.out; omega
      obtain ⟨q1, q2, q3⟩ := cost_bd (mvN_fits HVAL.out (oneS_fits HVAL.out hlt) m (by show (oneS B k).K + _ ≤ 5; unfold oneS; split <;> (simp; omega))) HPR.out
      have Q3 := Lib.hid q3
      have Q1 := Lib.hid q1
      have hq100 : (mvN B (oneS B k) m).Oil.length ≤ 100 := by rw [mvN_len, oneS_len]; omega
      have HONEK := Lib.hid (HONE.out k hlt)
      have HSUC := Lib.hid (upL_succ (L := L) (k := k) (by have := HBL.out; omega))
      have hKK : (oneS B k).K + m ≤ 5 := by unfold oneS; split <;> (simp; omega)
      obtain ⟨i0, hi0, hz0, hz1, hz2⟩ := info_parts info3
      have hh3 := x3.size_le
      have HX3 := Lib.hid x3.bel
      have HHK := Lib.hid hlt
      clear q1 q3
      go_wp2_with fail
      go_region_held3 (fun w' => w'.cell? ⟨w.heap.size, 0, none⟩ = some (.int .i64 B.W) ∧ w'.cell? ⟨w.heap.size, 1, none⟩ = some (.int .i64 B.H) ∧ w'.cell? ⟨w.heap.size, 2, none⟩ = some (.slice la B.Land.length lc) ∧ w'.cell? ⟨w.heap.size, 3, none⟩ = some (.slice sa B.Share.length sc)) (first | (with_reducible exact ⟨d0_0 y4, d0_1 y4, d0_2 y4, d0_3 y4⟩) | (with_reducible exact ⟨e0_0 y3 _, e0_1 y3 _, e0_2 y3 _, e0_3 y3 _⟩) | (with_reducible exact ⟨d0_0 y3, d0_1 y3, d0_2 y3, d0_3 y3⟩) | (with_reducible exact ⟨d0_0 y2, d0_1 y2, d0_2 y2, d0_3 y2⟩) | (with_reducible exact ⟨d0_0 y1, d0_1 y1, d0_2 y1, d0_3 y1⟩) | go_keep) (first | (go_at_call 58; refine (One_any _ B k _ (HV.out _ (Aft.off F0.out x3).drew) HVAL.out HHK.out).mono ?_; rintro e w5 ⟨rv, rfl, ⟨a5, c5, rfl, hi5, hn5, hf5⟩, hb5⟩; obtain ⟨y1, rfl, ly1⟩ := x3.stepd hb5; have I5 := Lib.hid hi5; have LY1 := Lib.hid ly1; clear hb5 hf5 hi5 ly1) | (go_at_call 63; refine (rafter_any _ _ B (oneS B k) m _ (HV.out _ (Aft.off F0.out y1)) ⟨a5, c5, rfl, I5.out, hn5⟩ HVAL.out (oneS_fits HVAL.out HHK.out) hKK).mono ?_; rintro e w6 ⟨rv, rfl, ⟨a6, c6, rfl, hi6, hn6⟩, hb6⟩; obtain ⟨y2, rfl, ly2⟩ := y1.step hb6; have I6 := Lib.hid hi6; have LY2 := Lib.hid ly2; clear hb6 hi6 ly2) | (go_at_call 47; refine (Priced_any a6 po c6 pc (mvN B (oneS B k) m) l _ I6.out (HP.out _ (Aft.off F0.out y2)) Q1.out hq100 (by omega) (fun j hj => by have := Q3.out j hj; omega)).mono ?_; rintro e w7 ⟨rfl, hb7⟩; obtain ⟨y3, rfl, ly3⟩ := y2.step hb7; have LY3 := Lib.hid ly3; have LL := Lib.hid (Below.link (Below.link LY1.out LY2.out) ly3); rw [HONEK.out]; clear hb7 ly3) | (refine step_append_lies _ (by rfl) _ _ _ (by rfl) (w.heap.size + 1) 3 i0 _ 1 8 Try.underlying26 hi0 hz0 hz1 hz2 rfl (by decide) _ k _ (by rfl) ((own_below HOWN.out LL.out).alloc _) ⟨y3.val.heap.size, 0, none⟩ 1 1 [.int .i64 (L.getD k 0)] (by rfl) (by rfl) (World.news_of_block (cs := #[.int .i64 (L.getD k 0)]) (t := 3) (fr := (0, 0)) (World.alloc_heap_new y3.val _)) (by simp [Value.oneCell']) (by omega) (by unfold maxLen; omega) (by omega) (by rw [World.size_alloc]; have := y3.size_le; have := FZ.out; omega) (y3.val.heap.size + 1) (World.size_alloc _ _) ?_; intro gg cap w8 hown8 hgrow hat hlt8; have hb8 : Below W.heap.size W w8 := (y3.bel.alloc y3.size_le _).grown hgrow (by rw [World.size_alloc]; have := y3.size_le; omega) (fun q e => by have := own_block HOWN.out q e; have := FZ.out; omega); obtain ⟨y4, rfl⟩ : ∃ y : Aft W, y.val = w8 := ⟨⟨w8, hb8⟩, rfl⟩; have OWN8 := Lib.hid hown8; clear hb8 hown8 hgrow hat))
      go_wp2_with fail
      go_roundw
      case rel =>
        refine ⟨k + 1, y4, rfl, by omega, by go_num, ?_⟩
        have h := OWN8.out
        rw [HSUC.out] at h
        exact h
      case measure => simp [intOf]; omega
    · have hge : ¬ ((k : Int) ≤ B.W * B.H) := by have := HWH.out; omega
      have hkL : k = L.length := by have := HBL.out; omega
      have hown := HOWN.out
      rw [hkL] at hown
      have hup : upL L L.length = L := by unfold upL; simp
      rw [hup] at hown
      obtain ⟨ao, c, rfl, hi, hf⟩ := own_ints hown
      have HI := Lib.hid hi
      have HF := Lib.hid hf
      clear hi hf
      clear hown hkL hup HOWN
      go_wp2
      go_ret2
      refine ⟨ao, c, ret_si rfl (by rw [E2.out]) rfl E1.out.symm, by rw [E2.out]; exact HI.out, fun a ha => ?_, Aft.off F0.out x3⟩
      have := HF.out a ha; omega
end Go.Proofs.Ytnafllhgjidbkaa

/- Worst and its reference. -/
namespace Go.Proofs.Ytnafllhgjidbkaa
open Go.RowKit Go.Shelf
set_option linter.unusedVariables false
set_option linter.unusedSimpArgs false
noncomputable def worstL (B : Bay) (i n : Int) : List Int := landsL B (mvN B (oneS B i.toNat) n.toNat).Oil true
noncomputable def worstE (B : Bay) (i n : Int) : Int := if placE B i false n = 0 then gE (bestU (worstL B i n) B.Share.length).2 else placE B i false n
noncomputable def worstI (B : Bay) (i n : Int) : Nat := if placE B i false n = 0 then (bestU (worstL B i n) B.Share.length).1 else 0
theorem worst_pre {B : Bay} {m k : Nat} (hval : validP B) (hm : m < B.Share.length) (hk : k ≤ 5) : fitsP B (oneS B m) ∧ (oneS B m).K = 0 ∧ fitsP B (mvN B (oneS B m) k) ∧ (mvN B (oneS B m) k).Oil.length = B.Share.length ∧ 1 ≤ B.Share.length ∧ B.Share.length ≤ 36 ∧ B.Land.length = B.Share.length := by
  have h1 := oneS_fits hval (Nat.le_of_lt hm)
  have h2 : (oneS B m).K = 0 := by unfold oneS; split <;> rfl
  have h36 := mul36 hval.1.1 hval.1.2 hval.2.1.1 hval.2.1.2
  have h4 := hval.2.2.1
  have h5 := hval.2.2.2.1
  exact ⟨h1, h2, mvN_fits hval h1 k (by omega), by rw [mvN_len, oneS_len], by omega, by omega, by omega⟩

set_option maxRecDepth 100000 in
set_option maxHeartbeats 4000000 in
theorem Worst_any (v : Value) (B : Bay) (i n : Int) (w : World) (hv : BayAt w v B) (hii : -9223372036854775808 ≤ i ∧ i ≤ 9223372036854775807) (hnn : -9223372036854775808 ≤ n ∧ n ≤ 9223372036854775807) :
    Calls Try.prog 51 #[v, .int .i64 i, .int .i64 n] w fun e w' => e = .returned (.tuple #[.int .i64 (worstI B i n), .int .i64 (worstE B i n)]) ∧ Below w.heap.size w w' := by
  have HV := Lib.hid (fun W (h : Below w.heap.size w W) => hv.below (Nat.le_refl _) h)
  obtain ⟨la, lc, sa, sc, rfl, hl, hsh, hll, hsl⟩ := hv
  have F1 := fun W h => placed_any _ B i false n W (HV.out W h) hii hnn
  clear hl hsh
  have FF := Lib.hid (one_new (w := w) #[.int .i64 B.W, .int .i64 B.H, .slice la B.Land.length lc, .slice sa B.Share.length sc] 25)
  rcases placE_cases B i false n with ⟨h0, hval, ⟨hc0, hc1, hc2⟩, hn0, hn5⟩ | h0 | h0
  · obtain ⟨m, rfl⟩ : ∃ m : Nat, i = m := ⟨i.toNat, by omega⟩
    obtain ⟨k, rfl⟩ : ∃ k : Nat, n = k := ⟨n.toNat, by omega⟩
    have hm : m < B.Share.length := by omega
    obtain ⟨p1, p2, p3, p4, p5, p6, p7⟩ := worst_pre (k := k) hval hm (by omega)
    have hE : worstE B m k = gE (bestU (landsL B (mvN B (oneS B m) k).Oil true) B.Share.length).2 := by unfold worstE worstL; rw [if_pos h0]; rfl
    have hI : worstI B m k = (bestU (landsL B (mvN B (oneS B m) k).Oil true) B.Share.length).1 := by unfold worstI worstL; rw [if_pos h0]; rfl
    have hll' := lands_len B (mvN B (oneS B m) k).Oil true
    have hnn' : ∀ j, j < (landsL B (mvN B (oneS B m) k).Oil true).length → 0 ≤ (landsL B (mvN B (oneS B m) k).Oil true).getD j 0 := fun j hj => by
      rw [hll'] at hj
      rw [lands_get B _ true hj]; split
      · exact (amt_range p3.2.2.1 j hj).1
      · omega
    rw [h0] at F1
    have H1 := Lib.hid F1
    have HVAL := Lib.hid hval
    have P1 := Lib.hid p1
    have P2 := Lib.hid p2
    have P3 := Lib.hid p3
    have P4 := Lib.hid p4
    have P7 := Lib.hid p7
    have HE := Lib.hid hE
    have HI := Lib.hid hI
    have HLL := Lib.hid hll'
    have HNN := Lib.hid hnn'
    clear F1 hval p1 p2 p3 p4 p7 hE hI hll' hnn'
    clear h0 hc0 hc1 hc2
    generalize hS : mvN B (oneS B m) k = S at *
    have HS := Lib.hid hS
    clear hS
    generalize hL : landsL B S.Oil true = L at *
    have HL := Lib.hid hL
    clear hL
    go_enter Try.func51, Try.ntmps51
    go_wp2_with fail
    generalize hW : (w.alloc _) = W at *
    clear hW
    obtain ⟨f0, f1, f2⟩ := FF.out
    clear FF
    obtain ⟨x0, hx0⟩ : ∃ x : Aft W, x.val = W := ⟨⟨W, Below.refl _ W⟩, rfl⟩
    have F0 : Hid (Below w.heap.size w W) := f0
    have FZ : Hid (W.heap.size = w.heap.size + 1) := f1
    have FZ0 := Lib.hid (show x0.val.heap.size = w.heap.size + 1 by rw [hx0]; exact f1)
    have G0 : Hid (W.heap[w.heap.size]? = some (.cells #[.int .i64 B.W, .int .i64 B.H, .slice la B.Land.length lc, .slice sa B.Share.length sc] 25 (0, 0))) := f2
    have d0_0 : ∀ x : Aft W, x.val.cell? ⟨w.heap.size, 0, none⟩ = some (.int .i64 B.W) := fun x => cell_of_heap (x.heapH f2) 0
    have d0_1 : ∀ x : Aft W, x.val.cell? ⟨w.heap.size, 1, none⟩ = some (.int .i64 B.H) := fun x => cell_of_heap (x.heapH f2) 1
    have d0_2 : ∀ x : Aft W, x.val.cell? ⟨w.heap.size, 2, none⟩ = some (.slice la B.Land.length lc) := fun x => cell_of_heap (x.heapH f2) 2
    have d0_3 : ∀ x : Aft W, x.val.cell? ⟨w.heap.size, 3, none⟩ = some (.slice sa B.Share.length sc) := fun x => cell_of_heap (x.heapH f2) 3
    have e0_0 : ∀ (x : Aft W) (o : Obj), (x.val.alloc o).cell? ⟨w.heap.size, 0, none⟩ = some (.int .i64 B.W) := fun x o => cell_of_heap (heap_alloc_old (x.heapH f2) o) 0
    have e0_1 : ∀ (x : Aft W) (o : Obj), (x.val.alloc o).cell? ⟨w.heap.size, 1, none⟩ = some (.int .i64 B.H) := fun x o => cell_of_heap (heap_alloc_old (x.heapH f2) o) 1
    have e0_2 : ∀ (x : Aft W) (o : Obj), (x.val.alloc o).cell? ⟨w.heap.size, 2, none⟩ = some (.slice la B.Land.length lc) := fun x o => cell_of_heap (heap_alloc_old (x.heapH f2) o) 2
    have e0_3 : ∀ (x : Aft W) (o : Obj), (x.val.alloc o).cell? ⟨w.heap.size, 3, none⟩ = some (.slice sa B.Share.length sc) := fun x o => cell_of_heap (heap_alloc_old (x.heapH f2) o) 3
    rw [← hx0]
    clear hx0 f0 f1 f2
    refine (H1.out _ (Aft.off F0.out x0)).mono ?_
    rintro e w1 ⟨rfl, hb⟩
    obtain ⟨x1, rfl, lk0'⟩ := x0.step (hb)
    have lk0 := Lib.hid lk0'
    clear hb lk0'
    go_wp2_with fail
    have hLn : L.length = B.Share.length := by have := HLL.out; have := P4.out; omega
    have HLn := Lib.hid hLn
    clear hLn
    go_region_held3 (fun w' => w'.cell? ⟨w.heap.size, 0, none⟩ = some (.int .i64 B.W) ∧ w'.cell? ⟨w.heap.size, 1, none⟩ = some (.int .i64 B.H) ∧ w'.cell? ⟨w.heap.size, 2, none⟩ = some (.slice la B.Land.length lc) ∧ w'.cell? ⟨w.heap.size, 3, none⟩ = some (.slice sa B.Share.length sc)) (first | (with_reducible exact ⟨d0_0 y3, d0_1 y3, d0_2 y3, d0_3 y3⟩) | (with_reducible exact ⟨d0_0 y2, d0_1 y2, d0_2 y2, d0_3 y2⟩) | (with_reducible exact ⟨d0_0 y1, d0_1 y1, d0_2 y1, d0_3 y1⟩) | go_keep) (first | (go_at_call 82; refine (one_any _ B m _ (HV.out _ (Aft.off F0.out x1).drew) HVAL.out hm).mono ?_; rintro e w5 ⟨rv, rfl, ⟨a5, c5, rfl, hi5, hn5', hf5⟩, hb5⟩; obtain ⟨y1, rfl, ly1⟩ := x1.stepd hb5; have I5 := Lib.hid hi5; clear hb5 hf5 hi5 ly1) | (go_at_call 61; refine (after_any _ _ B (oneS B m) k _ (HV.out _ (Aft.off F0.out y1)) ⟨a5, c5, rfl, I5.out, hn5'⟩ HVAL.out P1.out (by rw [P2.out]; omega)).mono ?_; rintro e w6 ⟨rv, rfl, hnew6, hb6⟩; rw [HS.out] at hnew6; obtain ⟨a6, c6, rfl, hi6, hn6, hf6⟩ := hnew6; obtain ⟨y2, rfl, ly2⟩ := y1.step hb6; have I6 := Lib.hid hi6; clear hb6 hi6 ly2 hf6) | (go_at_call 70; refine (chosen_any _ _ B S true _ (HV.out _ (Aft.off F0.out y2)) ⟨a6, c6, rfl, I6.out, hn6⟩ (by have := P4.out; have := P7.out; omega) (by have := P4.out; omega)).mono ?_; rintro e w7 ⟨rv, rfl, hnew7, hb7⟩; rw [HL.out] at hnew7; obtain ⟨a7, c7, rfl, hi7, hf7⟩ := hnew7; obtain ⟨y3, rfl, ly3⟩ := y2.step hb7; have I7 := Lib.hid hi7; clear hb7 hi7 ly3 hf7) | (go_at_call 81; refine (greatest_any a7 c7 L _ I7.out (by have := HLn.out; omega) (by have := HLn.out; omega) HNN.out).mono ?_; rintro e w8 ⟨rfl, rfl⟩; rw [HLn.out, ← HE.out, ← HI.out]))
    go_wp2
    go_ret2
    exact ⟨rfl, Aft.off F0.out y3⟩
  all_goals
    have hE : worstE B i n = placE B i false n := by unfold worstE; rw [if_neg (by rw [h0]; decide)]
    have hI : worstI B i n = 0 := by unfold worstI; rw [if_neg (by rw [h0]; decide)]
    rw [h0] at F1 hE
    have H1 := Lib.hid F1
    have HE := Lib.hid hE
    have HI := Lib.hid hI
    clear F1 hE hI
    clear h0
    go_enter Try.func51, Try.ntmps51
    go_wp2_with fail
    generalize hW : (w.alloc _) = W at *
    clear hW
    obtain ⟨f0, f1, f2⟩ := FF.out
    clear FF
    obtain ⟨x0, hx0⟩ : ∃ x : Aft W, x.val = W := ⟨⟨W, Below.refl _ W⟩, rfl⟩
    have F0 : Hid (Below w.heap.size w W) := f0
    have FZ : Hid (W.heap.size = w.heap.size + 1) := f1
    have FZ0 := Lib.hid (show x0.val.heap.size = w.heap.size + 1 by rw [hx0]; exact f1)
    have G0 : Hid (W.heap[w.heap.size]? = some (.cells #[.int .i64 B.W, .int .i64 B.H, .slice la B.Land.length lc, .slice sa B.Share.length sc] 25 (0, 0))) := f2
    have d0_0 : ∀ x : Aft W, x.val.cell? ⟨w.heap.size, 0, none⟩ = some (.int .i64 B.W) := fun x => cell_of_heap (x.heapH f2) 0
    have d0_1 : ∀ x : Aft W, x.val.cell? ⟨w.heap.size, 1, none⟩ = some (.int .i64 B.H) := fun x => cell_of_heap (x.heapH f2) 1
    have d0_2 : ∀ x : Aft W, x.val.cell? ⟨w.heap.size, 2, none⟩ = some (.slice la B.Land.length lc) := fun x => cell_of_heap (x.heapH f2) 2
    have d0_3 : ∀ x : Aft W, x.val.cell? ⟨w.heap.size, 3, none⟩ = some (.slice sa B.Share.length sc) := fun x => cell_of_heap (x.heapH f2) 3
    rw [← hx0]
    clear hx0 f0 f1 f2
    refine (H1.out _ (Aft.off F0.out x0)).mono ?_
    rintro e w1 ⟨rfl, hb⟩
    obtain ⟨x1, rfl, lk0'⟩ := x0.step (hb)
    have lk0 := Lib.hid lk0'
    clear hb lk0'
    go_wp2
    go_ret2
    exact ⟨ret_ii (by rw [HI.out]; rfl) HE.out.symm, Aft.off F0.out x1⟩
end Go.Proofs.Ytnafllhgjidbkaa

/- The reference's Worst. -/
namespace Go.Proofs.Ytnafllhgjidbkaa
open Go.RowKit Go.Shelf
set_option linter.unusedVariables false
set_option linter.unusedSimpArgs false
theorem bestU_nonneg {l : List Int} {k : Nat} (h : ∀ j, j < k → 0 ≤ l.getD j 0) : 0 ≤ (bestU l k).2 := (bestU_spec l k h).1
theorem bestU_up {l : List Int} {k : Nat} (h : (bestU l k).2 < l.getD k 0) : bestU l (k + 1) = (k, l.getD k 0) := by show (if _ then _ else _) = _; rw [if_pos h]
theorem bestU_same {l : List Int} {k : Nat} (h : ¬ (bestU l k).2 < l.getD k 0) : bestU l (k + 1) = bestU l k := by show (if _ then _ else _) = _; rw [if_neg h]
set_option maxRecDepth 100000 in
set_option maxHeartbeats 8000000 in
theorem rWorst_any (v : Value) (B : Bay) (i n : Int) (w : World) (hv : BayAt w v B) (hii : -9223372036854775808 ≤ i ∧ i ≤ 9223372036854775807) (hnn : -9223372036854775808 ≤ n ∧ n ≤ 9223372036854775807) :
    Calls Try.prog 52 #[v, .int .i64 i, .int .i64 n] w fun e w' => e = .returned (.tuple #[.int .i64 (worstI B i n), .int .i64 (worstE B i n)]) ∧ Below w.heap.size w w' := by
  have HV := Lib.hid (fun W (h : Below w.heap.size w W) => hv.below (Nat.le_refl _) h)
  obtain ⟨la, lc, sa, sc, rfl, hl, hsh, hll, hsl⟩ := hv
  have HLD := Lib.hid (fun W (h : Below w.heap.size w W) => hl.below (Nat.le_refl _) h)
  have F1 := fun W h => moved_any _ B i false n W (HV.out W h) hii hnn
  clear hl hsh
  have FF := Lib.hid (one_new (w := w) #[.int .i64 B.W, .int .i64 B.H, .slice la B.Land.length lc, .slice sa B.Share.length sc] 25)
  rcases placE_cases B i false n with ⟨h0, hval, ⟨hc0, hc1, hc2⟩, hn0, hn5⟩ | h0 | h0
  · obtain ⟨m, rfl⟩ : ∃ m : Nat, i = m := ⟨i.toNat, by omega⟩
    obtain ⟨k, rfl⟩ : ∃ k : Nat, n = k := ⟨n.toNat, by omega⟩
    have hm : m < B.Share.length := by omega
    obtain ⟨p1, p2, p3, p4, p5, p6, p7⟩ := worst_pre (k := k) hval hm (by omega)
    have hE : worstE B m k = gE (bestU (landsL B (mvN B (oneS B m) k).Oil true) B.Share.length).2 := by unfold worstE worstL; rw [if_pos h0]; rfl
    have hI : worstI B m k = (bestU (landsL B (mvN B (oneS B m) k).Oil true) B.Share.length).1 := by unfold worstI worstL; rw [if_pos h0]; rfl
    have hLg : ∀ j, j < B.Share.length → (landsL B (mvN B (oneS B m) k).Oil true).getD j 0 = if B.Land.getD j false = true then (mvN B (oneS B m) k).Oil.getD j 0 else 0 := fun j hj => lands_get B _ true (by omega)
    have hOb : ∀ j, j < B.Share.length → 0 ≤ (mvN B (oneS B m) k).Oil.getD j 0 := fun j hj => (amt_range p3.2.2.1 j (by omega)).1
    have hnn' : ∀ j, j < B.Share.length → 0 ≤ (landsL B (mvN B (oneS B m) k).Oil true).getD j 0 := fun j hj => by
      rw [hLg j hj]; split
      · exact hOb j hj
      · omega
    rw [h0] at F1
    have H1 := Lib.hid F1
    have HVAL := Lib.hid hval
    have P1 := Lib.hid p1
    have P2 := Lib.hid p2
    have P3 := Lib.hid p3
    have P4 := Lib.hid p4
    have P7 := Lib.hid p7
    have HE := Lib.hid hE
    have HI := Lib.hid hI
    have HLG := Lib.hid hLg
    have HOB := Lib.hid hOb
    have HNN := Lib.hid hnn'
    clear F1 hval p1 p2 p3 p4 p7 hE hI hLg hOb hnn'
    clear h0 hc0 hc1 hc2
    generalize hS : mvN B (oneS B m) k = S at *
    have HS := Lib.hid hS
    clear hS
    generalize landsL B S.Oil true = L at *
    go_enter Try.func52, Try.ntmps52
    go_wp2_with fail
    generalize hW : (w.alloc _) = W at *
    clear hW
    obtain ⟨f0, f1, f2⟩ := FF.out
    clear FF
    obtain ⟨x0, hx0⟩ : ∃ x : Aft W, x.val = W := ⟨⟨W, Below.refl _ W⟩, rfl⟩
    have F0 : Hid (Below w.heap.size w W) := f0
    have FZ : Hid (W.heap.size = w.heap.size + 1) := f1
    have FZ0 := Lib.hid (show x0.val.heap.size = w.heap.size + 1 by rw [hx0]; exact f1)
    have G0 : Hid (W.heap[w.heap.size]? = some (.cells #[.int .i64 B.W, .int .i64 B.H, .slice la B.Land.length lc, .slice sa B.Share.length sc] 25 (0, 0))) := f2
    have d0_0 : ∀ x : Aft W, x.val.cell? ⟨w.heap.size, 0, none⟩ = some (.int .i64 B.W) := fun x => cell_of_heap (x.heapH f2) 0
    have d0_1 : ∀ x : Aft W, x.val.cell? ⟨w.heap.size, 1, none⟩ = some (.int .i64 B.H) := fun x => cell_of_heap (x.heapH f2) 1
    have d0_2 : ∀ x : Aft W, x.val.cell? ⟨w.heap.size, 2, none⟩ = some (.slice la B.Land.length lc) := fun x => cell_of_heap (x.heapH f2) 2
    have d0_3 : ∀ x : Aft W, x.val.cell? ⟨w.heap.size, 3, none⟩ = some (.slice sa B.Share.length sc) := fun x => cell_of_heap (x.heapH f2) 3
    have e0_0 : ∀ (x : Aft W) (o : Obj), (x.val.alloc o).cell? ⟨w.heap.size, 0, none⟩ = some (.int .i64 B.W) := fun x o => cell_of_heap (heap_alloc_old (x.heapH f2) o) 0
    have e0_1 : ∀ (x : Aft W) (o : Obj), (x.val.alloc o).cell? ⟨w.heap.size, 1, none⟩ = some (.int .i64 B.H) := fun x o => cell_of_heap (heap_alloc_old (x.heapH f2) o) 1
    have e0_2 : ∀ (x : Aft W) (o : Obj), (x.val.alloc o).cell? ⟨w.heap.size, 2, none⟩ = some (.slice la B.Land.length lc) := fun x o => cell_of_heap (heap_alloc_old (x.heapH f2) o) 2
    have e0_3 : ∀ (x : Aft W) (o : Obj), (x.val.alloc o).cell? ⟨w.heap.size, 3, none⟩ = some (.slice sa B.Share.length sc) := fun x o => cell_of_heap (heap_alloc_old (x.heapH f2) o) 3
    rw [← hx0]
    clear hx0 f0 f1 f2
    refine (H1.out _ (Aft.off F0.out x0)).mono ?_
    rintro e w1 ⟨rfl, hb⟩
    obtain ⟨x1, rfl, lk0'⟩ := x0.step (hb)
    have lk0 := Lib.hid lk0'
    clear hb lk0'
    go_wp2_with fail
    rename_i KK hKK
    have key : Hid (∀ (b9 : Nat) (x : Aft W) (a6 : Option Addr) (c6 : Nat) (u0 u1 u2 u4 u5 u6 u7 u8 u10 u11 u12 u13 u14 u15 u16 u17 u18 u19 u20 u21 u22 u23 u24 u25 u26 u27 u28 u29 u30 u31 u32 u33 u34 u35 u36 u37 u38 u39 u40 u41 u42 u43 u44 u45 u46 u47 u48 u49 u50 u51 u52 u53 u54 u55 : Value), w.heap.size + 1 ≤ b9 → x.val.heap[b9]? = some (.cells #[.int .i64 S.K, .slice a6 S.Oil.length c6, .int .i64 S.Away] 28 (0, 0)) → IntsAt x.val a6 S.Oil → KK { tmps := List.toArray (u0 :: u1 :: u2 :: (.pointer (some ⟨w.heap.size, 0, none⟩)) :: u4 :: u5 :: u6 :: u7 :: u8 :: (.pointer (some ⟨b9, 0, none⟩)) :: u10 :: u11 :: u12 :: u13 :: u14 :: u15 :: u16 :: u17 :: u18 :: u19 :: u20 :: u21 :: u22 :: u23 :: u24 :: u25 :: u26 :: u27 :: u28 :: u29 :: u30 :: u31 :: u32 :: u33 :: u34 :: u35 :: u36 :: u37 :: u38 :: u39 :: u40 :: u41 :: u42 :: u43 :: u44 :: u45 :: u46 :: u47 :: u48 :: u49 :: u50 :: u51 :: u52 :: u53 :: u54 :: u55 :: []), defers := [] } x.val) := by
      intro b9 x a6 c6 u0 u1 u2 u4 u5 u6 u7 u8 u10 u11 u12 u13 u14 u15 u16 u17 u18 u19 u20 u21 u22 u23 u24 u25 u26 u27 u28 u29 u30 u31 u32 u33 u34 u35 u36 u37 u38 u39 u40 u41 u42 u43 u44 u45 u46 u47 u48 u49 u50 u51 u52 u53 u54 u55 hb9 h9 hi6
      apply hKK
      obtain ⟨V, hV⟩ : ∃ V, V = x.val := ⟨_, rfl⟩
      have FV : Hid (Below w.heap.size w V) := by rw [hV]; exact Aft.off F0.out x
      have g0 : V.heap[w.heap.size]? = some (.cells #[.int .i64 B.W, .int .i64 B.H, .slice la B.Land.length lc, .slice sa B.Share.length sc] 25 (0, 0)) := by rw [hV]; exact x.heapH G0.out
      have g9 : V.heap[b9]? = some (.cells #[.int .i64 S.K, .slice a6 S.Oil.length c6, .int .i64 S.Away] 28 (0, 0)) := by rw [hV]; exact h9
      have IS : Hid (∀ x : Aft V, IntsAt x.val a6 S.Oil) := fun y => hi6.below (Nat.le_refl _) (by rw [← hV]; exact y.bel)
      have b2 : ∀ x : Aft V, x.val.cell? ⟨w.heap.size, 2, none⟩ = some (.slice la B.Land.length lc) := fun x => cell_of_heap (x.heapH g0) 2
      have s0 : ∀ x : Aft V, x.val.cell? ⟨b9, 0, none⟩ = some (.int .i64 S.K) := fun x => cell_of_heap (x.heapH g9) 0
      have s1 : ∀ x : Aft V, x.val.cell? ⟨b9, 1, none⟩ = some (.slice a6 S.Oil.length c6) := fun x => cell_of_heap (x.heapH g9) 1
      have s2 : ∀ x : Aft V, x.val.cell? ⟨b9, 2, none⟩ = some (.int .i64 S.Away) := fun x => cell_of_heap (x.heapH g9) 2
      rw [← hV]
      obtain ⟨x0, hx0⟩ : ∃ y : Aft V, y.val = V := ⟨⟨V, Below.refl _ V⟩, rfl⟩
      rw [← hx0]
      clear hV hx0 F0 h9 hi6 g0 g9 hKK d0_0 d0_1 d0_2 d0_3 e0_0 e0_1 e0_2 e0_3 lk0 x1
      have F0 := FV
      clear FV
      go_wp2_with fail
      go_loopw [10, 11, 12] (fun a b i wr => ∃ (k : Nat) (x : Aft V), wr = x.val ∧ k ≤ B.Share.length ∧ i = .int .i64 k ∧ a = .int .i64 (bestU L k).1 ∧ b = .int .i64 (bestU L k).2) (fun _ _ i _ => B.Share.length - (intOf i).toNat)
      case atStart => exact ⟨0, x0, rfl, Nat.zero_le _, rfl, rfl, rfl⟩
      case round =>
        obtain ⟨q, x1, rfl, hq, rfl, rfl, rfl⟩ := hrel
        by_cases hlt : q < B.Share.length
        · have hqS : (q : Int) < S.Oil.length := by have := P4.out; omega
          have hqL : (q : Int) < B.Land.length := by have := P7.out; omega
          obtain ⟨bi, oi, rfl, -, -⟩ := (IS.out x1).get (k := q) (by omega)
          obtain ⟨bl, ol, rfl, -, -⟩ := (HLD.out _ (Aft.off F0.out x1)).get (k := q) (by omega)
          have ci : ∀ x : Aft V, x.val.cell? ⟨bi, oi + q, none⟩ = some (.int .i64 (S.Oil.getD q 0)) := fun x => by
            obtain ⟨b', o', e, _, hc⟩ := (IS.out x).get (k := q) (by omega); cases e; exact hc
          have cl : ∀ x : Aft V, x.val.cell? ⟨bl, ol + q, none⟩ = some (.bool (B.Land.getD q false)) := fun x => by
            obtain ⟨b', o', e, _, hc⟩ := (HLD.out _ (Aft.off F0.out x)).get (k := q) (by omega); cases e; exact hc
          have hg := HLG.out q hlt
          have hob := HOB.out q hlt
          have hmn := bestU_nonneg (l := L) (k := q) (fun j hj => HNN.out j (by omega))
          have hup := bestU_up (l := L) (k := q)
          have hsm := bestU_same (l := L) (k := q)
          have HUP := Lib.hid hup
          have HSM := Lib.hid hsm
          have HG := Lib.hid hg
          clear hup hsm hg
          cases hland : B.Land.getD q false
          · have hsame : Hid (bestU L (q + 1) = bestU L q) := HSM.out (by rw [HG.out, hland]; simp; omega)
            simp only [hland] at cl
            clear hland
            generalize bestU L q = bq at *
            go_wp2_with fail
            go_roundw
            case rel => exact ⟨q + 1, x1, rfl, by omega, by go_num, by rw [hsame.out], by rw [hsame.out]⟩
            case measure => simp [intOf]; omega
          · have hLq : Hid (L.getD q 0 = S.Oil.getD q 0) := by unfold Hid; rw [HG.out, hland]; simp
            simp only [hland] at cl
            clear hland
            by_cases hgt : (bestU L q).2 < S.Oil.getD q 0
            · have hnew : Hid (bestU L (q + 1) = (q, S.Oil.getD q 0)) := by have := HUP.out (by rw [hLq.out]; exact hgt); rw [hLq.out] at this; exact this
              generalize bestU L q = bq at *
              generalize S.Oil.getD q 0 = oq at *
              go_wp2_with fail
              refine wp_region_aftW x1 (by kernel_rfl) (by kernel_rfl) ?_
              repeat (go_big_quiet_step (fail))
              refine wpQuiet_nil ?_
              rintro _ ⟨x2, rfl⟩
              go_wp2_with fail
              go_roundw
              case rel => exact ⟨q + 1, x2, rfl, by omega, by go_num, by rw [hnew.out], by rw [hnew.out]⟩
              case measure => simp [intOf]; omega
            · have hsame : Hid (bestU L (q + 1) = bestU L q) := HSM.out (by rw [hLq.out]; exact hgt)
              generalize bestU L q = bq at *
              generalize S.Oil.getD q 0 = oq at *
              go_wp2_with fail
              go_roundw
              case rel => exact ⟨q + 1, x1, rfl, by omega, by go_num, by rw [hsame.out], by rw [hsame.out]⟩
              case measure => simp [intOf]; omega
        · have hqe : q = B.Share.length := by omega
          have hqS : ¬ ((q : Int) < S.Oil.length) := by have := P4.out; omega
          have HE' := HE.out
          have HI' := HI.out
          rw [← hqe] at HE' HI'
          have HE2 := Lib.hid HE'
          have HI2 := Lib.hid HI'
          clear HE' HI' hqe
          have HZ1 : Hid ((bestU L q).2 = 0 → (bestU L q).1 = 0) := fun h => by
            rcases (bestU_spec L q (fun j hj => HNN.out j (by omega))).2.2 with h' | h'
            · exact h'.2
            · omega
          generalize bestU L q = bq at *
          by_cases hz : bq.2 = 0
          · have hzb : (bq.2 == 0) = true := by simp [hz]
            have HZ2 := Lib.hid hz
            clear hz
            go_wp2
            go_ret2
            exact ⟨ret_ii (by rw [HI2.out, HZ1.out HZ2.out]; rfl) (by rw [HE2.out, HZ2.out]; rfl), Aft.off F0.out x1⟩
          · have hzb : (bq.2 == 0) = false := by simpa using hz
            go_wp2
            go_ret2
            exact ⟨ret_ii (by rw [HI2.out]) (by rw [HE2.out]; exact (if_neg hz).symm), Aft.off F0.out x1⟩
    clear hKK
    have hx1 := Lib.hid x1.bel
    have HN1 := Lib.hid (show w.heap.size ≠ x1.val.heap.size by have := x1.size_le; have := FZ.out; omega)
    go_region_held3 (fun w' => w'.cell? ⟨w.heap.size, 0, none⟩ = some (.int .i64 B.W) ∧ w'.cell? ⟨w.heap.size, 1, none⟩ = some (.int .i64 B.H) ∧ w'.cell? ⟨w.heap.size, 2, none⟩ = some (.slice la B.Land.length lc) ∧ w'.cell? ⟨w.heap.size, 3, none⟩ = some (.slice sa B.Share.length sc)) (first | (with_reducible exact ⟨d0_0 y2, d0_1 y2, d0_2 y2, d0_3 y2⟩) | (with_reducible exact ⟨d0_0 y1, d0_1 y1, d0_2 y1, d0_3 y1⟩) | (with_reducible exact ⟨e0_0 y1 _, e0_1 y1 _, e0_2 y1 _, e0_3 y1 _⟩) | (with_reducible exact ⟨e0_0 y2 _, e0_1 y2 _, e0_2 y2 _, e0_3 y2 _⟩) | (with_reducible exact ⟨(cell3 HN1.out).trans (d0_0 y2), (cell3 HN1.out).trans (d0_1 y2), (cell3 HN1.out).trans (d0_2 y2), (cell3 HN1.out).trans (d0_3 y2)⟩) | (have HN2 : w.heap.size ≠ y1.val.heap.size := (by have := y1.size_le; have := FZ.out; omega); exact ⟨(cell3 HN2).trans (d0_0 y2), (cell3 HN2).trans (d0_1 y2), (cell3 HN2).trans (d0_2 y2), (cell3 HN2).trans (d0_3 y2)⟩) | go_keep) (first | (go_at_call 58; refine (One_any _ B m _ (HV.out _ (by first | exact (Aft.off F0.out x1).drew | exact ((Aft.off F0.out x1).alloc (Aft.off F0.out x1).size _).drew)) HVAL.out (Nat.le_of_lt hm)).mono ?_; rintro e w5 ⟨rv, rfl, ⟨a5, c5, rfl, hi5, hn5', hf5⟩, hb5⟩; have hbW : Below W.heap.size W w5 := (by first | exact hx1.out.drew.trans (hb5.mono hx1.out.size) | exact ((hx1.out.alloc hx1.out.size _).drew).trans (hb5.mono (by have := hx1.out.size; simp; omega))); obtain ⟨y1, rfl⟩ : ∃ y : Aft W, y.val = w5 := ⟨⟨w5, hbW⟩, rfl⟩; have I5 := Lib.hid hi5; have HX2 : Hid (x1.val.heap.size ≤ y1.val.heap.size) := (by have := hb5.size; first | exact this | (simp at this; exact Nat.le_of_succ_le this)); have HF5 : Hid (∀ a, a5 = some a → x1.val.heap.size ≤ a.block ∧ a.block < y1.val.heap.size) := (fun a ha => ⟨by have := hf5 a ha; first | exact this | (simp at this; exact Nat.le_of_succ_le this), by obtain ⟨b', o', e, hl', _⟩ := hi5.get (k := 0) (by rw [oneS_len]; omega); rw [e] at ha; cases ha; exact hl'⟩); clear hbW hi5; first | (have k : y1.val.heap[x1.val.heap.size]? = some (.cells #[.int .i64 0, .slice none 0 0, .int .i64 0] 28 (0, 0)) := (hb5.block x1.val.heap.size (by simp)).trans (World.alloc_heap_new _ _); have KB1 := Lib.hid k; have HX2' : Hid (x1.val.heap.size + 1 ≤ y1.val.heap.size) := heap_lt k; have HF5' : Hid (∀ a, a5 = some a → x1.val.heap.size + 1 ≤ a.block) := (fun a ha => by have := hf5 a ha; simpa using this); clear hb5 k hf5) | clear hb5 hf5) | (go_at_call 63; refine (rafter_own _ B (oneS B m) a5 c5 k _ (HV.out _ (by first | exact (Aft.off F0.out y1) | exact ((Aft.off F0.out y1).alloc (Aft.off F0.out y1).size _))) (by first | exact I5.out | exact I5.out.below (Nat.le_refl _) ((Below.refl _ _).alloc (Nat.le_refl _) _)) hn5' HVAL.out P1.out (by rw [P2.out]; omega)).mono ?_; rintro e w6 ⟨a6, c6, rfl, hi6, hn6, hf6, hb6⟩; rw [HS.out] at hi6; rw [HS.out]; have HF6 : Hid (∀ a, a6 = some a → a5 = some a ∨ y1.val.heap.size ≤ a.block) := (fun a ha => (hf6 a ha).imp id (fun h => by first | exact h | (simp at h; exact Nat.le_of_succ_le h))); have hbW : Below W.heap.size W w6 := (by first | exact y1.bel.trans (hb6.mono y1.bel.size) | exact (y1.bel.alloc y1.bel.size _).trans (hb6.mono (by have := y1.bel.size; simp; omega))); obtain ⟨y2, rfl⟩ : ∃ y : Aft W, y.val = w6 := ⟨⟨w6, hbW⟩, rfl⟩; have I6 := Lib.hid hi6; clear hbW hi6; first | (have k : y2.val.heap[x1.val.heap.size]? = some (.cells #[.int .i64 0, .slice none 0 0, .int .i64 0] 28 (0, 0)) := (hb6.block _ (heap_lt KB1.out)).trans KB1.out; have k0 := cell_of_heap k 0; have k1 := cell_of_heap k 1; have k2 := cell_of_heap k 2; simp at k0 k1 k2; have kf : ∀ o, y2.val.frozen? ⟨x1.val.heap.size, o, none⟩ = false := fun o => free_of_heap k o; have klt := heap_lt k; have KB := Lib.hid k; clear hb6 k hf6) | (have k : y2.val.heap[y1.val.heap.size]? = some (.cells #[.int .i64 0, .slice none 0 0, .int .i64 0] 28 (0, 0)) := (hb6.block y1.val.heap.size (by simp)).trans (World.alloc_heap_new _ _); have k0 := cell_of_heap k 0; have k1 := cell_of_heap k 1; have k2 := cell_of_heap k 2; simp at k0 k1 k2; have kf : ∀ o, y2.val.frozen? ⟨y1.val.heap.size, o, none⟩ = false := fun o => free_of_heap k o; have klt := heap_lt k; have KB := Lib.hid k; have HF7 : Hid (∀ a, a6 = some a → a5 = some a ∨ y1.val.heap.size + 1 ≤ a.block) := (fun a ha => (hf6 a ha).imp id (fun h => by simpa using h)); clear hb6 k hf6) | clear hb6 hf6))
    · obtain ⟨z, hz⟩ : ∃ z : Aft W, z.val = y2.val.alloc (.cells #[.int .i64 S.K, .slice a6 S.Oil.length c6, .int .i64 S.Away] 28) := ⟨⟨_, y2.bel.alloc y2.bel.size _⟩, rfl⟩
      have h9 : z.val.heap[y2.val.heap.size]? = some (.cells #[.int .i64 S.K, .slice a6 S.Oil.length c6, .int .i64 S.Away] 28 (0, 0)) := by rw [hz]; exact World.alloc_heap_new _ _
      have hi : IntsAt z.val a6 S.Oil := by rw [hz]; exact I6.out.below (Nat.le_refl _) ((Below.refl _ _).alloc (Nat.le_refl _) _)
      rw [← hz]
      have hs1 := y2.size_le
      have hs3 := FZ.out
      show KK _ _
      exact key.out _ z a6 c6 _ _ _ _ _ _ _ _ _ _ _ _ _ _ _ _ _ _ _ _ _ _ _ _ _ _ _ _ _ _ _ _ _ _ _ _ _ _ _ _ _ _ _ _ _ _ _ _ _ _ _ _ _ _ (by omega) h9 hi
    · obtain ⟨z, hz⟩ : ∃ z : Aft W, z.val = ((y2.val.setCell ⟨y1.val.heap.size, 0, none⟩ (.int .i64 S.K)).setCell ⟨y1.val.heap.size, 1, none⟩ (.slice a6 S.Oil.length c6)).setCell ⟨y1.val.heap.size, 2, none⟩ (.int .i64 S.Away) :=
        ⟨⟨_, ((y2.bel.setCell (p := ⟨y1.val.heap.size, 0, none⟩) y1.size_le _).setCell (p := ⟨y1.val.heap.size, 1, none⟩) y1.size_le _).setCell (p := ⟨y1.val.heap.size, 2, none⟩) y1.size_le _⟩, rfl⟩
      have h9 : z.val.heap[y1.val.heap.size]? = some (.cells #[.int .i64 S.K, .slice a6 S.Oil.length c6, .int .i64 S.Away] 28 (0, 0)) := by rw [hz]; exact res3 KB.out _ _ _
      have hne : ∀ a, a6 = some a → a.block ≠ y1.val.heap.size := fun a ha => by
        rcases HF7.out a ha with h | h
        · have := HF5.out a h; omega
        · omega
      have hi : IntsAt z.val a6 S.Oil := by rw [hz]; exact IntsAt.setCell (IntsAt.setCell (IntsAt.setCell I6.out hne _) hne _) hne _
      rw [← hz]
      have hs1 := x1.size_le
      have hs2 := y1.size_le
      have hs3 := FZ.out
      show KK _ _
      exact key.out _ z a6 c6 _ _ _ _ _ _ _ _ _ _ _ _ _ _ _ _ _ _ _ _ _ _ _ _ _ _ _ _ _ _ _ _ _ _ _ _ _ _ _ _ _ _ _ _ _ _ _ _ _ _ _ _ _ _ (by omega) h9 hi
    · obtain ⟨z, hz⟩ : ∃ z : Aft W, z.val = ((y2.val.setCell ⟨x1.val.heap.size, 0, none⟩ (.int .i64 S.K)).setCell ⟨x1.val.heap.size, 1, none⟩ (.slice a6 S.Oil.length c6)).setCell ⟨x1.val.heap.size, 2, none⟩ (.int .i64 S.Away) :=
        ⟨⟨_, ((y2.bel.setCell (p := ⟨x1.val.heap.size, 0, none⟩) x1.size_le _).setCell (p := ⟨x1.val.heap.size, 1, none⟩) x1.size_le _).setCell (p := ⟨x1.val.heap.size, 2, none⟩) x1.size_le _⟩, rfl⟩
      have h9 : z.val.heap[x1.val.heap.size]? = some (.cells #[.int .i64 S.K, .slice a6 S.Oil.length c6, .int .i64 S.Away] 28 (0, 0)) := by rw [hz]; exact res3 KB.out _ _ _
      have hne : ∀ a, a6 = some a → a.block ≠ x1.val.heap.size := fun a ha => by
        rcases HF6.out a ha with h | h
        · have := HF5'.out a h; omega
        · have := HX2'.out; omega
      have hi : IntsAt z.val a6 S.Oil := by rw [hz]; exact IntsAt.setCell (IntsAt.setCell (IntsAt.setCell I6.out hne _) hne _) hne _
      rw [← hz]
      have hs1 := x1.size_le
      have hs2 := y1.size_le
      have hs3 := FZ.out
      show KK _ _
      exact key.out _ z a6 c6 _ _ _ _ _ _ _ _ _ _ _ _ _ _ _ _ _ _ _ _ _ _ _ _ _ _ _ _ _ _ _ _ _ _ _ _ _ _ _ _ _ _ _ _ _ _ _ _ _ _ _ _ _ _ (by omega) h9 hi
  all_goals
    have hE : worstE B i n = placE B i false n := by unfold worstE; rw [if_neg (by rw [h0]; decide)]
    have hI : worstI B i n = 0 := by unfold worstI; rw [if_neg (by rw [h0]; decide)]
    rw [h0] at F1 hE
    have H1 := Lib.hid F1
    have HE := Lib.hid hE
    have HI := Lib.hid hI
    clear F1 hE hI
    clear h0
    go_enter Try.func52, Try.ntmps52
    go_wp2_with fail
    generalize hW : (w.alloc _) = W at *
    clear hW
    obtain ⟨f0, f1, f2⟩ := FF.out
    clear FF
    obtain ⟨x0, hx0⟩ : ∃ x : Aft W, x.val = W := ⟨⟨W, Below.refl _ W⟩, rfl⟩
    have F0 : Hid (Below w.heap.size w W) := f0
    have FZ : Hid (W.heap.size = w.heap.size + 1) := f1
    have FZ0 := Lib.hid (show x0.val.heap.size = w.heap.size + 1 by rw [hx0]; exact f1)
    have G0 : Hid (W.heap[w.heap.size]? = some (.cells #[.int .i64 B.W, .int .i64 B.H, .slice la B.Land.length lc, .slice sa B.Share.length sc] 25 (0, 0))) := f2
    have d0_0 : ∀ x : Aft W, x.val.cell? ⟨w.heap.size, 0, none⟩ = some (.int .i64 B.W) := fun x => cell_of_heap (x.heapH f2) 0
    have d0_1 : ∀ x : Aft W, x.val.cell? ⟨w.heap.size, 1, none⟩ = some (.int .i64 B.H) := fun x => cell_of_heap (x.heapH f2) 1
    have d0_2 : ∀ x : Aft W, x.val.cell? ⟨w.heap.size, 2, none⟩ = some (.slice la B.Land.length lc) := fun x => cell_of_heap (x.heapH f2) 2
    have d0_3 : ∀ x : Aft W, x.val.cell? ⟨w.heap.size, 3, none⟩ = some (.slice sa B.Share.length sc) := fun x => cell_of_heap (x.heapH f2) 3
    rw [← hx0]
    clear hx0 f0 f1 f2
    refine (H1.out _ (Aft.off F0.out x0)).mono ?_
    rintro e w1 ⟨rfl, hb⟩
    obtain ⟨x1, rfl, lk0'⟩ := x0.step (hb)
    have lk0 := Lib.hid lk0'
    clear hb lk0'
    go_wp2
    go_ret2
    exact ⟨ret_ii (by rw [HI.out]; rfl) HE.out.symm, Aft.off F0.out x1⟩
end Go.Proofs.Ytnafllhgjidbkaa

