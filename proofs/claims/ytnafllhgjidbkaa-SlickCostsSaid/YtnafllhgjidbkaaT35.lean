/- The walk of before. -/
import Derived.Test.YtnafllhgjidbkaaT34
namespace Go.Proofs.Ytnafllhgjidbkaa
open Go.RowKit Go.Shelf
set_option linter.unusedVariables false
set_option linter.unusedSimpArgs false
attribute [local go_sem] Oper.semAt_some
/-- What the blocks hold: the prices now. -/
def BefW (w : World) (bn bl N : Nat) (bv : Array Value) (now : List Int) (wr : World) : Prop :=
  ∃ gn cn rest, Below w.heap.size w wr ∧ wr.heap[w.heap.size]? = some (.cells bv 25 (0, 0)) ∧ wr.heap[bn]? = some (.cells #[.slice (some ⟨gn, 0, none⟩) (N + 1) cn] 26 (0, 0)) ∧ wr.heap[bl]? = some (.cells #[.int .i64 N] 3 (0, 0)) ∧
  wr.heap[gn]? = some (.cells (now.map (Value.int .i64) ++ rest).toArray 3 (0, 0)) ∧ w.heap.size ≤ gn
def BefO (w : World) (bn bl N n : Nat) (bv : Array Value) (B : Bay) (l : List Int) (a : Act) (wr : World) : Prop :=
  ∃ (k : Nat) (kk : Int) (ds : List Deferred) (u0 u1 u2 u4 u5 u6 u9 u10 u11 u12 u13 u14 u15 u16 u17 u20 u21 u22 u23 u24 u25 u26 u27 u28 u29 u30 u31 u32 u33 u34 u35 u36 u37 u38 u39 u40 u41 u42 u43 u44 u45 u46 u47 u48 u49 u50 u51 u52 u53 u54 u55 u56 u57 u58 u59 u60 u61 : Value), kk = k ∧ k ≤ n ∧ a = { tmps := List.toArray (u0 :: u1 :: u2 :: (.pointer (some ⟨w.heap.size, 0, none⟩)) :: u4 :: u5 :: u6 :: (.pointer (some ⟨bn, 0, none⟩)) :: (.pointer (some ⟨bl, 0, none⟩)) :: u9 :: u10 :: u11 :: u12 :: u13 :: u14 :: u15 :: u16 :: u17 :: (.int .i64 n) :: (.int .i64 kk) :: u20 :: u21 :: u22 :: u23 :: u24 :: u25 :: u26 :: u27 :: u28 :: u29 :: u30 :: u31 :: u32 :: u33 :: u34 :: u35 :: u36 :: u37 :: u38 :: u39 :: u40 :: u41 :: u42 :: u43 :: u44 :: u45 :: u46 :: u47 :: u48 :: u49 :: u50 :: u51 :: u52 :: u53 :: u54 :: u55 :: u56 :: u57 :: u58 :: u59 :: u60 :: u61 :: []), defers := ds } ∧ BefW w bn bl N bv (bN B l k) wr ∧ Marks w.heap.size wr ds
def BefI (w : World) (bn bl bx gx N n : Nat) (kk : Int) (gn cn : Nat) (rest : List Value) (bv : Array Value) (B : Bay) (now : List Int) (a : Act) (wr : World) : Prop :=
  ∃ (j : Nat) (jj : Int) (ds : List Deferred) (u0 u1 u2 u4 u5 u6 u10 u11 u12 u13 u14 u15 u16 u17 u20 u21 u22 u23 u24 u25 u26 u27 u28 u29 u30 u31 u34 u35 u36 u37 u38 u39 u40 u41 u42 u43 u44 u45 u46 u47 u48 u49 u50 u51 u52 u53 u54 u55 u56 u57 u58 u59 u60 u61 : Value), jj = j ∧ j ≤ N ∧ a = { tmps := List.toArray (u0 :: u1 :: u2 :: (.pointer (some ⟨w.heap.size, 0, none⟩)) :: u4 :: u5 :: u6 :: (.pointer (some ⟨bn, 0, none⟩)) :: (.pointer (some ⟨bl, 0, none⟩)) :: (.pointer (some ⟨bx, 0, none⟩)) :: u10 :: u11 :: u12 :: u13 :: u14 :: u15 :: u16 :: u17 :: (.int .i64 n) :: (.int .i64 kk) :: u20 :: u21 :: u22 :: u23 :: u24 :: u25 :: u26 :: u27 :: u28 :: u29 :: u30 :: u31 :: (.int .i64 N) :: (.int .i64 jj) :: u34 :: u35 :: u36 :: u37 :: u38 :: u39 :: u40 :: u41 :: u42 :: u43 :: u44 :: u45 :: u46 :: u47 :: u48 :: u49 :: u50 :: u51 :: u52 :: u53 :: u54 :: u55 :: u56 :: u57 :: u58 :: u59 :: u60 :: u61 :: []), defers := ds } ∧
    (Below w.heap.size w wr ∧ wr.heap[w.heap.size]? = some (.cells bv 25 (0, 0)) ∧ wr.heap[bn]? = some (.cells #[.slice (some ⟨gn, 0, none⟩) (N + 1) cn] 26 (0, 0)) ∧ wr.heap[bl]? = some (.cells #[.int .i64 N] 3 (0, 0)) ∧
      wr.heap[gn]? = some (.cells (now.map (Value.int .i64) ++ rest).toArray 3 (0, 0)) ∧ wr.heap[bx]? = some (.cells #[.slice (some ⟨gx, 0, none⟩) (N + 1) (N + 1)] 26 (0, 0)) ∧ wr.heap[gx]? = some (.cells ((bUp B now j).map (Value.int .i64)).toArray 3 (0, 0))) ∧ Marks w.heap.size wr ds

set_option maxRecDepth 100000 in
set_option maxHeartbeats 10000000 in
theorem before_any (v : Value) (B : Bay) (po : Option Addr) (pc : Nat) (l : List Int) (N n : Nat) (w : World) (hv : BayAt w v B) (hp : IntsAt w po l) (hval : validP B) (hlen : l.length = N + 1) (hN : N = B.Share.length) (hn : n ≤ 5) (hb : ∀ j, 0 ≤ l.getD j 0 ∧ l.getD j 0 ≤ 1000) :
    Calls Try.prog 79 #[v, .slice po (N + 1) pc, .int .i64 n] w fun e w' => ∃ ao c, e = .returned (.slice ao (N + 1) c) ∧ IntsAt w' ao (bN B l n) ∧ (∀ a, ao = some a → w.heap.size ≤ a.block) ∧ Below w.heap.size w w' := by
  have HV0 := Lib.hid hv
  have HV := Lib.hid (fun W (h : Below w.heap.size w W) => hv.below (Nat.le_refl _) h)
  have HP := Lib.hid (fun W (h : Below w.heap.size w W) => hp.below (Nat.le_refl _) h)
  have h36 : 1 ≤ N ∧ N ≤ 36 := by have := mul36 hval.1.1 hval.1.2 hval.2.1.1 hval.2.1.2; have := hval.2.2.2.1; omega
  obtain ⟨la, lc, sa, sc, rfl, hl, hsh, hll, hsl⟩ := hv
  have HBD := Lib.hid (bN_bd (l := l) hval (by omega) hb)
  have HLN := Lib.hid (fun k => (bN_len B l k).trans hlen)
  have HVAL := Lib.hid hval
  have HLEN := Lib.hid hlen
  have HNS := Lib.hid hN
  clear hval hlen hN
  clear hl hsh hp hb
  have FF := Lib.hid (one_new (w := w) #[.int .i64 B.W, .int .i64 B.H, .slice la B.Land.length lc, .slice sa B.Share.length sc] 25)
  refine calls_of_wp_marks Try.func79 rfl ?_
  simp only [Try.ntmps79, List.size_toArray, List.length_cons, List.length_nil, Nat.reduceAdd, Nat.reduceSub, Array.replicate_succ, Array.replicate_zero, List.push_toArray, List.append_toArray, List.nil_append, List.cons_append]
  go_wp2_with fail
  generalize hW : (w.alloc _) = W at *
  clear hW
  obtain ⟨f0, f1, f2⟩ := FF.out
  clear FF
  obtain ⟨x0, hx0⟩ : ∃ x : Aft W, x.val = W := ⟨⟨W, Below.refl _ W⟩, rfl⟩
  have F0 : Hid (Below w.heap.size w W) := f0
  have FZ : Hid (W.heap.size = w.heap.size + 1) := f1
  have FZ0 := Lib.hid (show x0.val.heap.size = w.heap.size + 1 by rw [hx0]; exact f1)
  have G0 : Hid (W.heap[w.heap.size]? = some (.cells #[.int .i64 B.W, .int .i64 B.H, .slice la B.Land.length lc, .slice sa B.Share.length sc] 25 (0, 0))) := f2
  have d0_0 : ∀ x : Aft W, x.val.cell? ⟨w.heap.size, 0, none⟩ = some (.int .i64 B.W) := fun x => cell_of_heap (x.heapH f2) 0
  have d0_1 : ∀ x : Aft W, x.val.cell? ⟨w.heap.size, 1, none⟩ = some (.int .i64 B.H) := fun x => cell_of_heap (x.heapH f2) 1
  have d0_2 : ∀ x : Aft W, x.val.cell? ⟨w.heap.size, 2, none⟩ = some (.slice la B.Land.length lc) := fun x => cell_of_heap (x.heapH f2) 2
  have d0_3 : ∀ x : Aft W, x.val.cell? ⟨w.heap.size, 3, none⟩ = some (.slice sa B.Share.length sc) := fun x => cell_of_heap (x.heapH f2) 3
  rw [← hx0]
  clear hx0 f0 f1 f2
  have hcl := clone_any po pc l x0.val (HP.out _ (Aft.off F0.out x0)) (by have := HLEN.out; omega)
  rw [HLEN.out] at hcl
  refine hcl.mono ?_
  rintro e w1 ⟨rv, rfl, hown, hb⟩
  obtain ⟨x1, rfl, lk0'⟩ := x0.step hb
  obtain ⟨g, c1, rest1, rfl, hg, hG⟩ := own_open (l := l) (by rw [HLEN.out]; exact hown) (by have := HLEN.out; omega)
  rw [HLEN.out]
  have lk0 := Lib.hid lk0'
  have HG1 := Lib.hid hG
  clear hown hb lk0' hcl hG
  go_wp2_with fail
  obtain ⟨q0, q1, q2, q3⟩ := two_new (w := x1.val) #[.slice (some ⟨g, 0, none⟩) (N + 1) c1] #[.int .i64 N] 26 3
  have hW0 : Hid (BefW w x1.val.heap.size (x1.val.heap.size + 1) N #[.int .i64 B.W, .int .i64 B.H, .slice la B.Land.length lc, .slice sa B.Share.length sc] l ((x1.val.alloc (.cells #[.slice (some ⟨g, 0, none⟩) (N + 1) c1] 26)).alloc (.cells #[.int .i64 N] 3))) := by
    refine ⟨g, c1, rest1, (Aft.off F0.out x1).trans (q0.mono (Aft.off F0.out x1).size), ?_, q2, q3, ?_, ?_⟩
    · exact heap_alloc_old (heap_alloc_old (x1.heapH G0.out) _) _
    · exact heap_alloc_old (heap_alloc_old HG1.out _) _
    · have := FZ0.out; omega
  have hbn : w.heap.size + 1 ≤ x1.val.heap.size := by have := x1.size_le; have := FZ.out; omega
  clear q0 q1 q2 q3
  generalize (x1.val.alloc (.cells #[.slice (some ⟨g, 0, none⟩) (N + 1) c1] 26)).alloc (.cells #[.int .i64 N] 3) = W2 at *
  obtain ⟨bn, hbne⟩ : ∃ bn, bn = x1.val.heap.size := ⟨_, rfl⟩
  rw [← hbne] at hW0 hbn ⊢
  obtain ⟨bl, hble⟩ : ∃ bl, bl = bn + 1 := ⟨_, rfl⟩
  rw [← hble] at hW0 ⊢
  have hbl : w.heap.size + 1 ≤ bl ∧ bl ≠ bn := by omega
  clear hbne hble hg HG1 lk0 d0_0 d0_1 d0_2 d0_3 G0 FZ FZ0
  refine wp_loop (BefO w bn bl N n #[.int .i64 B.W, .int .i64 B.H, .slice la B.Land.length lc, .slice sa B.Share.length sc] B l) (fun a _ => n - (intOf (a.tmps.getD 19 undef)).toNat) ⟨0, _, [], _, _, _, _, _, _, _, _, _, _, _, _, _, _, _, _, _, _, _, _, _, _, _, _, _, _, _, _, _, _, _, _, _, _, _, _, _, _, _, _, _, _, _, _, _, _, _, _, _, _, _, _, _, _, _, _, _, rfl, Nat.zero_le _, rfl, hW0.out, trivial⟩ ?_
  clear hW0
  rintro _ wr ⟨k, _, ds, u0, u1, u2, u4, u5, u6, u9, u10, u11, u12, u13, u14, u15, u16, u17, u20, u21, u22, u23, u24, u25, u26, u27, u28, u29, u30, u31, u32, u33, u34, u35, u36, u37, u38, u39, u40, u41, u42, u43, u44, u45, u46, u47, u48, u49, u50, u51, u52, u53, u54, u55, u56, u57, u58, u59, u60, u61, rfl, hk, rfl, ⟨gn, cn, rest, hb, g0, gb, gl, gg, hgw⟩, hm⟩
  by_cases hlt : k < n
  · have hnow := HLN.out k
    obtain ⟨M, hbd, hM0, hM1⟩ : ∃ M : Int, (∀ j, 0 ≤ (bN B l k).getD j 0 ∧ (bN B l k).getD j 0 ≤ M) ∧ 0 ≤ M ∧ M ≤ 3276800000000 := ⟨_, HBD.out k, by have := pow80 (n := k) (by omega); omega, by have := pow80 (n := k) (by omega); omega⟩
    have HST : Hid (bN B l (k + 1) = bOne B (bN B l k)) := rfl
    generalize bN B l k = now at *
    have hlast := hbd N
    have c0 := cell_of_heap gb 0
    have c1 := cell_of_heap gl 0
    simp at c0 c1
    have lb := heap_lt gb
    have ll := heap_lt gl
    have l0 := heap_lt g0
    have hmk : ∀ W : World, (Instr.makeSlice 26 (.int .i64 ((N : Int) + 1)) (.int .i64 ((N : Int) + 1))).run Try.prog W = .ok (.slice (some ⟨W.heap.size, 0, none⟩) (N + 1) (N + 1)) (W.alloc (.cells (zeros (N + 1)) 3)) := fun W => make26 (N + 1) (by omega) W
    go_wp2_with fail
    clear hmk c0 c1
    obtain ⟨q0, q1, q2, q3⟩ := two_new (w := wr) (zeros (N + 1)) #[.slice (some ⟨wr.heap.size, 0, none⟩) (N + 1) (N + 1)] 3 26
    generalize (wr.alloc (.cells (zeros (N + 1)) 3)).alloc (.cells #[.slice (some ⟨wr.heap.size, 0, none⟩) (N + 1) (N + 1)] 26) = W3 at *
    have r0 : Below wr.heap.size wr W3.drew := q0.drew
    have r1 : W3.drew.heap.size = wr.heap.size + 2 := q1
    have r2 : W3.drew.heap[wr.heap.size]? = _ := q2
    have r3 : W3.drew.heap[wr.heap.size + 1]? = _ := q3
    refine wp_region_stillD 8 (by kernel_rfl) (by kernel_rfl) ?_
    clear q0 q1 q2 q3
    generalize W3.drew = W4 at *
    have s0 := (r0.block _ l0).trans g0
    have sb := (r0.block _ lb).trans gb
    have sl := (r0.block _ ll).trans gl
    have sg := (r0.block _ (heap_lt gg)).trans gg
    have lg := heap_lt gg
    have c0 := cell_of_heap sb 0
    have c1 := cell_of_heap sl 0
    have c2 := cell_of_heap r3 0
    simp at c0 c1 c2
    have c3 := row_get sg (k := N) (by omega)
    have c4 : W4.cell? ⟨wr.heap.size, N, none⟩ = some (.int .i64 0) := by rw [cell_of_heap r2 N]; simp [zeros]
    have c5 := free_of_heap r2 N
    have hbu : Hid (bUp B now 0 = (List.replicate (N + 1) 0).set N (16 * now.getD N 0)) := by unfold Hid bUp; rw [hnow]; rfl
    have HNOW := Lib.hid hnow
    have HBDN := Lib.hid hbd
    clear hnow hbd
    generalize hpn : now.getD N 0 = pn at *
    have HPN := Lib.hid hpn
    have hNN : (N : Int) < (N : Int) + 1 := by omega
    have hw1 : Hid (IntKind.i64.wrap (16 * pn) = 16 * pn) := IntWalk.i64_in _ (by omega)
    have R0 := Lib.hid r0
    have HB := Lib.hid hb
    have HM := Lib.hid hm
    have R2 := Lib.hid r2
    have R3 := Lib.hid r3
    have S0 := Lib.hid s0
    have SB := Lib.hid sb
    have SL := Lib.hid sl
    have SG := Lib.hid sg
    have hgx : w.heap.size ≤ wr.heap.size := hb.size
    have R1 := Lib.hid r1
    clear hpn r0 r1 r2 r3 s0 sb sl sg hb hm g0 gb gl gg
    simp only [List.take_succ_cons, List.take_zero, List.drop_succ_cons, List.drop_zero]
    repeat still_step
    refine wpStill_nil ?_
    rw [hw1.out]
    go_wp2_with fail
    have hII : Hid (Below w.heap.size w (W4.setCell ⟨wr.heap.size, N, none⟩ (.int .i64 (16 * pn))) ∧ (W4.setCell ⟨wr.heap.size, N, none⟩ (.int .i64 (16 * pn))).heap[w.heap.size]? = some (.cells #[.int .i64 B.W, .int .i64 B.H, .slice la B.Land.length lc, .slice sa B.Share.length sc] 25 (0, 0)) ∧ (W4.setCell ⟨wr.heap.size, N, none⟩ (.int .i64 (16 * pn))).heap[bn]? = some (.cells #[.slice (some ⟨gn, 0, none⟩) (N + 1) cn] 26 (0, 0)) ∧
        (W4.setCell ⟨wr.heap.size, N, none⟩ (.int .i64 (16 * pn))).heap[bl]? = some (.cells #[.int .i64 N] 3 (0, 0)) ∧ (W4.setCell ⟨wr.heap.size, N, none⟩ (.int .i64 (16 * pn))).heap[gn]? = some (.cells (now.map (Value.int .i64) ++ rest).toArray 3 (0, 0)) ∧
        (W4.setCell ⟨wr.heap.size, N, none⟩ (.int .i64 (16 * pn))).heap[wr.heap.size + 1]? = some (.cells #[.slice (some ⟨wr.heap.size, 0, none⟩) (N + 1) (N + 1)] 26 (0, 0)) ∧ (W4.setCell ⟨wr.heap.size, N, none⟩ (.int .i64 (16 * pn))).heap[wr.heap.size]? = some (.cells ((bUp B now 0).map (Value.int .i64)).toArray 3 (0, 0))) := by
      refine ⟨(HB.out.trans (R0.out.mono hgx)).setCell hgx _, (heap_setCell_other (by show w.heap.size ≠ wr.heap.size; omega) _).trans S0.out, (heap_setCell_other (by show bn ≠ wr.heap.size; omega) _).trans SB.out, (heap_setCell_other (by show bl ≠ wr.heap.size; omega) _).trans SL.out,
        (heap_setCell_other (by show gn ≠ wr.heap.size; omega) _).trans SG.out, (heap_setCell_other (by show wr.heap.size + 1 ≠ wr.heap.size; omega) _).trans R3.out, (heap_setCell_same R2.out _).trans ?_⟩
      rw [hbu.out]
      exact congrArg (fun a => some (Obj.cells a 3 (0, 0))) (by apply Array.toList_inj.1; simp [zeros, List.map_set])
    have HM4 : Hid (Marks w.heap.size (W4.setCell ⟨wr.heap.size, N, none⟩ (.int .i64 (16 * pn))) ds) := HM.out.keep (fun D hD _ => by
      have hlt := heap_lt hD
      rw [heap_setCell_other (by show D ≠ wr.heap.size; omega)]
      exact (R0.out.block D hlt).trans hD)
    obtain ⟨bx, hbxe⟩ : ∃ bx, bx = wr.heap.size + 1 := ⟨_, rfl⟩
    obtain ⟨gx, hgxe⟩ : ∃ gx, gx = wr.heap.size := ⟨_, rfl⟩
    rw [← hbxe] at hII ⊢
    rw [← hgxe] at hII HM4 ⊢
    have hdis : w.heap.size < gx ∧ gx < bx ∧ bn < gx ∧ bl < gx ∧ gn < gx := by omega
    have hWs5 : Hid (bx < (W4.setCell ⟨gx, N, none⟩ (.int .i64 (16 * pn))).heap.size) := heap_lt hII.out.2.2.2.2.2.1
    clear hbxe c0 c1 c2 c3 c4 c5 R0 HB HM R2 R3 S0 SB SL SG R1 lb ll l0 lg hw1 hbu hgxe hgx
    generalize W4.setCell ⟨gx, N, none⟩ (.int .i64 (16 * pn)) = W5 at *
    refine wp_loop (BefI w bn bl bx gx N n k gn cn rest #[.int .i64 B.W, .int .i64 B.H, .slice la B.Land.length lc, .slice sa B.Share.length sc] B now) (fun a _ => N - (intOf (a.tmps.getD 33 undef)).toNat) ⟨0, _, ds, _, _, _, _, _, _, _, _, _, _, _, _, _, _, _, _, _, _, _, _, _, _, _, _, _, _, _, _, _, _, _, _, _, _, _, _, _, _, _, _, _, _, _, _, _, _, _, _, _, _, _, _, _, _, rfl, Nat.zero_le _, rfl, hII.out, HM4.out⟩ ?_
    clear hII HM4 hWs5
    rintro _ wi ⟨j, _, es, u0, u1, u2, u4, u5, u6, u10, u11, u12, u13, u14, u15, u16, u17, u20, u21, u22, u23, u24, u25, u26, u27, u28, u29, u30, u31, u34, u35, u36, u37, u38, u39, u40, u41, u42, u43, u44, u45, u46, u47, u48, u49, u50, u51, u52, u53, u54, u55, u56, u57, u58, u59, u60, u61, rfl, hj, rfl, ⟨hb, g0, gb, gl, gg, gbx, ggx⟩, hm⟩
    by_cases hlj : j < N
    · have hks : j < B.Share.length := by have := HNS.out; omega
      have d0 := cell_of_heap g0 0
      have d1 := cell_of_heap g0 1
      have d2 := cell_of_heap g0 2
      have d3 := cell_of_heap g0 3
      simp at d0 d1 d2 d3
      have hwi : w.heap.size < wi.heap.size := heap_lt g0
      have lbx := heap_lt gbx
      have lgx := heap_lt ggx
      have HG0 := Lib.hid g0
      have HGB := Lib.hid gb
      have HGL := Lib.hid gl
      have HGG := Lib.hid gg
      have HGBX := Lib.hid gbx
      have HGGX := Lib.hid ggx
      have HM := Lib.hid hm
      have HB := Lib.hid hb
      clear g0 gb gl gg gbx ggx hm hb
      go_wp2_with (first | (go_at_call 90; refine (flows_any _ _ _ _ _ _ _ _ _ _).mono ?_; rintro e w1 ⟨rfl, rfl⟩))
      clear d0 d1 d2 d3
      obtain ⟨e3, s1, e0, e1, e2⟩ := three_new (w := wi) #[.int .i64 j] #[.int .i64 B.W, .int .i64 B.H, .slice la B.Land.length lc, .slice sa B.Share.length sc] #[.int .i64 j] 3 25 3
      generalize (((wi.alloc _).alloc _).alloc _) = W1 at *
      have hwb : Below w.heap.size w wi := HB.out
      refine wp_range (gf := 98) (lb := #[.pointer (some ⟨wi.heap.size + 1, 0, none⟩), .pointer (some ⟨wi.heap.size + 1 + 1, 0, none⟩)]) rfl (enters_of Try.func98 (by kernel_rfl) rfl)
        (flows_stops w.heap.size (wi.heap.size + 1) (wi.heap.size + 1 + 1) w B _ j W1 ⟨by omega, _, _, _, _, rfl, (cell_of_heap e1 0), (cell_of_heap e1 1), (cell_of_heap e1 2), (cell_of_heap e1 3)⟩ (by omega) (cell_of_heap e2 0) HV0.out (hwb.trans (e3.mono hwb.size)) rfl HVAL.out hks)
        (fun h k => KeepS.trans h k) (fun W l o hl => KeepS.putObj W l o (by have := hwb.size; rintro (h | rfl | rfl) <;> omega)) (fun _ => rfl)
        (fun pre W => Upto W1.heap.size (fun b => b = gx) W1 W ∧ W.heap[gx]? = some (.cells (((pre.map (·.1)).foldl (bstep now j) (bUp B now j)).map (Value.int .i64)).toArray 3 (0, 0)))
        (fun _ _ _ => False)
        (OwnFrom.and (own_upto (Nat.le_refl _)) (own_cells gx _ _ _))
        (fun _ _ _ _ _ hs _ _ => hs)
        ⟨Upto.refl _ _ _, (e3.block _ lgx).trans HGGX.out⟩
        (fun y a' W => ∃ (fb : Nat) (y0 y1 y2 y3 y4 y5 y6 y12 y13 y14 y15 y16 y17 y18 y19 y20 y21 y22 y23 y24 y25 y26 y27 y28 y29 y30 y31 y32 y33 y34 y35 y36 y37 y38 y39 y40 y41 y42 y43 y44 y45 y46 y47 y48 y49 y50 y51 y52 y53 y54 y55 y56 y57 y58 y59 y60 y61 : Value), W1.heap.size ≤ fb ∧ W.heap[fb]? = some (.cells #[.int .i64 y.1.1, .int .i64 y.1.2] 102 (0, 0)) ∧ a' = { tmps := List.toArray (y0 :: y1 :: y2 :: y3 :: y4 :: y5 :: y6 :: (.pointer (some ⟨bn, 0, none⟩)) :: (.pointer (some ⟨bl, 0, none⟩)) :: (.pointer (some ⟨bx, 0, none⟩)) :: (.pointer (some ⟨wi.heap.size, 0, none⟩)) :: (.pointer (some ⟨fb, 0, none⟩)) :: y12 :: y13 :: y14 :: y15 :: y16 :: y17 :: y18 :: y19 :: y20 :: y21 :: y22 :: y23 :: y24 :: y25 :: y26 :: y27 :: y28 :: y29 :: y30 :: y31 :: y32 :: y33 :: y34 :: y35 :: y36 :: y37 :: y38 :: y39 :: y40 :: y41 :: y42 :: y43 :: y44 :: y45 :: y46 :: y47 :: y48 :: y49 :: y50 :: y51 :: y52 :: y53 :: y54 :: y55 :: y56 :: y57 :: y58 :: y59 :: y60 :: y61 :: []), defers := [] })
        (fun y a' => ?hAx) ?assign ?body ?done ?stop
      case hAx =>
        rintro _ W W' row ⟨fb, y0, y1, y2, y3, y4, y5, y6, y12, y13, y14, y15, y16, y17, y18, y19, y20, y21, y22, y23, y24, y25, y26, y27, y28, y29, y30, y31, y32, y33, y34, y35, y36, y37, y38, y39, y40, y41, y42, y43, y44, y45, y46, y47, y48, y49, y50, y51, y52, y53, y54, y55, y56, y57, y58, y59, y60, y61, q1, q2, q3⟩ hg hr
        exact ⟨fb, y0, y1, y2, y3, y4, y5, y6, y12, y13, y14, y15, y16, y17, y18, y19, y20, y21, y22, y23, y24, y25, y26, y27, y28, y29, y30, y31, y32, y33, y34, y35, y36, y37, y38, y39, y40, y41, y42, y43, y44, y45, y46, y47, y48, y49, y50, y51, y52, y53, y54, y55, y56, y57, y58, y59, y60, y61, q1, own_cells fb (fun (_ : Unit) => _) 102 (0, 0) () W W' row q2 hg hr, q3⟩
      case assign =>
        rintro l' pre y W K ⟨hU, ho5⟩ hK
        have hsz := hU.size
        gi_wp2
        exact hK _ _ ((KeepsOthers.alloc _ _).from _) ((KeepS.refl _ _).alloc (by have := hwb.size; rintro q (h | rfl | rfl) <;> omega) _) ⟨hU.alloc hsz _, heap_alloc_old ho5 _⟩
          ⟨W.heap.size, _, _, _, _, _, _, _, _, _, _, _, _, _, _, _, _, _, _, _, _, _, _, _, _, _, _, _, _, _, _, _, _, _, _, _, _, _, _, _, _, _, _, _, _, _, _, _, _, _, _, _, _, _, _, _, _, _, hsz, World.alloc_heap_new _ _, rfl⟩
      case body =>
        rintro l' pre y a' W hl hr ⟨hU, ho5⟩ ⟨fb, y0, y1, y2, y3, y4, y5, y6, y12, y13, y14, y15, y16, y17, y18, y19, y20, y21, y22, y23, y24, y25, y26, y27, y28, y29, y30, y31, y32, y33, y34, y35, y36, y37, y38, y39, y40, y41, y42, y43, y44, y45, y46, y47, y48, y49, y50, y51, y52, y53, y54, y55, y56, y57, y58, y59, y60, y61, hfb, hfc, rfl⟩ hlen
        have hfl := flow_bd HVAL.out hks y.1 y.2
        have hfold : ((pre ++ [y]).map (·.1)).foldl (bstep now j) (bUp B now j) = bstep now j ((pre.map (·.1)).foldl (bstep now j) (bUp B now j)) y.1 := by
          rw [List.map_append, List.foldl_append]; rfl
        have hjn : j < (bUp B now j).length := by rw [bUp_len]; have := HNOW.out; omega
        have hval : ((pre.map (·.1)).foldl (bstep now j) (bUp B now j)).getD j 0 = fsum now (pre.map (·.1)) := by
          rw [bfold_get now j j _ _ hjn, if_pos rfl, bUp_get B now j j (by have := HNOW.out; omega) (by have := HNOW.out; omega), if_neg (by have := HNOW.out; omega), if_neg (by omega)]; omega
        have hfs := fsum_bd hM0 HBDN.out (pre.map (·.1)) (fun x hx => by obtain ⟨x', _, rfl⟩ := List.mem_map.1 hx; exact (flow_bd HVAL.out hks x'.1 x'.2).2)
        have hfs2 : 16 * M * ((pre.map (·.1)).length : Nat) ≤ 16 * M * 5 := Int.mul_le_mul_of_nonneg_left (by rw [List.length_map]; omega) (by omega)
        have hlenst : ((pre.map (·.1)).foldl (bstep now j) (bUp B now j)).length = N + 1 := by rw [bfold_len, bUp_len, HNOW.out]
        generalize (pre.map (·.1)).foldl (bstep now j) (bUp B now j) = st at *
        obtain ⟨sj, hsj⟩ : ∃ sj, sj = st.getD j 0 := ⟨_, rfl⟩
        have hb0 : 0 ≤ sj ∧ sj ≤ 80 * M := by rw [hsj, hval]; omega
        obtain ⟨tg, htg, htgl⟩ : ∃ tg : Nat, tgt now y.1.1 = tg ∧ tg < N + 1 := by
          refine ⟨_, rfl, ?_⟩
          unfold tgt; split
          · have := HNOW.out; omega
          · rcases hfl.1 with h | ⟨t, h, ht⟩
            · contradiction
            · rw [h]; have := HNS.out; simp; omega
        have hpv := HBDN.out tg
        have hbst : bstep now j st y.1 = st.set j (st.getD j 0 + y.1.2 * now.getD tg 0) := by unfold bstep; rw [htg]
        rw [← hsj] at hbst
        have sg := (hU.block _ (show gn < W1.heap.size by have := e3.size; omega) (by omega)).trans ((e3.block gn (by omega)).trans HGG.out)
        have sb := (hU.block _ (show bn < W1.heap.size by have := e3.size; omega) (by omega)).trans ((e3.block bn (by omega)).trans HGB.out)
        have sl := (hU.block _ (show bl < W1.heap.size by have := e3.size; omega) (by omega)).trans ((e3.block bl (by omega)).trans HGL.out)
        have sx := (hU.block _ (show bx < W1.heap.size by have := e3.size; omega) (by omega)).trans ((e3.block bx (by omega)).trans HGBX.out)
        have si := (hU.block _ (show wi.heap.size < W1.heap.size by omega) (by omega)).trans e0
        have c0 : W.cell? ⟨bn, 0, none⟩ = some _ := cell_of_heap sb 0
        have c1 : W.cell? ⟨bl, 0, none⟩ = some _ := cell_of_heap sl 0
        have c2 : W.cell? ⟨bx, 0, none⟩ = some _ := cell_of_heap sx 0
        have c3 : W.cell? ⟨wi.heap.size, 0, none⟩ = some _ := cell_of_heap si 0
        have c4 : W.cell? ⟨fb, 0, none⟩ = some _ := cell_of_heap hfc 0
        have c5 : W.cell? ⟨fb, 1, none⟩ = some _ := cell_of_heap hfc 1
        have c6 := row_get sg (k := tg) (by have := HNOW.out; omega)
        have c7 : W.cell? ⟨gx, j, none⟩ = some (.int .i64 sj) := by
          rw [cell_of_heap ho5 j, hsj]; simp [List.getD_eq_getElem?_getD, hlenst, show j < N + 1 by omega]
        have c8 := free_of_heap ho5 j
        have hlenst' := Lib.hid hlenst
        generalize hpp : now.getD tg 0 = pv at *
        have hp0 : 0 ≤ y.1.2 * pv := Int.mul_nonneg hfl.2.1 hpv.1
        have hp1 : y.1.2 * pv ≤ 16 * M := Int.le_trans (Int.mul_le_mul_of_nonneg_right hfl.2.2 hpv.1) (Int.mul_le_mul_of_nonneg_left hpv.2 (by omega))
        have hjN : (j : Int) < (N : Int) + 1 := by omega
        have htN : (tg : Int) < (N : Int) + 1 := by omega
        have hset : (W.setCell ⟨gx, j, none⟩ (.int .i64 (sj + y.1.2 * pv))).heap[gx]? = some (.cells (((pre ++ [y]).map (·.1)).foldl (bstep now j) (bUp B now j) |>.map (Value.int .i64)).toArray 3 (0, 0)) := by
          rw [hfold, hbst, heap_setCell_same ho5]; simp [List.map_set]
        have HTG := Lib.hid htg
        have HFL := Lib.hid hfl.1
        have HSET := Lib.hid hset
        have HU := Lib.hid hU
        clear hset hU
        obtain ⟨hy0, hy1⟩ := hfl.2
        generalize y.1.2 = part at *
        clear hfl hfold hbst hval hfs hfs2 hsj ho5 hfc sg sb sl sx si hlenst hpp htg
        have hwr : Hid (IntKind.i64.wrap (sj + part * pv) = sj + part * pv) := IntWalk.i64_in _ (by omega)
        have hwm : Hid (IntKind.i64.wrap (part * pv) = part * pv) := IntWalk.i64_in _ (by omega)
        by_cases hto : y.1.1 = -1
        · have htgN : tg = N := by rw [← HTG.out]; unfold tgt; rw [if_pos hto, HNOW.out]; omega
          rw [htgN] at c6
          rw [hto] at c4
          clear hto htgN
          gi_wp2
          refine wpIn_region_tail 13 (by kernel_rfl) (by kernel_rfl) (by kernel_rfl) (fun ⟨_, _, h⟩ => h) ?_
          simp only [List.take_succ_cons, List.take_zero, List.drop_succ_cons, List.drop_zero]
          repeat still_step
          refine wpStill_nil ?_
          try rw [hwm.out]
          try rw [hwr.out]
          go_wp2
          refine ⟨((KeepsOthers.setCell _ _ _).trans (KeepsOthers.drew _)).from _, ((KeepS.refl _ _).setCell (p := ⟨gx, j, none⟩) (by rintro (h | h | h) <;> (simp at h; omega)) _).drew, (HU.out.setCell (.inr rfl) _).drew, ?_⟩
          exact HSET.out
        · obtain ⟨t, ht⟩ : ∃ t : Nat, y.1.1 = t := by
            rcases HFL.out with h | ⟨t, h, _⟩
            · exact absurd h hto
            · exact ⟨t, h⟩
          have htg2 : tg = t := by rw [← HTG.out]; unfold tgt; rw [if_neg hto, ht]; rfl
          rw [htg2] at c6 htN
          rw [ht] at c4
          clear hto ht htg2
          gi_wp2
          refine wpIn_region_tail 13 (by kernel_rfl) (by kernel_rfl) (by kernel_rfl) (fun ⟨_, _, h⟩ => h) ?_
          simp only [List.take_succ_cons, List.take_zero, List.drop_succ_cons, List.drop_zero]
          repeat still_step
          refine wpStill_nil ?_
          try rw [hwm.out]
          try rw [hwr.out]
          go_wp2
          refine ⟨((KeepsOthers.setCell _ _ _).trans (KeepsOthers.drew _)).from _, ((KeepS.refl _ _).setCell (p := ⟨gx, j, none⟩) (by rintro (h | h | h) <;> (simp at h; omega)) _).drew, (HU.out.setCell (.inr rfl) _).drew, ?_⟩
          exact HSET.out
      case stop => exact fun _ _ _ _ _ _ h => h.elim
      case done =>
        rintro D xs W hD hS ⟨hU, ho5⟩ hdD
        have hrow : (xs.map (·.1)).foldl (bstep now j) (bUp B now j) = bUp B now (j + 1) := by rw [hS, bUp_succ]; rfl
        rw [hrow] at ho5
        have hsz := hU.size
        have hbel1 : Below w.heap.size wi W := (e3.mono hwb.size).trans (hU.below (by omega) (by rintro q rfl; omega))
        have n0 : wi.heap.size ≤ D := by omega
        have hlow : ∀ q, q < wi.heap.size → q ≠ gx → W.heap[q]? = wi.heap[q]? := fun q hq h1 => (hU.block q (by omega) h1).trans (e3.block q hq)
        have HMW : Hid (Below w.heap.size w W ∧ W.heap[w.heap.size]? = some (.cells #[.int .i64 B.W, .int .i64 B.H, .slice la B.Land.length lc, .slice sa B.Share.length sc] 25 (0, 0)) ∧ W.heap[bn]? = some (.cells #[.slice (some ⟨gn, 0, none⟩) (N + 1) cn] 26 (0, 0)) ∧ W.heap[bl]? = some (.cells #[.int .i64 N] 3 (0, 0)) ∧
            W.heap[gn]? = some (.cells (now.map (Value.int .i64) ++ rest).toArray 3 (0, 0)) ∧ W.heap[bx]? = some (.cells #[.slice (some ⟨gx, 0, none⟩) (N + 1) (N + 1)] 26 (0, 0)) ∧ W.heap[gx]? = some (.cells ((bUp B now (j + 1)).map (Value.int .i64)).toArray 3 (0, 0))) :=
          ⟨hwb.trans hbel1, (hlow _ hwi (by omega)).trans HG0.out, (hlow _ (by omega) (by omega)).trans HGB.out, (hlow _ (by omega) (by omega)).trans HGL.out, (hlow _ (by omega) (by omega)).trans HGG.out, (hlow _ lbx (by omega)).trans HGBX.out, ho5⟩
        have HMK : Hid (Marks w.heap.size W ({ target := .collected D, args := #[] } :: es)) := HM.out.cons n0 (by omega) hdD (fun q hq h => (hlow q hq (by rintro rfl; rw [HGGX.out] at h; cases h)).trans h)
        clear ho5 hrow hU hlow hdD hbel1 e0 e1 e2 e3
        go_wp2
        refine ⟨⟨j + 1, _, _, _, _, _, _, _, _, _, _, _, _, _, _, _, _, _, _, _, _, _, _, _, _, _, _, _, _, _, _, _, _, _, _, _, _, _, _, _, _, _, _, _, _, _, _, _, _, _, _, _, _, _, _, _, _, ?_, by omega, rfl, HMW.out, HMK.out⟩, by simp [intOf]; omega⟩
        omega
    · have hjN : j = N := by omega
      rw [hjN] at ggx ⊢
      clear hjN hlj hj
      have cx := cell_of_heap gbx 0
      have cb := cell_of_heap gb 0
      have cf := free_of_heap gb 0
      simp at cx cb
      have HBO : Hid (BefW w bn bl N #[.int .i64 B.W, .int .i64 B.H, .slice la B.Land.length lc, .slice sa B.Share.length sc] (bN B l (k + 1)) (wi.setCell ⟨bn, 0, none⟩ (.slice (some ⟨gx, 0, none⟩) (N + 1) (N + 1)))) := by
        refine ⟨gx, N + 1, [], hb.setCell (by show _ ≤ bn; omega) _, (heap_setCell_other (by show w.heap.size ≠ bn; omega) _).trans g0, (heap_setCell_same gb _).trans (by simp), (heap_setCell_other (by show bl ≠ bn; omega) _).trans gl, ?_, by omega⟩
        rw [heap_setCell_other (by show gx ≠ bn; omega), ggx, HST.out]
        unfold bOne
        rw [HNOW.out]
        simp
      have HMK : Hid (Marks w.heap.size (wi.setCell ⟨bn, 0, none⟩ (.slice (some ⟨gx, 0, none⟩) (N + 1) (N + 1))) es) := hm.keep (fun D hD _ => by
        rw [heap_setCell_other (by show D ≠ bn; rintro rfl; rw [gb] at hD; cases hD)]; exact hD)
      clear g0 gb gl gg gbx ggx hm hb
      go_wp2
      refine ⟨⟨k + 1, _, _, _, _, _, _, _, _, _, _, _, _, _, _, _, _, _, _, _, _, _, _, _, _, _, _, _, _, _, _, _, _, _, _, _, _, _, _, _, _, _, _, _, _, _, _, _, _, _, _, _, _, _, _, _, _, _, _, _, ?_, by omega, rfl, HBO.out, HMK.out⟩, by simp [intOf]; omega⟩
      omega
  · have hkn : k = n := by omega
    rw [hkn] at gg
    have cb := cell_of_heap gb 0
    simp at cb
    have HGG := Lib.hid gg
    have HM := Lib.hid hm
    have HB := Lib.hid hb
    have hnk : ¬ ((k : Int) < n) := by omega
    clear gg hm hb hkn
    go_wp2
    refine leaves_marks (B := w.heap.size) HM.out ?_
    intro W' hU hC
    have hr := hC gn _ 3 (0, 0) HGG.out
    exact ⟨.slice (some ⟨gn, 0, none⟩) (N + 1) cn, by simp [results, Try.results79, go_sem], some ⟨gn, 0, none⟩, ⟨cn, rfl⟩, ints_of_row hr, fun a ha => by cases ha; exact hgw, HB.out.trans (hU.below (Nat.le_refl _) (fun _ h => h.elim))⟩
end Go.Proofs.Ytnafllhgjidbkaa
