import Derived.Test.YtnafllhgjidbkaaT5
import Derived.RangeFuncNested
import Derived.RangeFuncBound
import Derived.RangeFuncCalls
import Derived.RangeFuncLeaves
import Derived.RangeFuncBox
import Derived.Shelf.Abstract
import Derived.Shelf.RegionOpen
import Derived.OwnWalkIn
import Derived.TacticsInMore
import Derived.LoopNIn
import Derived.LoopIn
import Derived.Sort.QuietIn
namespace Go.Proofs.Ytnafllhgjidbkaa
open Go.RowKit Go.Shelf
attribute [local go_sem] Oper.semAt_some

/-- The blocks of S lie as they lay. -/
structure KeepS (S : Nat → Prop) (W W' : World) : Prop where
  size : W.heap.size ≤ W'.heap.size
  same : ∀ k, S k → W'.heap[k]? = W.heap[k]?
theorem KeepS.refl (S : Nat → Prop) (W : World) : KeepS S W W := ⟨Nat.le_refl _, fun _ _ => rfl⟩
theorem KeepS.trans {S : Nat → Prop} {A B C : World} (h : KeepS S A B) (k : KeepS S B C) : KeepS S A C := ⟨Nat.le_trans h.size k.size, fun i hi => (k.same i hi).trans (h.same i hi)⟩
theorem KeepS.cell {S : Nat → Prop} {W W' : World} (h : KeepS S W W') {b o : Nat} (hb : S b) : W'.cell? ⟨b, o, none⟩ = W.cell? ⟨b, o, none⟩ := World.cell?_of_block (w := W) (h.same b hb)
theorem KeepS.alloc {S : Nat → Prop} {A W : World} (h : KeepS S A W) (hS : ∀ k, S k → k < W.heap.size) (o : Obj) : KeepS S A (W.alloc o) :=
  h.trans ⟨by simp, fun k hk => Below.heap_alloc _ _ _ (hS k hk)⟩
theorem KeepS.setCell {S : Nat → Prop} {A W : World} (h : KeepS S A W) {p : Addr} (hp : ¬ S p.block) (u : Value) : KeepS S A (W.setCell p u) :=
  h.trans ⟨by simp [World.setCell], fun k hk => Below.heap_setCell _ _ _ _ (by rintro rfl; exact hp hk)⟩
theorem KeepS.putObj {S : Nat → Prop} (W : World) (l : Nat) (o : Obj) (hl : ¬ S l) : KeepS S W (W.putObj l o) :=
  ⟨by simp, fun k hk => World.putObj_heap_other (by rintro rfl; exact hl hk)⟩
theorem KeepS.drew {S : Nat → Prop} {A W : World} (h : KeepS S A W) : KeepS S A W.drew := ⟨h.size, h.same⟩

/-- What is below A, and two variables. -/
def S3 (A b1 b2 : Nat) (k : Nat) : Prop := k < A ∨ k = b1 ∨ k = b2
theorem KeepS.below {A b1 b2 : Nat} {w W W' : World} (h : KeepS (S3 A b1 b2) W W') (hb : Below A w W) : ∀ k, k < A → W'.heap[k]? = w.heap[k]? := fun k hk => (h.same k (.inl hk)).trans (hb.block k hk)
theorem CellsAt.keep {w W' : World} {ao : Option Addr} {cs : List Value} (h : CellsAt w ao cs) (hs : w.heap.size ≤ W'.heap.size) (hk : ∀ k, k < w.heap.size → W'.heap[k]? = w.heap[k]?) : CellsAt W' ao cs := by
  intro hne
  obtain ⟨b, off, rfl, hlt, hc⟩ := h hne
  exact ⟨b, off, rfl, Nat.lt_of_lt_of_le hlt hs, fun i hi => (World.cell?_of_block (w := w) (a := ⟨b, off + i, none⟩) (hk b hlt)).trans (hc i hi)⟩
theorem BoxB.keepS {S : Nat → Prop} {W W' : World} {b : Nat} {v : Value} (h : BoxB W b v) (hS : S b) (hk : KeepS S W W') : BoxB W' b v := by
  obtain ⟨hlt, v0, v1, v2, v3, e, h0, h1, h2, h3⟩ := h
  exact ⟨Nat.lt_of_lt_of_le hlt hk.size, v0, v1, v2, v3, e, by rw [hk.cell hS]; exact h0, by rw [hk.cell hS]; exact h1, by rw [hk.cell hS]; exact h2, by rw [hk.cell hS]; exact h3⟩

theorem wfn (f : FuncId) : Fence.wide.fn f := trivial
theorem wnone : ∀ f : FuncId, (none : Option FuncId) = some f → Fence.wide.fn f := fun _ h => by cases h

def dxs : List Int := [0, 0, 1, 0, -1]
def dys : List Int := [0, -1, 0, 1, 0]
def Five.at (x : Five) (k : Nat) : Int := [x.1, x.2.1, x.2.2.1, x.2.2.2.1, x.2.2.2.2].getD k 0
def insideB (B : Bay) (i k : Nat) : Bool := betwB 0 ((i : Int) % B.W + dxs.getD k 0) (B.W - 1) && betwB 0 ((i : Int) / B.W + dys.getD k 0) (B.H - 1)
def flowTo (B : Bay) (i k : Nat) : Int := if insideB B i k = true then i + dxs.getD k 0 + dys.getD k 0 * B.W else -1
def flowPart (B : Bay) (i k : Nat) : Int := (B.Share.getD i (0,0,0,0,0)).at k
def waterUp (B : Bay) (i k : Nat) : List (Int × Int) := (List.range k).filterMap fun j => if 0 < flowPart B i j then some (flowTo B i j, flowPart B i j) else none
def flowsL (B : Bay) (i : Nat) : List (Int × Int) := if B.Land.getD i false = true then [((i : Int), 16)] else waterUp B i 5
theorem waterUp_succ (B : Bay) (i k : Nat) : waterUp B i (k + 1) = waterUp B i k ++ (if 0 < flowPart B i k then [(flowTo B i k, flowPart B i k)] else []) := by
  unfold waterUp
  rw [List.range_succ, List.filterMap_append]
  congr 1
  by_cases h : 0 < flowPart B i k <;> simp [h]
theorem waterUp_len (B : Bay) (i k : Nat) : (waterUp B i k).length ≤ k := by
  unfold waterUp; have := List.length_filterMap_le (fun j => if 0 < flowPart B i j then some (flowTo B i j, flowPart B i j) else none) (List.range k); simpa using this
theorem waterUp_mem (B : Bay) (i : Nat) {k : Nat} (hk : k < 5) (hp : 0 < flowPart B i k) : (flowTo B i k, flowPart B i k) ∈ waterUp B i 5 := by
  unfold waterUp; rw [List.mem_filterMap]; exact ⟨k, List.mem_range.2 hk, by simp [hp]⟩
abbrev Fl (B : Bay) (i : Nat) := { x : Int × Int // x ∈ flowsL B i }

theorem index92_0 (w : World) : (Instr.index 92 (.agg #[.int .i64 0, .int .i64 0, .int .i64 0, .int .i64 (-1), .int .i64 1, .int .i64 0, .int .i64 0, .int .i64 1, .int .i64 (-1), .int .i64 0]) (.int .i64 ((0 : Nat) : Int))).run Try.prog w = .ok (.agg #[.int .i64 0, .int .i64 0]) w := by kernel_rfl
theorem index92_1 (w : World) : (Instr.index 92 (.agg #[.int .i64 0, .int .i64 0, .int .i64 0, .int .i64 (-1), .int .i64 1, .int .i64 0, .int .i64 0, .int .i64 1, .int .i64 (-1), .int .i64 0]) (.int .i64 ((1 : Nat) : Int))).run Try.prog w = .ok (.agg #[.int .i64 0, .int .i64 (-1)]) w := by kernel_rfl
theorem index92_2 (w : World) : (Instr.index 92 (.agg #[.int .i64 0, .int .i64 0, .int .i64 0, .int .i64 (-1), .int .i64 1, .int .i64 0, .int .i64 0, .int .i64 1, .int .i64 (-1), .int .i64 0]) (.int .i64 ((2 : Nat) : Int))).run Try.prog w = .ok (.agg #[.int .i64 1, .int .i64 0]) w := by kernel_rfl
theorem index92_3 (w : World) : (Instr.index 92 (.agg #[.int .i64 0, .int .i64 0, .int .i64 0, .int .i64 (-1), .int .i64 1, .int .i64 0, .int .i64 0, .int .i64 1, .int .i64 (-1), .int .i64 0]) (.int .i64 ((3 : Nat) : Int))).run Try.prog w = .ok (.agg #[.int .i64 0, .int .i64 1]) w := by kernel_rfl
theorem index92_4 (w : World) : (Instr.index 92 (.agg #[.int .i64 0, .int .i64 0, .int .i64 0, .int .i64 (-1), .int .i64 1, .int .i64 0, .int .i64 0, .int .i64 1, .int .i64 (-1), .int .i64 0]) (.int .i64 ((4 : Nat) : Int))).run Try.prog w = .ok (.agg #[.int .i64 (-1), .int .i64 0]) w := by kernel_rfl
theorem index92 (k : Nat) (hk : k < 5) (dx dy : Int) (hx : dxs.getD k 0 = dx) (hy : dys.getD k 0 = dy) (w : World) : (Instr.index 92 (.agg #[.int .i64 0, .int .i64 0, .int .i64 0, .int .i64 (-1), .int .i64 1, .int .i64 0, .int .i64 0, .int .i64 1, .int .i64 (-1), .int .i64 0]) (.int .i64 (k : Int))).run Try.prog w = .ok (.agg #[.int .i64 dx, .int .i64 dy]) w := by
  subst hx; subst hy
  match k, hk with
  | 0, _ => exact index92_0 w
  | 1, _ => exact index92_1 w
  | 2, _ => exact index92_2 w
  | 3, _ => exact index92_3 w
  | 4, _ => exact index92_4 w
theorem five_at (x : Five) : ∀ k, k < 5 → (Five.cells x).getD k undef = .int .i64 (x.at k)
  | 0, _ => rfl
  | 1, _ => rfl
  | 2, _ => rfl
  | 3, _ => rfl
  | 4, _ => rfl
theorem dx_bd (k : Nat) : -1 ≤ dxs.getD k 0 ∧ dxs.getD k 0 ≤ 1 := by
  match k with
  | 0 => decide
  | 1 => decide
  | 2 => decide
  | 3 => decide
  | 4 => decide
  | k + 5 => simp [dxs]
theorem dy_bd (k : Nat) : -1 ≤ dys.getD k 0 ∧ dys.getD k 0 ≤ 1 := by
  match k with
  | 0 => decide
  | 1 => decide
  | 2 => decide
  | 3 => decide
  | 4 => decide
  | k + 5 => simp [dys]

set_option maxRecDepth 100000 in
set_option maxHeartbeats 1000000 in
theorem flows1_land (n l A bb ib : Nat) (w0 : World) (B : Bay) (v : Value) (i : Nat) (J Jx : List (Fl B i) → World → Prop) (hn : 1 ≤ n)
    (hY : ∀ pre x W1, J pre W1 → pre.length < 5 → YieldAt Fence.wide (n - 1) Try.prog l #[.agg #[.int .i64 x.1.1, .int .i64 x.1.2]] W1 fun e W' =>
      (e = .returned (.bool true) ∧ J (pre ++ [x]) W' ∧ KeepS (S3 A bb ib) W1 W') ∨ (e = .returned (.bool false) ∧ Jx (pre ++ [x]) W'))
    (W : World) (hb : BoxB W bb v) (hi : W.cell? ⟨ib, 0, none⟩ = some (.int .i64 i)) (hv : BayAt w0 v B) (hw0 : Below w0.heap.size w0 W)
    (hin : i < B.Land.length) (h0 : J [] W) (hland : B.Land.getD i false = true) :
    CallsIn Fence.wide n Try.prog 98 #[.func (.yield l) #[] #[], .pointer (some ⟨bb, 0, none⟩), .pointer (some ⟨ib, 0, none⟩)] W fun e W' => (∃ v, e = .returned v) ∧
      ((∃ xs, xs.map (·.1) = flowsL B i ∧ J xs W') ∨ (∃ pre, Jx pre W')) := by
  have hfl : flowsL B i = [((i : Int), 16)] := by unfold flowsL; rw [if_pos hland]
  obtain ⟨hlt, v0, v1, v2, v3, rfl, c0, c1, c2, c3⟩ := hb
  obtain ⟨la, lc, sa, sc, e, hl, hs, hll, hsl⟩ := hv
  simp only [Value.agg.injEq, Array.mk.injEq, List.cons.injEq, and_true] at e
  obtain ⟨rfl, rfl, rfl, rfl⟩ := e
  obtain ⟨bl, ol, rfl, hbl, hcl⟩ := (hl.below (Nat.le_refl _) hw0).get hin
  rw [hland] at hcl
  have hmem : ((i : Int), (16 : Int)) ∈ flowsL B i := by rw [hfl]; simp
  obtain ⟨fn, tmps, assign, body, hy, hR⟩ := hY [] ⟨(i, 16), hmem⟩ W h0 (by simp)
  dsimp only at hy
  have HFL := Lib.hid hfl
  have hi1 : (i : Int) < B.Land.length := by omega
  clear hfl hland hY
  refine callsIn_of_wp Try.func98 rfl trivial ?_ rfl
  simp only [Try.ntmps98, List.size_toArray, List.length_cons, List.length_nil, Nat.reduceAdd, Nat.reduceSub, Array.replicate_succ, Array.replicate_zero, List.push_toArray, List.append_toArray, List.nil_append, List.cons_append]
  gi_wp2
  refine hR.mono ?_
  rintro e W' (⟨rfl, hJ', hk⟩ | ⟨rfl, hJx'⟩)
  · gi_wp2
    refine bodyPost_ret (results_none rfl _ _ _) rfl ?_
    exact ⟨⟨_, rfl⟩, .inl ⟨[⟨((i : Int), (16 : Int)), hmem⟩], HFL.out.symm, hJ'⟩⟩
  · gi_wp2
    refine bodyPost_ret (results_none rfl _ _ _) rfl ?_
    exact ⟨⟨_, rfl⟩, .inr ⟨_, hJx'⟩⟩

set_option maxRecDepth 100000 in
set_option maxHeartbeats 2000000 in
theorem flows1_water (n l A bb ib : Nat) (w0 : World) (B : Bay) (v : Value) (i : Nat) (J Jx : List (Fl B i) → World → Prop) (hn : 1 ≤ n)
    (hY : ∀ pre x W1, J pre W1 → pre.length < 5 → YieldAt Fence.wide (n - 1) Try.prog l #[.agg #[.int .i64 x.1.1, .int .i64 x.1.2]] W1 fun e W' =>
      (e = .returned (.bool true) ∧ J (pre ++ [x]) W' ∧ KeepS (S3 A bb ib) W1 W') ∨ (e = .returned (.bool false) ∧ Jx (pre ++ [x]) W'))
    (hJg : ∀ pre W W', J pre W → W.grownBy W' none → J pre W')
    (W : World) (hb : BoxB W bb v) (hib : ib < W.heap.size) (hi : W.cell? ⟨ib, 0, none⟩ = some (.int .i64 i)) (hv : BayAt w0 v B) (hw0 : Below w0.heap.size w0 W) (hA : A = w0.heap.size)
    (hval : validP B) (hin : i < B.Share.length) (h0 : J [] W) (hland : B.Land.getD i false = false) :
    CallsIn Fence.wide n Try.prog 98 #[.func (.yield l) #[] #[], .pointer (some ⟨bb, 0, none⟩), .pointer (some ⟨ib, 0, none⟩)] W fun e W' => (∃ v, e = .returned v) ∧
      ((∃ xs, xs.map (·.1) = flowsL B i ∧ J xs W') ∨ (∃ pre, Jx pre W')) := by
  have hfl : flowsL B i = waterUp B i 5 := by unfold flowsL; rw [if_neg (by rw [hland]; simp)]
  have HB := Lib.hid hb
  obtain ⟨hlt0, v0, v1, v2, v3, rfl, c0, c1, c2, c3⟩ := hb
  have hv0 := hv
  obtain ⟨la, lc, sa, sc, e, hl, hs, hll, hsl⟩ := hv0
  simp only [Value.agg.injEq, Array.mk.injEq, List.cons.injEq, and_true] at e
  obtain ⟨rfl, rfl, rfl, rfl⟩ := e
  have hlen : B.Land.length = B.Share.length := by have := hval.2.2.1; have := hval.2.2.2.1; omega
  obtain ⟨bl, ol, rfl, hbl, hcl⟩ := (hl.below (Nat.le_refl _) hw0).get (show i < B.Land.length by omega)
  rw [hland] at hcl
  have HFL := Lib.hid hfl
  have hi1 : (i : Int) < B.Land.length := by omega
  have HS := Lib.hid hs
  have HW0 := Lib.hid hw0
  have hp := hval
  have hW := hval.1
  have hH := hval.2.1
  have hW0 : (1 : Int) ≤ B.W := hW.1
  have hx0 : 0 ≤ (i : Int) % B.W ∧ (i : Int) % B.W < B.W := ⟨Int.emod_nonneg _ (by omega), Int.emod_lt_of_pos _ (by omega)⟩
  have hy0 : 0 ≤ (i : Int) / B.W ∧ (i : Int) / B.W ≤ 100 := ⟨Int.ediv_nonneg (by omega) (by omega), by have := Int.ediv_le_self B.W (show (0 : Int) ≤ i by omega); omega⟩
  have HX : Hid ((i : Int) % B.W = (i : Int) % B.W) := rfl
  have HL := Lib.hid hlen
  clear hfl hland hv hl hs hlen hw0 hp
  refine callsIn_of_wp Try.func98 rfl trivial ?_ rfl
  simp only [Try.ntmps98, List.size_toArray, List.length_cons, List.length_nil, Nat.reduceAdd, Nat.reduceSub, Array.replicate_succ, Array.replicate_zero, List.push_toArray, List.append_toArray, List.nil_append, List.cons_append]
  gi_wp2
  gi_quiet (fail)
  gi_wp2
  have hK0 : KeepS (S3 A bb ib) W (W.drewN nq) := ⟨Nat.le_refl _, fun _ _ => rfl⟩
  have hJ0 : J [] (W.drewN nq) := hJg _ _ _ h0 ⟨rfl, rfl, rfl, Nat.le_refl _, fun _ _ _ => rfl⟩
  gi_loopw [33] (fun c wr => ∃ (k : Nat) (pre : List (Fl B i)), k ≤ 5 ∧ c = .int .i64 k ∧ pre.map (·.1) = waterUp B i k ∧ J pre wr ∧ KeepS (S3 A bb ib) W wr) (fun c _ => 5 - (intOf c).toNat)
  case atStart => exact ⟨0, [], by omega, rfl, rfl, hJ0, hK0⟩
  case round =>
    obtain ⟨k, pre, hk, rfl, hpre, hJ, hKS⟩ := hrel
    have HPRE := Lib.hid hpre
    clear hpre hJ0 hK0
    by_cases hlt : k < 5
    · have d0 := (hKS.cell (o := 0) (show S3 A bb ib bb from .inr (.inl rfl))).trans c0
      have d1 := (hKS.cell (o := 1) (show S3 A bb ib bb from .inr (.inl rfl))).trans c1
      have d2 := (hKS.cell (o := 2) (show S3 A bb ib bb from .inr (.inl rfl))).trans c2
      have d3 := (hKS.cell (o := 3) (show S3 A bb ib bb from .inr (.inl rfl))).trans c3
      have di := (hKS.cell (o := 0) (show S3 A bb ib ib from .inr (.inr rfl))).trans hi
      have hbb : bb < wr.heap.size := Nat.lt_of_lt_of_le hlt0 hKS.size
      have hib' : ib < wr.heap.size := Nat.lt_of_lt_of_le hib hKS.size
      obtain ⟨bs, os, rfl, hbs, hcs⟩ := (show FivesAt wr sa B.Share from CellsAt.keep HS.out (Nat.le_trans HW0.out.size hKS.size) (fun q hq => (hKS.same q (.inl (by omega))).trans (HW0.out.block q hq))).get hin
      have hcp := hcs k hlt
      rw [five_at _ k hlt, ← Nat.add_assoc] at hcp
      clear hcs
      have hpl : pre.length < 5 := by
        have h1 := congrArg List.length HPRE.out
        have h2 := waterUp_len B i k
        rw [List.length_map] at h1; omega
      have hpart : (B.Share.getD i (0,0,0,0,0)).at k = flowPart B i k := rfl
      rw [hpart] at hcp
      obtain ⟨b1, b2⟩ := dx_bd k
      obtain ⟨b3, b4⟩ := dy_bd k
      have hsucc := waterUp_succ B i k
      have hmem := fun hp => waterUp_mem B i hlt hp
      have hins : insideB B i k = (betwB 0 ((i : Int) % B.W + dxs.getD k 0) (B.W - 1) && betwB 0 ((i : Int) / B.W + dys.getD k 0) (B.H - 1)) := rfl
      have hto : flowTo B i k = if insideB B i k = true then i + dxs.getD k 0 + dys.getD k 0 * B.W else -1 := rfl
      have hix := fun dx dy h1 h2 => index92 k hlt dx dy h1 h2
      generalize hdx : dxs.getD k 0 = dx at b1 b2 hins hto hix
      generalize hdy : dys.getD k 0 = dy at b3 b4 hins hto hix
      have hix' := hix dx dy rfl rfl
      have hdw : -6 ≤ dy * B.W ∧ dy * B.W ≤ 6 := by
        have : dy = -1 ∨ dy = 0 ∨ dy = 1 := by omega
        rcases this with rfl | rfl | rfl <;> omega
      generalize flowPart B i k = p at hcp hsucc hmem
      have HSUCC := Lib.hid hsucc
      have HMEM := Lib.hid hmem
      clear hsucc hmem hix hdx hdy
      have key : ∀ to : Int, insideB B i k = insideB B i k → flowTo B i k = to → Hid (0 < p → ∃ x : Fl B i, x.1 = (to, p)) := by
        intro to _ h hp
        exact ⟨⟨(to, p), by rw [HFL.out, ← h]; exact HMEM.out hp⟩, rfl⟩
      have hy : ∀ to : Int, flowTo B i k = to → 0 < p → ∃ x : Fl B i, x.1 = (to, p) ∧ YieldAt Fence.wide (n - 1) Try.prog l #[.agg #[.int .i64 to, .int .i64 p]] (wr.alloc (.cells #[.int .i64 dx, .int .i64 dy] 91)) fun e W' =>
          (e = .returned (.bool true) ∧ J (pre ++ [x]) W' ∧ KeepS (S3 A bb ib) (wr.alloc (.cells #[.int .i64 dx, .int .i64 dy] 91)) W') ∨ (e = .returned (.bool false) ∧ Jx (pre ++ [x]) W') := by
        intro to h hp
        obtain ⟨x, hx⟩ := (key to rfl h) hp
        refine ⟨x, hx, ?_⟩
        have := hY pre x (wr.alloc (.cells #[.int .i64 dx, .int .i64 dy] 91)) (hJg _ _ _ hJ (World.grownBy_alloc _ _ _)) hpl
        rw [hx] at this
        exact this
      have hKSa : ∀ o, KeepS (S3 A bb ib) W (wr.alloc o) := fun o => hKS.alloc (fun q hq => by
        rcases hq with hq | rfl | rfl
        · have := HW0.out.size; have := hKS.size; omega
        · exact hbb
        · exact hib') o
      have hJa : ∀ o, J pre (wr.alloc o) := fun o => hJg _ _ _ hJ (World.grownBy_alloc _ _ _)
      have HKSA := Lib.hid hKSa
      have HJA := Lib.hid hJa
      have HYY := Lib.hid hy
      clear hY hJg hJ hKS hKSa hJa hy key
      have rows : i < B.Share.length := hin
      have hi100 : (i : Int) ≤ 100 := by omega
      cases hc1 : betwB 0 ((i : Int) % B.W + dx) (B.W - 1)
      · have hto' : flowTo B i k = -1 := by rw [hto, hins, hc1]; rfl
        have HTO := Lib.hid hto'
        clear hto' hto hins
        by_cases hp : 0 < p
        · obtain ⟨x, hx, fn, tmps, assign, body, hy, hR⟩ := HYY.out _ HTO.out hp
          have HXX := Lib.hid hx
          clear hx
          gi_wp2_with (first | ((with_reducible refine And.intro (wfn _) ?_); gi_at_call 60; refine (callsIn_wide.2 (between_any _ _ _ _)).mono ?_; rintro e w' ⟨rfl, rfl⟩) | (with_reducible refine And.intro (wfn _) ?_) | (with_reducible refine And.intro wnone ?_))
          refine hR.mono ?_
          rintro e W' (⟨rfl, hJ', hk'⟩ | ⟨rfl, hJx'⟩)
          · gi_wp2
            go_roundw
            case rel => exact ⟨k + 1, pre ++ [x], by omega, by go_num, by rw [List.map_append, HPRE.out, HSUCC.out, if_pos hp, HTO.out, ← HXX.out]; rfl, hJ', (HKSA.out _).trans hk'⟩
            case measure => simp [intOf]; omega
          · gi_wp2
            refine bodyPost_ret (results_none rfl _ _ _) rfl ?_
            exact ⟨⟨_, rfl⟩, .inr ⟨_, hJx'⟩⟩
        · gi_wp2_with (first | ((with_reducible refine And.intro (wfn _) ?_); gi_at_call 60; refine (callsIn_wide.2 (between_any _ _ _ _)).mono ?_; rintro e w' ⟨rfl, rfl⟩) | (with_reducible refine And.intro (wfn _) ?_) | (with_reducible refine And.intro wnone ?_))
          go_roundw
          case rel => exact ⟨k + 1, pre, by omega, by go_num, by rw [HPRE.out, HSUCC.out, if_neg (by omega), List.append_nil], HJA.out _, HKSA.out _⟩
          case measure => simp [intOf]; omega
      · cases hc2 : betwB 0 ((i : Int) / B.W + dy) (B.H - 1)
        · have hto' : flowTo B i k = -1 := by rw [hto, hins, hc1, hc2]; rfl
          have HTO := Lib.hid hto'
          clear hto' hto hins
          by_cases hp : 0 < p
          · obtain ⟨x, hx, fn, tmps, assign, body, hy, hR⟩ := HYY.out _ HTO.out hp
            have HXX := Lib.hid hx
            clear hx
            gi_wp2_with (first | ((with_reducible refine And.intro (wfn _) ?_); gi_at_call 60; refine (callsIn_wide.2 (between_any _ _ _ _)).mono ?_; rintro e w' ⟨rfl, rfl⟩) | (with_reducible refine And.intro (wfn _) ?_) | (with_reducible refine And.intro wnone ?_))
            refine hR.mono ?_
            rintro e W' (⟨rfl, hJ', hk'⟩ | ⟨rfl, hJx'⟩)
            · gi_wp2
              go_roundw
              case rel => exact ⟨k + 1, pre ++ [x], by omega, by go_num, by rw [List.map_append, HPRE.out, HSUCC.out, if_pos hp, HTO.out, ← HXX.out]; rfl, hJ', (HKSA.out _).trans hk'⟩
              case measure => simp [intOf]; omega
            · gi_wp2
              refine bodyPost_ret (results_none rfl _ _ _) rfl ?_
              exact ⟨⟨_, rfl⟩, .inr ⟨_, hJx'⟩⟩
          · gi_wp2_with (first | ((with_reducible refine And.intro (wfn _) ?_); gi_at_call 60; refine (callsIn_wide.2 (between_any _ _ _ _)).mono ?_; rintro e w' ⟨rfl, rfl⟩) | (with_reducible refine And.intro (wfn _) ?_) | (with_reducible refine And.intro wnone ?_))
            go_roundw
            case rel => exact ⟨k + 1, pre, by omega, by go_num, by rw [HPRE.out, HSUCC.out, if_neg (by omega), List.append_nil], HJA.out _, HKSA.out _⟩
            case measure => simp [intOf]; omega
        · have hto' : flowTo B i k = i + dx + dy * B.W := by rw [hto, hins, hc1, hc2]; rfl
          have HTO := Lib.hid hto'
          clear hto' hto hins
          by_cases hp : 0 < p
          · obtain ⟨x, hx, fn, tmps, assign, body, hy, hR⟩ := HYY.out _ HTO.out hp
            have HXX := Lib.hid hx
            clear hx
            gi_wp2_with (first | ((with_reducible refine And.intro (wfn _) ?_); gi_at_call 60; refine (callsIn_wide.2 (between_any _ _ _ _)).mono ?_; rintro e w' ⟨rfl, rfl⟩) | (with_reducible refine And.intro (wfn _) ?_) | (with_reducible refine And.intro wnone ?_))
            refine hR.mono ?_
            rintro e W' (⟨rfl, hJ', hk'⟩ | ⟨rfl, hJx'⟩)
            · gi_wp2
              go_roundw
              case rel => exact ⟨k + 1, pre ++ [x], by omega, by go_num, by rw [List.map_append, HPRE.out, HSUCC.out, if_pos hp, HTO.out, ← HXX.out]; rfl, hJ', (HKSA.out _).trans hk'⟩
              case measure => simp [intOf]; omega
            · gi_wp2
              refine bodyPost_ret (results_none rfl _ _ _) rfl ?_
              exact ⟨⟨_, rfl⟩, .inr ⟨_, hJx'⟩⟩
          · gi_wp2_with (first | ((with_reducible refine And.intro (wfn _) ?_); gi_at_call 60; refine (callsIn_wide.2 (between_any _ _ _ _)).mono ?_; rintro e w' ⟨rfl, rfl⟩) | (with_reducible refine And.intro (wfn _) ?_) | (with_reducible refine And.intro wnone ?_))
            go_roundw
            case rel => exact ⟨k + 1, pre, by omega, by go_num, by rw [HPRE.out, HSUCC.out, if_neg (by omega), List.append_nil], HJA.out _, HKSA.out _⟩
            case measure => simp [intOf]; omega
    · obtain rfl : k = 5 := by omega
      gi_wp2
      refine bodyPost_end (results_none rfl _ _ _) rfl ?_
      exact ⟨⟨_, rfl⟩, .inl ⟨pre, by rw [HPRE.out, HFL.out], hJ⟩⟩
end Go.Proofs.Ytnafllhgjidbkaa
