/- Texts of the proof, part 3: R, T8, T11, T12, T13, T14, T15, T16, T10, T17, T9, T18, T19, T20, T21, T22, T23, T24, A1, A2, T25, AD. -/
import Derived.Test.YtnafllhgjidbkaaZ2
import Derived.Test.YtnafllhgjidbkaaRows
import Derived.WalkKit
import Derived.WalkSpells
import Derived.WalkLawsBesides
import Derived.Deep.QuietTactic
import Derived.BigQuiet
import Derived.Lib.Hide
import Derived.OwnWalk
import Derived.ProofKit
import Derived.OpenShut
import Derived.Lib.SmallJoins
import Derived.Deep.Slices
import Derived.Below
import Derived.Laws.OwnMore
import Derived.Maps.AppendAt
import Derived.Laws.IdiomCopy
import Derived.Laws.CopyRow
import Derived.IntWalk
import Derived.StillTail
import Derived.Scope
import Derived.ChangeKeysEq
import Derived.Laws.Small
import Derived.KernelRfl
import Derived.RangeFuncNested
import Derived.RangeFuncBound
import Derived.RangeFuncCalls
import Derived.RangeFuncLeaves
import Derived.RangeFuncBox
import Derived.Shelf.Abstract
import Derived.Shelf.RegionOpen
import Derived.OwnWalkIn
import Derived.TacticsInMore
import Derived.LoopNIn
import Derived.LoopIn
import Derived.Sort.QuietIn
import Derived.StillTailTactics
import Derived.OrdersIn
import Derived.Deep.RegionHeld3
namespace Go.Proofs.Ytnafllhgjidbkaa
open Go.RowKit Go.Shelf
set_option linter.unusedVariables false

/-! ### A drawn region within a round of a loop over an iterator, out of the plain laws -/
theorem rows_in {n l : Nat} {P : Program} {row : String} {args : Array Value} {w : World} {R : Value → World → Prop} (h : Rows P row args w R) : RowsIn (Fence.wide.inRound l) n P row args w R := by
  intro c cs hr
  obtain ⟨v, w', hR, hs⟩ := h c cs
  exact ⟨v, w', hR, stepsIn_wide.2 hs⟩
theorem wpOp_in {P : Program} {ops : Array Oper} {Q : Exit → Act → World → Prop} {l n i : Nat} {K : Act → World → Prop} {a : Act} {w : World} (hQ : ¬ LetsOut Q)
    (hd : ∀ (j : Nat) (o : Oper), ops[j]? = some o → ∀ c, o.op ≠ .defer c) (h : wpOp P ops Q i K a w) : wpOpIn (Fence.wide.inRound l) n P ops Q i K a w := by
  unfold wpOp at h
  unfold wpOpIn
  split
  · rename_i ho; simpa [ho] using h
  · rename_i o ho
    simp only [ho] at h
    split
    · rename_i hw
      simp only [hw, if_true] at h
      rcases h with h | h
      · refine ⟨fun f _ => trivial, ?_⟩
        show o.uponIn (Fence.wide.inRound l) n P a K Q ((Oper.semAt (some l) a.eval o).run P w)
        rw [Oper.semAt_some l a.eval o (hd i o ho)]
        unfold Oper.wp at h
        generalize (execOp a.eval o).run P w = r at h
        cases r with
        | ok x w' =>
          cases x <;> simp only [Oper.upon] at h <;> simp only [Oper.uponIn] <;>
            first
              | exact h
              | exact ⟨fun hh => by simp [Fence.wide] at hh, callsIn_wide.2 (h.mono fun e w'' he => by cases e <;> exact he)⟩
              | exact ⟨fun hh => by simp [Fence.wide] at hh, rows_in h⟩
        | halt x w' => cases x <;> simp only [Oper.upon] at h <;> simp only [Oper.uponIn] <;> exact h
      · exact absurd h.2 hQ
    · rename_i hw
      simp only [hw] at h
      exact ⟨fun f _ => trivial, h⟩
theorem wpAny_in {P : Program} {md : Region.Mode} {ops : Array Oper} {Q : Exit → Act → World → Prop} {l n : Nat} (hQ : ¬ LetsOut Q) (hd : ∀ (j : Nat) (o : Oper), ops[j]? = some o → ∀ c, o.op ≠ .defer c) :
    ∀ (fuel : Nat) (listed : Array Bool) (a : Act) (w : World), wpAny P md ops Q fuel listed a w → wpAnyIn (Fence.wide.inRound l) n P md ops Q fuel listed a w
  | 0, _, _, _, h => h
  | fuel + 1, listed, a, w, h => ⟨h.1, fun i hi => wpOpIn_mono (fun a' w' h' => wpAny_in hQ hd fuel _ a' w' h') (wpOp_in hQ hd (h.2 i hi))⟩
def noDefer (l : List Oper) : Bool := l.all fun o => match o.op with | .defer _ => false | _ => true
theorem noDefer_spec {l : List Oper} (h : noDefer l = true) : ∀ (j : Nat) (o : Oper), l.toArray[j]? = some o → ∀ c, o.op ≠ .defer c := by
  intro j o ho c e
  have hm : o ∈ l := by
    have : l[j]? = some o := by simpa using ho
    exact List.mem_of_getElem? this
  have := List.all_eq_true.1 h o hm
  rw [e] at this; cases this

/-- Reads, and one chain of writes at the end. -/
theorem wpIn_region_tail {P : Program} {id ll nn : Nat} {Q : Exit → Act → World → Prop} {a : Act} {w : World} {l : List Oper} (n : Nat) (hm : P.follows .mixedOrders = true) (hB : Region.lexTailB .any l.toArray n = true) (hnd : noDefer l = true) (hQ : ¬ LetsOut Q)
    (h : wpStill P l.toArray w.drew (fun a' => wpList P l.toArray Q (l.drop n) a' w.drew) (l.take n) a) : (Code.region id l.toArray true).wpIn (Fence.wide.inRound ll) nn P Q a w := by
  simp only [Region.lexTailB, Bool.and_eq_true, decide_eq_true_eq] at hB
  obtain ⟨⟨⟨⟨hsel, hn⟩, hs⟩, hc⟩, hlex⟩ := hB
  have hn' : n < l.length := by simpa using hn
  have htl : (l.take n).length = n := by simp; omega
  have hdl : (l.drop n).length = l.toArray.size - n := by simp
  have inv0 : HeadInv .any l.toArray n (Array.replicate l.toArray.size false) :=
    ⟨by simp, fun j oj _ hl => (by rw [getD_replicate_false] at hl; cases hl), fun t _ ht => getD_in (by simpa using ht) (getD_replicate_false _ _)⟩
  have H := wpAnyL_lex (md := .any) (g := l.toArray.size - n) hsel hs hc hn (l.take n) 0 _ a (fun j hj => by
    have hj' : j < n := by rw [htl] at hj; exact hj
    simp [hj']) (by simpa using htl) inv0 (by rw [htl]; exact hlex) h
  refine wpIn_region_any hm (wpAny_in hQ (noDefer_spec hnd) _ _ _ _ ?_)
  have := wpAny_of_head (Q' := Q) (g := l.toArray.size - n) (fun listed a' hL => by
    have := wpAny_of_seq (md := .any) (Q' := Q) (l.drop n) n listed a' { w with drawn := w.drawn + 1 } (fun j => by simp [List.getElem?_drop]) (by rw [hdl]; exact hL.1) hL.2
    rwa [hdl] at this) _ _ _ H
  rw [htl, show n + (l.toArray.size - n) = l.toArray.size by omega] at this
  exact this
theorem wp_region_tail {P : Program} {id : Nat} {Q : Exit → Act → World → Prop} {a : Act} {w : World} {l : List Oper} (n : Nat) (hm : P.follows .mixedOrders = true) (hB : Region.lexTailB .any l.toArray n = true)
    (h : wpStill P l.toArray w.drew (fun a' => wpList P l.toArray Q (l.drop n) a' w.drew) (l.take n) a) : (Code.region id l.toArray true).wp P Q a w := wp_region_still_tail n hm hB h
/-- Reads, and calls that make memory of their own alone. -/
theorem wpIn_region_aft {P : Program} {id ll nn : Nat} {Q : Exit → Act → World → Prop} {a : Act} {w : World} {l : List Oper} (hm : P.follows .mixedOrders = true) (hB : Region.lexB .any l.toArray = true) (hnd : noDefer l = true) (hQ : ¬ LetsOut Q)
    (h : wpQuiet P l.toArray (fun w' => ∃ x : Aft w, w' = x.val) (fun a' => ∀ w', (∃ x : Aft w, w' = x.val) → Q .normal a' w') l a) : (Code.region id l.toArray true).wpIn (Fence.wide.inRound ll) nn P Q a w := by
  simp only [Region.lexB, Bool.and_eq_true] at hB
  refine wpIn_region_any hm (wpAny_in hQ (noDefer_spec hnd) _ _ _ _ ?_)
  have hC : ∃ x : Aft w, ({ w with drawn := w.drawn + 1 } : World) = x.val := ⟨⟨_, (Below.refl _ w).drew⟩, rfl⟩
  refine wpAny_of_quiet (C := fun w' => ∃ x : Aft w, w' = x.val) (Q := fun a' => ∀ w', (∃ x : Aft w, w' = x.val) → Q .normal a' w') (fun _ w' hw' h => h w' hw') _ _ _ _ hC ?_
  have := wpAnyQ_lex (C := fun w' => ∃ x : Aft w, w' = x.val) (md := .any) hB.1 l.toArray.toList 0 (Array.replicate l.toArray.size false) a (by simp) (by simpa using hB.2) (by simpa using h)
  simpa using this
end Go.Proofs.Ytnafllhgjidbkaa

namespace Go.Proofs.Ytnafllhgjidbkaa
open Go.RowKit Go.Shelf
attribute [local go_sem] Oper.semAt_some
set_option linter.unusedVariables false

/-- A variable that holds a slick. -/
theorem flows_any (la sa : Option Addr) (n1 c1 n2 c2 : Nat) (W H i : Int) (w : World) :
    Calls Try.prog 90 #[.agg #[.int .i64 W, .int .i64 H, .slice la n1 c1, .slice sa n2 c2], .int .i64 i] w fun e w' =>
      e = .returned (.func (.func 98) #[] #[.pointer (some ⟨w.heap.size, 0, none⟩), .pointer (some ⟨w.heap.size + 1, 0, none⟩)]) ∧
      w' = (w.alloc (.cells #[.int .i64 W, .int .i64 H, .slice la n1 c1, .slice sa n2 c2] 25)).alloc (.cells #[.int .i64 i] 3) := by
  go_enter Try.func90, Try.ntmps90
  go_wp2
  go_ret
  exact ⟨rfl, rfl⟩


theorem calls_of_wp_marks {P : Program} {f : FuncId} {fn : Func} {c : Code} {args : Array Value} {w : World} {R : Ending → World → Prop}
    (hf : P.funcs[f]? = some fn) (hb : fn.body = some c)
    (h : c.wp P (bodyPostM Fence.wide 9 P fn R) { tmps := args ++ Array.replicate (fn.ntmps - args.size) undef, defers := [] } w) : Calls P f args w R :=
  (callsIn_wide (n := 9)).1 (callsIn_of_wp_marks hf hb trivial (wpIn_wide.2 h) rfl)


/-- A loop over an iterator, in plain words. -/
theorem wp_range {α : Type} {P : Program} {g : Operand} {ps : Array Tmp} {assign body : Code} {Q : Exit → Act → World → Prop} {a : Act} {w : World} {gf : Nat} {lb : Array Value}
    (hg : a.eval g = .func (.func gf) #[] lb) (eg : ∀ args w, (callFunc gf args).run P w = .ok (.enter gf args) w)
    {encs : α → Array Value} {Kp : World → World → Prop} {S Sp : List α → Prop} {N : Nat} (hseq : SeqStopsK Fence.wide 8 P gf lb encs Kp S Sp N w)
    (hKt : ∀ {A B C : World}, Kp A B → Kp B C → Kp A C) (hKb : ∀ (W : World) (l : Nat) (o : Obj), w.heap.size ≤ l → Kp W (W.putObj l o)) (hps : ∀ x, (encs x).size = ps.size)
    (I : List α → World → Prop) (Ix : Code → List α → World → Prop) (hI : OwnFrom w.heap.size I) (hIx : ∀ c, OwnFrom w.heap.size (Ix c)) (h0 : I [] w) (Ax : α → Act → World → Prop) (hAx : ∀ x a', OwnFrom w.heap.size (fun (_ : Unit) W => Ax x a' W))
    (hassign : ∀ (l : Nat) (pre : List α) (x : α) (W : World) (K : Act → World → Prop), I pre W → (∀ a' W', KeepsFrom w.heap.size W W' → Kp W W' → I pre W' → Ax x a' W' → K a' W') →
      assign.wpIn (Fence.wide.inRound l) 7 P (Exit.then K (fun _ _ _ => False)) { tmps := (ps.zip (encs x)).foldl (fun t (p, v) => t.setIfInBounds p v) a.tmps, defers := [] } W)
    (hbody : ∀ (l : Nat) (pre : List α) (x : α) (a' : Act) (W : World), w.heap.size ≤ l → (∃ r, W.heap[l]? = some (.loop r)) → I pre W → Ax x a' W → pre.length < N → body.wpIn (Fence.wide.inRound l) 7 P (ownPostG w.heap.size Kp I Ix (pre ++ [x]) W) a' W)
    (hdone : ∀ (D : Nat) (xs : List α) (W : World), w.heap.size ≤ D → S xs → I xs W → W.heap[D]? = some (.deferred (some [])) → Q .normal { a with defers := { target := .collected D, args := #[] } :: a.defers } W)
    (hstop : ∀ (D : Nat) (c : Code) (pre : List α) (W : World), w.heap.size ≤ D → Sp pre → Ix c pre W → W.heap[D]? = some (.deferred (some [])) → c.wp P Q { a with defers := { target := .collected D, args := #[] } :: a.defers } W) :
    (Code.rangeFunc g ps assign body).wp P Q a w :=
  (wpIn_wide (n := 9)).1 (wpIn_rangeFunc_ownH (F := Fence.wide) (n := 9) rfl (by omega) hg (wfn _) eg hseq (fun h k => hKt h k) (fun W l o o' hl _ _ _ => hKb W l o' hl) (Below.refl _ _) hps I Ix hI hIx h0 Ax hAx hassign hbody hdone
    (fun D c pre W h1 h2 h3 h4 => wpIn_wide.2 (hstop D c pre W h1 h2 h3 h4)))

theorem flows_stops (A bb ib : Nat) (w0 : World) (B : Bay) (v : Value) (i : Nat) (w : World) (hb : BoxB w bb v) (hib : ib < w.heap.size) (hi : w.cell? ⟨ib, 0, none⟩ = some (.int .i64 i)) (hv : BayAt w0 v B)
    (hw0 : Below w0.heap.size w0 w) (hA : A = w0.heap.size) (hval : validP B) (hin : i < B.Share.length) :
    SeqStopsK Fence.wide 8 Try.prog 98 #[.pointer (some ⟨bb, 0, none⟩), .pointer (some ⟨ib, 0, none⟩)] (fun x : Fl B i => #[.agg #[.int .i64 x.1.1, .int .i64 x.1.2]]) (KeepS (S3 A bb ib))
      (fun xs => xs.map (·.1) = flowsL B i) (fun _ => True) 5 w := by
  intro l J Jx W hW hJ hJx hY h0
  have hJg : ∀ pre W1 W', J pre W1 → W1.grownBy W' none → J pre W' := fun pre W1 W' hj hg => hJ _ _ _ _ hj hg (fun r e => by cases e)
  have hb' := hb.below (Nat.le_refl _) hW
  have hi' : W.cell? ⟨ib, 0, none⟩ = some (.int .i64 i) := (hW.cell (p := ⟨ib, 0, none⟩) hib).trans hi
  have hw0' : Below w0.heap.size w0 W := hw0.trans (hW.mono hw0.size)
  have hlen : B.Land.length = B.Share.length := by have := hval.2.2.1; have := hval.2.2.2.1; omega
  cases hland : B.Land.getD i false with
  | true =>
    refine (flows1_land 8 l A bb ib w0 B v i J Jx (by omega) hY W hb' hi' hv hw0' (by omega) h0 hland).mono ?_
    rintro e W' ⟨hv, ⟨xs, h1, h2⟩ | ⟨pre, h⟩⟩
    · exact ⟨hv, .inl ⟨xs, h1, h2⟩⟩
    · exact ⟨hv, .inr ⟨pre, trivial, h⟩⟩
  | false =>
    refine (flows1_water 8 l A bb ib w0 B v i J Jx (by omega) hY hJg W hb' (Nat.lt_of_lt_of_le hib hW.size) hi' hv hw0' hA hval hin h0 hland).mono ?_
    rintro e W' ⟨hv, ⟨xs, h1, h2⟩ | ⟨pre, h⟩⟩
    · exact ⟨hv, .inl ⟨xs, h1, h2⟩⟩
    · exact ⟨hv, .inr ⟨pre, trivial, h⟩⟩

/-- A slick in memory made since base. -/
def SlkNew (base : Nat) (w : World) (v : Value) (s : Slk) : Prop :=
  ∃ ao c, v = .agg #[.int .i64 s.K, .slice ao s.Oil.length c, .int .i64 s.Away] ∧ IntsAt w ao s.Oil ∧ s.Oil.length < 1152921504606846976 ∧ ∀ a, ao = some a → base ≤ a.block
theorem SlkNew.at {base : Nat} {w : World} {v : Value} {s : Slk} (h : SlkNew base w v s) : SlkAt w v s := by obtain ⟨ao, c, h1, h2, h3, _⟩ := h; exact ⟨ao, c, h1, h2, h3⟩
theorem CellsAt.setCell {w : World} {ao : Option Addr} {cs : List Value} (h : CellsAt w ao cs) {p : Addr} (hne : ∀ a, ao = some a → a.block ≠ p.block) (v : Value) : CellsAt (w.setCell p v) ao cs := by
  intro hc
  obtain ⟨b, off, rfl, hlt, hh⟩ := h hc
  refine ⟨b, off, rfl, by simpa [World.setCell] using hlt, fun i hi => ?_⟩
  rw [World.cell?_of_block (w := w) (a := ⟨b, off + i, none⟩) (Below.heap_setCell _ _ _ _ (hne ⟨b, off, none⟩ rfl))]; exact hh i hi
theorem IntsAt.setCell {w : World} {ao : Option Addr} {l : List Int} (h : IntsAt w ao l) {p : Addr} (hne : ∀ a, ao = some a → a.block ≠ p.block) (v : Value) : IntsAt (w.setCell p v) ao l := CellsAt.setCell h hne v

/-! ### The plain law of a move -/
def stepF (oil : Int) (st : List Int × Int) (x : Int × Int) : List Int × Int :=
  if x.1 = -1 then (st.1, st.2 + oil * x.2) else (st.1.set x.1.toNat (st.1.getD x.1.toNat 0 + oil * x.2), st.2)
def rowF (B : Bay) (oil : List Int) (st : List Int × Int) (i : Nat) : List Int × Int := (flowsL B i).foldl (stepF (oil.getD i 0)) st
def mvUp (B : Bay) (s : Slk) (k : Nat) : List Int × Int := (List.range k).foldl (rowF B s.Oil) (List.replicate s.Oil.length 0, 16 * s.Away)
def mv (B : Bay) (s : Slk) : Slk := ⟨s.K + 1, (mvUp B s s.Oil.length).1, (mvUp B s s.Oil.length).2⟩
theorem mvUp_succ (B : Bay) (s : Slk) (k : Nat) : mvUp B s (k + 1) = rowF B s.Oil (mvUp B s k) k := by
  unfold mvUp; rw [List.range_succ, List.foldl_append]; rfl
theorem stepF_len (oil : Int) (st : List Int × Int) (x : Int × Int) : (stepF oil st x).1.length = st.1.length := by
  unfold stepF; split <;> simp
theorem foldF_len (oil : Int) : ∀ (xs : List (Int × Int)) (st : List Int × Int), (xs.foldl (stepF oil) st).1.length = st.1.length
  | [], _ => rfl
  | x :: xs, st => by rw [List.foldl_cons, foldF_len oil xs, stepF_len]
theorem mvUp_len (B : Bay) (s : Slk) (k : Nat) : (mvUp B s k).1.length = s.Oil.length := by
  induction k with
  | zero => simp [mvUp]
  | succ k ih => rw [mvUp_succ]; unfold rowF; rw [foldF_len, ih]

/-- The flows of a cell go to cells, or away. -/
theorem flow_bd {B : Bay} {i : Nat} (hval : validP B) (hin : i < B.Share.length) : ∀ x ∈ flowsL B i, (x.1 = -1 ∨ ∃ t : Nat, x.1 = t ∧ t < B.Share.length) ∧ 0 ≤ x.2 ∧ x.2 ≤ 16 := by
  intro x hx
  unfold flowsL at hx
  split at hx
  · simp only [List.mem_singleton] at hx
    subst hx
    exact ⟨.inr ⟨i, rfl, hin⟩, by simp, by simp⟩
  · unfold waterUp at hx
    obtain ⟨k, hk, hx⟩ := List.mem_filterMap.1 hx
    have hk5 : k < 5 := List.mem_range.1 hk
    by_cases hp : 0 < flowPart B i k
    · rw [if_pos hp] at hx
      simp only [Option.some.injEq] at hx
      subst hx
      have hr := (hval.2.2.2.2 i hin).1
      have hp16 : flowPart B i k ≤ 16 := by
        have h6 : k = 0 ∨ k = 1 ∨ k = 2 ∨ k = 3 ∨ k = 4 := by omega
        unfold flowPart
        rcases h6 with rfl | rfl | rfl | rfl | rfl
        · exact hr.1.2
        · exact hr.2.1.2
        · exact hr.2.2.1.2
        · exact hr.2.2.2.1.2
        · exact hr.2.2.2.2.2
      refine ⟨?_, by show 0 ≤ flowPart B i k; omega, hp16⟩
      show flowTo B i k = -1 ∨ ∃ t : Nat, flowTo B i k = t ∧ t < B.Share.length
      unfold flowTo
      split
      · rename_i hins
        right
        unfold insideB at hins
        rw [Bool.and_eq_true] at hins
        simp only [betwB, decide_eq_true_eq] at hins
        obtain ⟨⟨a1, a2⟩, b1, b2⟩ := hins
        have hW := hval.1
        have e := Int.emod_add_mul_ediv (i : Int) B.W
        have hS := hval.2.2.2.1
        generalize (i : Int) % B.W = x at *
        generalize (i : Int) / B.W = y at *
        generalize dxs.getD k 0 = dx at *
        generalize dys.getD k 0 = dy at *
        have e2 : (i : Int) + dx + dy * B.W = (x + dx) + B.W * (y + dy) := by rw [← e, Int.mul_add, Int.mul_comm dy]; omega
        have h0 : 0 ≤ B.W * (y + dy) := Int.mul_nonneg (by omega) b1
        have h1 : B.W * (y + dy) ≤ B.W * (B.H - 1) := Int.mul_le_mul_of_nonneg_left b2 (by omega)
        rw [Int.mul_sub, Int.mul_one] at h1
        refine ⟨((i : Int) + dx + dy * B.W).toNat, by omega, by omega⟩
      · exact .inl rfl
    · rw [if_neg hp] at hx; cases hx
/-- Rough bounds. -/
def bdd (M : Int) (st : List Int × Int) (c : Nat) : Prop := (∀ j, 0 ≤ st.1.getD j 0 ∧ st.1.getD j 0 ≤ c * (16 * M)) ∧ 0 ≤ st.2 ∧ st.2 ≤ (c + 1) * (16 * M)
theorem bdd_step {M oil : Int} {st : List Int × Int} {c : Nat} {x : Int × Int} (h : bdd M st c) (h0 : 0 ≤ oil) (h1 : oil ≤ M) (hx : 0 ≤ x.2 ∧ x.2 ≤ 16) : bdd M (stepF oil st x) (c + 1) := by
  have ha : 0 ≤ oil * x.2 := Int.mul_nonneg h0 hx.1
  have hb : oil * x.2 ≤ 16 * M := by
    have h2 : oil * x.2 ≤ oil * 16 := Int.mul_le_mul_of_nonneg_left hx.2 h0
    omega
  have hc : ((c + 1 : Nat) : Int) * (16 * M) = c * (16 * M) + 16 * M := by simp only [Int.natCast_add, Int.add_mul]; omega
  have hd : (((c + 1 : Nat) : Int) + 1) * (16 * M) = (c + 1) * (16 * M) + 16 * M := by simp only [Int.natCast_add, Int.add_mul]; omega
  have hM : 0 ≤ 16 * M := by omega
  obtain ⟨h2, h3, h4⟩ := h
  unfold stepF
  split
  · refine ⟨fun j => ?_, ?_, ?_⟩
    · have := h2 j; show 0 ≤ st.1.getD j 0 ∧ st.1.getD j 0 ≤ _; rw [hc]; omega
    · show 0 ≤ st.2 + oil * x.2; omega
    · show st.2 + oil * x.2 ≤ _; rw [hd]; omega
  · refine ⟨fun j => ?_, ?_, ?_⟩
    · show 0 ≤ (st.1.set x.1.toNat (st.1.getD x.1.toNat 0 + oil * x.2)).getD j 0 ∧ _
      rw [hc]
      have hj := h2 j
      have ht := h2 x.1.toNat
      by_cases e : x.1.toNat = j
      · by_cases hl : j < st.1.length
        · have : (st.1.set x.1.toNat (st.1.getD x.1.toNat 0 + oil * x.2)).getD j 0 = st.1.getD x.1.toNat 0 + oil * x.2 := by
            rw [List.getD_eq_getElem?_getD, List.getElem?_set, if_pos e, if_pos (by omega)]; rfl
          rw [this]; omega
        · have : (st.1.set x.1.toNat (st.1.getD x.1.toNat 0 + oil * x.2)).getD j 0 = 0 := by
            rw [List.getD_eq_getElem?_getD, List.getElem?_eq_none (by simp; omega)]; rfl
          rw [this]; omega
      · have : (st.1.set x.1.toNat (st.1.getD x.1.toNat 0 + oil * x.2)).getD j 0 = st.1.getD j 0 := by
          rw [List.getD_eq_getElem?_getD, List.getElem?_set, if_neg e, ← List.getD_eq_getElem?_getD]
        rw [this]; omega
    · exact h3
    · show st.2 ≤ _; rw [hd]; omega
theorem bdd_fold {M oil : Int} (h0 : 0 ≤ oil) (h1 : oil ≤ M) : ∀ (xs : List (Int × Int)) {st : List Int × Int} {c : Nat}, bdd M st c → (∀ x ∈ xs, 0 ≤ x.2 ∧ x.2 ≤ 16) → bdd M (xs.foldl (stepF oil) st) (c + xs.length)
  | [], _, _, h, _ => h
  | x :: xs, st, c, h, hx => by
    have := bdd_fold h0 h1 xs (bdd_step h h0 h1 (hx x (by simp))) (fun y hy => hx y (by simp [hy]))
    rw [List.foldl_cons, List.length_cons]
    rwa [show c + (xs.length + 1) = c + 1 + xs.length from by omega]

theorem flowsL_len (B : Bay) (i : Nat) : (flowsL B i).length ≤ 5 := by
  unfold flowsL; split
  · simp
  · exact waterUp_len B i 5
theorem bdd_mono {M : Int} {st : List Int × Int} {c c' : Nat} (h : bdd M st c) (hM : 0 ≤ M) (hc : c ≤ c') : bdd M st c' := by
  have h1 : (c : Int) * (16 * M) ≤ c' * (16 * M) := Int.mul_le_mul_of_nonneg_right (by omega) (by omega)
  obtain ⟨a, b, d⟩ := h
  refine ⟨fun j => ⟨(a j).1, by have := (a j).2; omega⟩, b, ?_⟩
  rw [Int.add_mul] at d ⊢; omega
theorem mvUp_bd {B : Bay} {s : Slk} {M : Int} (hM : 0 ≤ M) (hval : validP B) (hlen : s.Oil.length = B.Share.length) (hO : ∀ k, k < s.Oil.length → 0 ≤ s.Oil.getD k 0 ∧ s.Oil.getD k 0 ≤ M) (hA : 0 ≤ s.Away ∧ s.Away ≤ M) :
    ∀ k, k ≤ s.Oil.length → bdd M (mvUp B s k) (5 * k) := by
  intro k
  induction k with
  | zero =>
    intro _
    refine ⟨fun j => ?_, ?_, ?_⟩
    · have : (List.replicate s.Oil.length (0 : Int)).getD j 0 = 0 := by
        rw [List.getD_eq_getElem?_getD, List.getElem?_replicate]; split <;> rfl
      show 0 ≤ (List.replicate s.Oil.length (0 : Int)).getD j 0 ∧ (List.replicate s.Oil.length (0 : Int)).getD j 0 ≤ _
      rw [this]; simp
    · show 0 ≤ 16 * s.Away; omega
    · show 16 * s.Away ≤ _; simp; omega
  | succ k ih =>
    intro hk
    rw [mvUp_succ]
    have h := hO k (by omega)
    exact bdd_mono (bdd_fold h.1 h.2 (flowsL B k) (ih (by omega)) (fun x hx => (flow_bd hval (by omega) x hx).2)) hM (by have := flowsL_len B k; omega)
end Go.Proofs.Ytnafllhgjidbkaa

namespace Go.Proofs.Ytnafllhgjidbkaa
open Go.RowKit
set_option linter.unusedVariables false
set_option linter.unusedSimpArgs false

theorem sixteen_any (n : Nat) (w : World) (h5 : n ≤ 5) :
    Calls Try.prog 32 #[.int .i64 n] w fun e w' => e = .returned (.int .i64 (16 ^ n)) ∧ w = w' := by
  go_enter Try.func32, Try.ntmps32
  go_wp2
  go_loop [3, 4] (fun o i => ∃ k : Nat, k ≤ n ∧ i = .int .i64 k ∧ o = .int .i64 (16 ^ k)) (fun _ i => n - (intOf i).toNat)
  case atStart => exact ⟨0, Nat.zero_le _, rfl, rfl⟩
  case round =>
    obtain ⟨k, hk, rfl, rfl⟩ := hrel
    by_cases hlt : k < n
    · have hb := pow_bd k (by omega) (by omega)
      rw [Int.toNat_natCast] at hb
      have hs : Hid ((16 : Int) ^ (k + 1) = 16 ^ k * 16) := Int.pow_succ 16 k
      generalize hp : (16 : Int) ^ k = p at hb hs
      clear hp
      go_wp2
      go_round
      case rel => exact ⟨k + 1, by omega, by go_num, by rw [hs.out]⟩
      case measure => simp [intOf]; omega
    · obtain rfl : k = n := by omega
      go_wp2
      go_ret
      exact ⟨rfl, rfl⟩

/-- What a slick has in all, as the reference tells it. -/
def totP (s : Slk) : Prop := (0 ≤ s.K ∧ s.K ≤ 5) ∧ (0 ≤ s.Away ∧ s.Away ≤ lim s.K) ∧ amtB s.Oil (lim s.K) = true ∧ s.Away + s.Oil.sum ≤ lim s.K
open Classical in
noncomputable def totZ (s : Slk) : Int := if totP s then s.Away + s.Oil.sum else -1
theorem totZ_yes {s : Slk} (h : totP s) : totZ s = s.Away + s.Oil.sum := by simp [totZ, h]
theorem totZ_no {s : Slk} (h : ¬ totP s) : totZ s = -1 := by simp [totZ, h]

theorem take_sum_succ {l : List Int} {k : Nat} (h : k < l.length) : (l.take (k + 1)).sum = (l.take k).sum + l.getD k 0 := by
  rw [List.take_succ_eq_append_getElem h, List.sum_append]; simp [List.getD_eq_getElem?_getD, List.getElem?_eq_getElem h]

set_option maxHeartbeats 1000000 in
theorem total_any (sv : Value) (s : Slk) (w : World) (hs : SlkAt w sv s) (hn : s.Oil.length ≤ 100) :
    Calls Try.prog 68 #[sv] w fun e w' => e = .returned (.int .i64 (totZ s)) ∧ Below w.heap.size w w' := by
  obtain ⟨ao, c, rfl, hi, _⟩ := hs
  have hal : ∀ o, Below w.heap.size w (w.alloc o) := fun o => (Below.refl _ _).alloc (Nat.le_refl _) _
  by_cases hK : s.K < 0
  · have hno := Lib.hid (totZ_no (s := s) (fun h => by have := h.1; omega))
    go_enter Try.func68, Try.ntmps68
    go_wp2
    go_ret
    exact ⟨ret_int hno.out.symm, hal _⟩
  by_cases hK5 : 5 < s.K
  · have hno := Lib.hid (totZ_no (s := s) (fun h => by have := h.1; omega))
    go_enter Try.func68, Try.ntmps68
    go_wp2
    go_ret
    exact ⟨ret_int hno.out.symm, hal _⟩
  obtain ⟨K, hKe⟩ : ∃ K : Nat, s.K = K := ⟨s.K.toNat, by omega⟩
  obtain ⟨q1, q2⟩ := pow_bd s.K (by omega) (by omega)
  have hlim : lim s.K = 36000 * 16 ^ K := by unfold lim; rw [hKe]; rfl
  have h16 := fun W => sixteen_any K W (by omega)
  rw [hKe, Int.toNat_natCast] at q1 q2
  generalize (16 : Int) ^ K = p at q1 q2 hlim h16
  have HL := Lib.hid hlim
  have HKE := Lib.hid hKe
  have hK0 : (0 : Int) ≤ K := by omega
  have hK5' : (K : Int) ≤ 5 := by omega
  clear hlim
  by_cases hA : s.Away < 0
  · have hno := Lib.hid (totZ_no (s := s) (fun h => by have := h.2.1; omega))
    go_enter Try.func68, Try.ntmps68
    go_wp2_with (first | (go_at_call 32; refine (h16 _).mono ?_; rintro e w' ⟨rfl, rfl⟩))
    go_ret
    exact ⟨ret_int hno.out.symm, hal _⟩
  by_cases hA5 : 36000 * p < s.Away
  · have hno := Lib.hid (totZ_no (s := s) (fun h => by have := h.2.1; rw [HL.out] at this; omega))
    go_enter Try.func68, Try.ntmps68
    go_wp2_with (first | (go_at_call 32; refine (h16 _).mono ?_; rintro e w' ⟨rfl, rfl⟩))
    go_ret
    exact ⟨ret_int hno.out.symm, hal _⟩
  go_enter Try.func68, Try.ntmps68
  go_wp2_with (first | (go_at_call 32; refine (h16 _).mono ?_; rintro e w' ⟨rfl, rfl⟩))
  go_loop [4, 5] (fun t i => ∃ k : Nat, k ≤ s.Oil.length ∧ i = .int .i64 k ∧ t = .int .i64 (s.Away + (s.Oil.take k).sum) ∧ (∀ j, j < k → okB (36000 * p) (s.Oil.getD j 0) = true) ∧ 0 ≤ (s.Oil.take k).sum ∧ (s.Oil.take k).sum ≤ k * 37748736000) (fun _ i => s.Oil.length - (intOf i).toNat)
  case atStart => exact ⟨0, Nat.zero_le _, rfl, by simp, by intro j hj; omega, by simp, by simp⟩
  case round =>
    obtain ⟨k, hk, rfl, rfl, hall, hs0, hs1⟩ := hrel
    have HALL := Lib.hid hall
    clear hall
    have hal1 := (hi.below (Nat.le_refl _) (hal (.cells #[.int .i64 s.K, .slice ao s.Oil.length c, .int .i64 s.Away] 28)))
    by_cases hlt : k < s.Oil.length
    · obtain ⟨bs, os, rfl, hbs, hcs⟩ := hi.get hlt
      have hts := take_sum_succ hlt
      generalize hx : s.Oil.getD k 0 = x at hcs hts
      generalize (s.Oil.take k).sum = t at hs0 hs1 hts
      have HX := Lib.hid hx
      have HT := Lib.hid hts
      clear hx hts hal1 hi
      by_cases hx0 : x < 0
      · have hno := Lib.hid (totZ_no (s := s) (fun h => by have := okB_iff.1 (amtB_iff.1 h.2.2.1 k hlt); rw [HX.out] at this; omega))
        go_wp2
        go_ret
        exact ⟨ret_int hno.out.symm, hal _⟩
      by_cases hx5 : 36000 * p < x
      · have hno := Lib.hid (totZ_no (s := s) (fun h => by have := okB_iff.1 (amtB_iff.1 h.2.2.1 k hlt); rw [HX.out, HL.out] at this; omega))
        go_wp2
        go_ret
        exact ⟨ret_int hno.out.symm, hal _⟩
      go_wp2
      go_round
      case rel =>
        refine ⟨k + 1, by omega, by go_num, by rw [HT.out]; go_num, ?_, by rw [HT.out]; omega, by rw [HT.out]; omega⟩
        intro j hj
        by_cases hjk : j = k
        · subst hjk; rw [HX.out]; exact okB_iff.2 ⟨by omega, by omega⟩
        · exact HALL.out j (by omega)
      case measure => simp [intOf]; omega
    · obtain rfl : k = s.Oil.length := by omega
      rw [List.take_length] at hs0 hs1 ⊢
      have hamt : amtB s.Oil (lim s.K) = true := amtB_iff.2 (by rw [HL.out]; exact HALL.out)
      have HAMT := Lib.hid hamt
      clear hamt hal1 hi
      by_cases hsum : 36000 * p < s.Away + s.Oil.sum
      · have hno := Lib.hid (totZ_no (s := s) (fun h => by have := h.2.2.2; rw [HL.out] at this; omega))
        go_wp2
        go_ret
        exact ⟨ret_int hno.out.symm, hal _⟩
      · have hyes := Lib.hid (totZ_yes (s := s) ⟨⟨by omega, by omega⟩, ⟨by omega, by rw [HL.out]; omega⟩, HAMT.out, by rw [HL.out]; omega⟩)
        go_wp2
        go_ret
        exact ⟨ret_int hyes.out.symm, hal _⟩
end Go.Proofs.Ytnafllhgjidbkaa

namespace Go.Proofs.Ytnafllhgjidbkaa
open Go.RowKit
set_option linter.unusedVariables false
set_option linter.unusedSimpArgs false

theorem amt_range {l : List Int} {M : Int} (h : amtB l M = true) : ∀ k, k < l.length → 0 ≤ l.getD k 0 ∧ l.getD k 0 ≤ M := fun k hk => okB_iff.1 (amtB_iff.1 h k hk)
theorem lim_nonneg (K : Int) : 0 ≤ lim K := Int.mul_nonneg (by omega) (Int.pow_nonneg (by omega))
theorem fits_tot {B : Bay} {s : Slk} (hlen : (s.Oil.length : Int) = B.W * B.H) : fitsP B s ↔ totP s := by
  constructor
  · rintro ⟨h1, _, h3, h4, h5⟩
    have := sum_bd s.Oil (amt_range h3)
    exact ⟨h1, ⟨h4, by omega⟩, h3, by omega⟩
  · rintro ⟨h1, ⟨h2, _⟩, h3, h4⟩
    exact ⟨h1, hlen, h3, h2, by omega⟩
theorem totZ_nonneg {s : Slk} : 0 ≤ totZ s ↔ totP s := by
  constructor
  · intro h
    refine Classical.byContradiction fun hn => ?_
    rw [totZ_no hn] at h; omega
  · intro h
    rw [totZ_yes h]
    have := sum_bd s.Oil (amt_range h.2.2.1)
    have := h.2.1.1
    omega

theorem is_any (v sv : Value) (B : Bay) (s : Slk) (w : World) (hv : BayAt w v B) (hs : SlkAt w sv s) (hval : validP B) :
    Calls Try.prog 27 #[v, sv] w fun e w' => e = .returned (.bool (fitsB B s)) ∧ Below w.heap.size w w' := by
  obtain ⟨la, lc, sa, sc, rfl, hl, hsh, hll, hsl⟩ := hv
  have hs0 := hs
  obtain ⟨ao, c, rfl, hi, hn⟩ := hs
  obtain ⟨hp1, hp2⟩ := mul36 hval.1.1 hval.1.2 hval.2.1.1 hval.2.1.2
  have hbx : ∀ o1 o2, Below w.heap.size w ((w.alloc o1).alloc o2) := fun o1 o2 => ((Below.refl _ _).alloc (Nat.le_refl _) _).alloc (by simp) _
  by_cases hlen : (s.Oil.length : Int) = B.W * B.H
  · have hb : ((s.Oil.length : Int) == B.W * B.H) = true := by simp [hlen]
    have HC := Lib.hid (fun W hW => total_any _ s W (hs0.below (Nat.le_refl _) hW) (by omega))
    have HF : Hid (fitsB B s = decide (0 ≤ totZ s)) := by
      unfold Hid fitsB
      by_cases h : totP s
      · simp [(fits_tot hlen).2 h, totZ_nonneg.2 h]
      · simp [mt (fits_tot hlen).1 h, mt totZ_nonneg.1 h]
    clear hl hsh hs0 hi hlen hval
    go_enter Try.func27, Try.ntmps27
    go_wp2_with (first | (go_at_call 68; refine (HC.out _ (hbx _ _)).mono ?_; rintro e w1 ⟨rfl, hb1⟩))
    go_ret
    exact ⟨ret_bool (by rw [HF.out]), (hbx _ _).trans (hb1.mono (by simp <;> omega))⟩
  · have hb : ((s.Oil.length : Int) == B.W * B.H) = false := by simp [hlen]
    have hf := Lib.hid (fitsB_false (B := B) (s := s) (fun h => hlen h.2.1))
    clear hl hsh hs0 hi hlen hval
    go_enter Try.func27, Try.ntmps27
    go_wp2
    go_ret
    exact ⟨ret_bool hf.out.symm, hbx _ _⟩
end Go.Proofs.Ytnafllhgjidbkaa

namespace Go.Proofs.Ytnafllhgjidbkaa
open Go.RowKit
set_option linter.unusedVariables false
set_option linter.unusedSimpArgs false

def upSum (x : Five) (k : Nat) : Int := (([x.1, x.2.1, x.2.2.1, x.2.2.2.1, x.2.2.2.2] : List Int).take k).sum
theorem upSum_succ (x : Five) {k : Nat} (hk : k < 5) : upSum x (k + 1) = upSum x k + x.at k := by
  unfold upSum Five.at; exact take_sum_succ (by simpa using hk)
theorem upSum_5 (x : Five) : upSum x 5 = x.sum := by unfold upSum Five.sum; simp; omega
theorem ok_iff_at (x : Five) : x.ok ↔ ∀ k, k < 5 → inR (x.at k) := by
  constructor
  · intro h k hk
    have h6 : k = 0 ∨ k = 1 ∨ k = 2 ∨ k = 3 ∨ k = 4 := by omega
    rcases h6 with rfl | rfl | rfl | rfl | rfl
    · exact h.1
    · exact h.2.1
    · exact h.2.2.1
    · exact h.2.2.2.1
    · exact h.2.2.2.2
  · intro h; exact ⟨h 0 (by omega), h 1 (by omega), h 2 (by omega), h 3 (by omega), h 4 (by omega)⟩

set_option maxHeartbeats 2000000 in
theorem rvalid_any (v : Value) (B : Bay) (w : World) (hv : BayAt w v B) :
    Calls Try.prog 26 #[v] w fun e w' => e = .returned (.bool (validB B)) ∧ Below w.heap.size w w' := by
  obtain ⟨la, lc, sa, sc, rfl, hl, hs, hll, hsl⟩ := hv
  have hal : ∀ o, Below w.heap.size w (w.alloc o) := fun o => (Below.refl _ _).alloc (Nat.le_refl _) _
  by_cases h1 : B.W < 1
  · have hno := Lib.hid (validB_false (B := B) (fun h => by have := h.1; omega))
    go_enter Try.func26, Try.ntmps26
    go_wp2
    go_ret
    exact ⟨ret_bool hno.out.symm, hal _⟩
  by_cases h2 : 6 < B.W
  · have hno := Lib.hid (validB_false (B := B) (fun h => by have := h.1; omega))
    go_enter Try.func26, Try.ntmps26
    go_wp2
    go_ret
    exact ⟨ret_bool hno.out.symm, hal _⟩
  by_cases h3 : B.H < 1
  · have hno := Lib.hid (validB_false (B := B) (fun h => by have := h.2.1; omega))
    go_enter Try.func26, Try.ntmps26
    go_wp2
    go_ret
    exact ⟨ret_bool hno.out.symm, hal _⟩
  by_cases h4 : 6 < B.H
  · have hno := Lib.hid (validB_false (B := B) (fun h => by have := h.2.1; omega))
    go_enter Try.func26, Try.ntmps26
    go_wp2
    go_ret
    exact ⟨ret_bool hno.out.symm, hal _⟩
  obtain ⟨hp1, hp2⟩ := mul36 (show 1 ≤ B.W by omega) (show B.W ≤ 6 by omega) (show 1 ≤ B.H by omega) (show B.H ≤ 6 by omega)
  by_cases hn1 : (B.Land.length : Int) = B.W * B.H
  case neg =>
    have hno := Lib.hid (validB_false (B := B) (fun h => hn1 h.2.2.1))
    have hb1 : ((B.Land.length : Int) != B.W * B.H) = true := by simpa using hn1
    clear hn1
    go_enter Try.func26, Try.ntmps26
    go_wp2
    go_ret
    exact ⟨ret_bool hno.out.symm, hal _⟩
  have hb1 : ((B.Land.length : Int) != B.W * B.H) = false := by simp [hn1]
  by_cases hn2 : (B.Share.length : Int) = B.W * B.H
  case neg =>
    have hno := Lib.hid (validB_false (B := B) (fun h => hn2 h.2.2.2.1))
    have hb2 : ((B.Share.length : Int) != B.W * B.H) = true := by simpa using hn2
    clear hn1 hn2
    go_enter Try.func26, Try.ntmps26
    go_wp2
    go_ret
    exact ⟨ret_bool hno.out.symm, hal _⟩
  have hb2 : ((B.Share.length : Int) != B.W * B.H) = false := by simp [hn2]
  have HP1 := Lib.hid hn1
  have HP2 := Lib.hid hn2
  have hlen : B.Land.length = B.Share.length := by omega
  have HL := Lib.hid hlen
  clear hn1 hn2 hlen
  go_enter Try.func26, Try.ntmps26
  go_wp2
  go_loop [3] (fun c => ∃ k : Nat, k ≤ B.Land.length ∧ c = .int .i64 k ∧ (∀ i, i < k → rowOk (B.Land.getD i false) (B.Share.getD i (0,0,0,0,0)))) (fun c => B.Land.length - (intOf c).toNat)
  case atStart => exact ⟨0, Nat.zero_le _, rfl, by intro i hi; omega⟩
  case round =>
    obtain ⟨k, hk, rfl, hok⟩ := hrel
    have HOK := Lib.hid hok
    clear hok
    by_cases hlt : k < B.Land.length
    · obtain ⟨bs, os, rfl, hbs, hcs⟩ := hs.get (show k < B.Share.length by have := HL.out; omega)
      obtain ⟨bl, ol, rfl, hbl, hcl⟩ := hl.get hlt
      generalize hx : B.Share.getD k (0,0,0,0,0) = x at hcs
      generalize hland : B.Land.getD k false = land at hcl
      have hks : (k : Int) < B.Share.length := by have := HL.out; omega
      have HX := Lib.hid hx
      have HLd := Lib.hid hland
      have HCS : Hid (∀ j, j < 5 → w.cell? ⟨bs, os + k * 5 + j, none⟩ = some (.int .i64 (x.at j))) := fun j hj => by rw [Nat.add_assoc, hcs j hj, five_at x j hj]
      clear hx hland hcs hl hs
      go_wp2
      go_loop [4, 5] (fun t i => ∃ j : Nat, j ≤ 5 ∧ i = .int .i64 j ∧ t = .int .i64 (upSum x j) ∧ (∀ i, i < j → inR (x.at i)) ∧ 0 ≤ upSum x j ∧ upSum x j ≤ 16 * j) (fun _ i => 5 - (intOf i).toNat)
      case atStart => exact ⟨0, by omega, rfl, by simp [upSum], by intro i hi; omega, by simp [upSum], by simp [upSum]⟩
      case round =>
        obtain ⟨j, hj, rfl, rfl, hin, hs0, hs16⟩ := hrel
        have HIN := Lib.hid hin
        clear hin
        by_cases hlj : j < 5
        · have hcj := HCS.out j hlj
          have hsu := upSum_succ x hlj
          generalize hy : x.at j = y at hcj hsu
          generalize upSum x j = t at hs0 hs16 hsu
          have HY := Lib.hid hy
          have HSU := Lib.hid hsu
          clear hy hsu
          by_cases hy0 : y < 0
          · have hno := Lib.hid (validB_false (B := B) (fun h => by
              have := (ok_iff_at _).1 (h.2.2.2.2 k (by omega)).1 j hlj; rw [HX.out, HY.out] at this; have := this.1; omega))
            go_wp2
            go_ret
            exact ⟨ret_bool hno.out.symm, hal _⟩
          by_cases hy16 : 16 < y
          · have hno := Lib.hid (validB_false (B := B) (fun h => by
              have := (ok_iff_at _).1 (h.2.2.2.2 k (by omega)).1 j hlj; rw [HX.out, HY.out] at this; have := this.2; omega))
            go_wp2
            go_ret
            exact ⟨ret_bool hno.out.symm, hal _⟩
          go_wp2
          go_round
          case rel =>
            refine ⟨j + 1, by omega, by go_num, by rw [HSU.out], ?_, by rw [HSU.out]; omega, by rw [HSU.out]; omega⟩
            intro i hi
            by_cases hij : i = j
            · subst hij; rw [HY.out]; exact ⟨by omega, by omega⟩
            · exact HIN.out i (by omega)
          case measure => simp [intOf]; omega
        · obtain rfl : j = 5 := by omega
          have h5 : x.ok := (ok_iff_at x).2 HIN.out
          rw [upSum_5] at hs0 hs16 ⊢
          have H5 := Lib.hid h5
          clear h5
          generalize hS : x.sum = S at hs0 hs16
          have HS := Lib.hid hS
          clear hS
          have hrow : Hid (rowOk land x ↔ S = if land then 0 else 16) := ⟨fun h => HS.out ▸ h.2, fun h => ⟨H5.out, HS.out.trans h⟩⟩
          by_cases hgood : S = if land then 0 else 16
          · have hr : Hid (rowOk (B.Land.getD k false) (B.Share.getD k (0,0,0,0,0))) := by rw [HX.out, HLd.out]; exact hrow.out.2 hgood
            cases land
            · obtain rfl : S = 16 := hgood
              go_wp2
              go_round
              case rel =>
                refine ⟨k + 1, by omega, by go_num, ?_⟩
                intro i hi
                by_cases hik : i = k
                · subst hik; exact hr.out
                · exact HOK.out i (by omega)
              case measure => simp [intOf]; omega
            · obtain rfl : S = 0 := hgood
              go_wp2
              go_round
              case rel =>
                refine ⟨k + 1, by omega, by go_num, ?_⟩
                intro i hi
                by_cases hik : i = k
                · subst hik; exact hr.out
                · exact HOK.out i (by omega)
              case measure => simp [intOf]; omega
          · have hno : ¬ validP B := by
              intro hv
              have := hv.2.2.2.2 k (by omega)
              rw [HX.out, HLd.out] at this
              exact hgood (hrow.out.1 this)
            have hvf := Lib.hid (validB_false hno)
            clear hrow hno
            cases land
            · have hs1 : ((S : Int) != 16) = true := by simpa using hgood
              go_wp2
              go_ret
              exact ⟨ret_bool hvf.out.symm, hal _⟩
            · have hs1 : ((S : Int) != 0) = true := by simpa using hgood
              go_wp2
              go_ret
              exact ⟨ret_bool hvf.out.symm, hal _⟩
    · obtain rfl : k = B.Land.length := by omega
      have hyes := Lib.hid (validB_true (B := B) ⟨⟨by omega, by omega⟩, ⟨by omega, by omega⟩, HP1.out, HP2.out, fun i hi => HOK.out i (by have := HL.out; omega)⟩)
      go_wp2
      go_ret
      exact ⟨ret_bool hyes.out.symm, hal _⟩
end Go.Proofs.Ytnafllhgjidbkaa

namespace Go.Proofs.Ytnafllhgjidbkaa
open Go.RowKit
set_option linter.unusedVariables false
set_option linter.unusedSimpArgs false

/-! ### Nothing is lost behind a move -/
def totS (st : List Int × Int) : Int := st.1.sum + st.2
theorem sum_set : ∀ (l : List Int) (t : Nat) (v : Int), t < l.length → (l.set t v).sum = l.sum + v - l.getD t 0
  | [], t, v, h => by simp at h
  | x :: l, 0, v, h => by simp; omega
  | x :: l, t + 1, v, h => by
    have := sum_set l t v (by simpa using h)
    simp only [List.set_cons_succ, List.sum_cons, List.getD_cons_succ, this]; omega
theorem totS_step {oil : Int} {st : List Int × Int} {x : Int × Int} (hx : x.1 = -1 ∨ ∃ t : Nat, x.1 = t ∧ t < st.1.length) : totS (stepF oil st x) = totS st + oil * x.2 := by
  unfold stepF totS
  split
  · simp only; omega
  · rename_i h
    rcases hx with hx | ⟨t, hx, ht⟩
    · exact absurd hx h
    · simp only [hx, Int.toNat_natCast]
      rw [sum_set _ _ _ ht]; omega
def partSum (xs : List (Int × Int)) : Int := (xs.map (·.2)).sum
theorem totS_fold {oil : Int} : ∀ (xs : List (Int × Int)) {st : List Int × Int}, (∀ x ∈ xs, x.1 = -1 ∨ ∃ t : Nat, x.1 = t ∧ t < st.1.length) → totS (xs.foldl (stepF oil) st) = totS st + oil * partSum xs
  | [], st, _ => by simp [partSum]
  | x :: xs, st, h => by
    rw [List.foldl_cons, totS_fold xs (fun y hy => by rw [stepF_len]; exact h y (by simp [hy])), totS_step (h x (by simp))]
    simp only [partSum, List.map_cons, List.sum_cons, Int.mul_add]; omega
theorem partSum_append (a b : List (Int × Int)) : partSum (a ++ b) = partSum a + partSum b := by simp [partSum]
theorem partSum_water {B : Bay} {i : Nat} (hok : (B.Share.getD i (0,0,0,0,0)).ok) : ∀ k, k ≤ 5 → partSum (waterUp B i k) = upSum (B.Share.getD i (0,0,0,0,0)) k := by
  intro k
  induction k with
  | zero => intro _; simp [waterUp, partSum, upSum]
  | succ k ih =>
    intro hk
    rw [waterUp_succ, partSum_append, ih (by omega), upSum_succ _ (by omega)]
    have h0 := ((ok_iff_at _).1 hok k (by omega)).1
    have e : flowPart B i k = (B.Share.getD i (0,0,0,0,0)).at k := rfl
    split
    · simp [partSum, e]
    · simp only [partSum, List.map_nil, List.sum_nil]; omega
theorem partSum_flows {B : Bay} {i : Nat} (hval : validP B) (hi : i < B.Share.length) : partSum (flowsL B i) = 16 := by
  have hr := hval.2.2.2.2 i hi
  unfold flowsL
  split
  · simp [partSum]
  · rename_i hl
    rw [partSum_water hr.1 5 (by omega), upSum_5, hr.2, if_neg hl]
theorem mvUp_tot {B : Bay} {s : Slk} (hval : validP B) (hlen : s.Oil.length = B.Share.length) : ∀ k, k ≤ s.Oil.length → totS (mvUp B s k) = 16 * ((s.Oil.take k).sum + s.Away) := by
  intro k
  induction k with
  | zero =>
    intro _
    have : (List.replicate s.Oil.length (0 : Int)).sum = 0 := by simp
    show (List.replicate s.Oil.length (0 : Int)).sum + 16 * s.Away = _
    rw [this]; simp
  | succ k ih =>
    intro hk
    rw [mvUp_succ]; unfold rowF
    rw [totS_fold _ (fun x hx => by rw [mvUp_len, hlen]; exact (flow_bd hval (by omega) x hx).1), ih (by omega), partSum_flows hval (by omega), take_sum_succ (by omega)]
    omega
theorem mem_le_sum {l : List Int} (h : ∀ k, k < l.length → 0 ≤ l.getD k 0) : ∀ k, k < l.length → l.getD k 0 ≤ l.sum := by
  induction l with
  | nil => intro k hk; simp at hk
  | cons x l ih =>
    intro k hk
    have hx : 0 ≤ x := by simpa using h 0 (by simp)
    have hl : ∀ k, k < l.length → 0 ≤ l.getD k 0 := fun k hk => by simpa using h (k + 1) (by simpa using hk)
    have hs : 0 ≤ l.sum := by
      clear ih hk k
      induction l with
      | nil => simp
      | cons y l ih =>
        have := ih (fun k hk => by
          cases k with
          | zero => simpa using h 0 (by simp)
          | succ k => simpa using h (k + 2) (by simpa using hk)) (fun k hk => by simpa using hl (k + 1) (by simpa using hk))
        have := hl 0 (by simp)
        simp only [List.sum_cons]; simp at this; omega
    cases k with
    | zero => simp; omega
    | succ k =>
      have := ih hl k (by simpa using hk)
      simp only [List.getD_cons_succ, List.sum_cons]; omega
theorem lim_succ {K : Int} (h : 0 ≤ K) : lim (K + 1) = 16 * lim K := by
  unfold lim
  rw [show (K + 1).toNat = K.toNat + 1 from by omega, Int.pow_succ]; omega
theorem lim_mono {K : Int} (h0 : 0 ≤ K) (h4 : K ≤ 4) : lim K ≤ 2359296000 := by
  have : K = 0 ∨ K = 1 ∨ K = 2 ∨ K = 3 ∨ K = 4 := by omega
  rcases this with rfl | rfl | rfl | rfl | rfl <;> decide
theorem len_share {B : Bay} {s : Slk} (hval : validP B) (h : fitsP B s) : s.Oil.length = B.Share.length := by
  have := h.2.1; have := hval.2.2.2.1; omega
theorem mv_len (B : Bay) (s : Slk) : (mv B s).Oil.length = s.Oil.length := mvUp_len B s _
theorem mv_tot {B : Bay} {s : Slk} (hval : validP B) (hlen : s.Oil.length = B.Share.length) : (mv B s).Oil.sum + (mv B s).Away = 16 * (s.Oil.sum + s.Away) := by
  have := mvUp_tot hval hlen s.Oil.length (Nat.le_refl _)
  rw [List.take_length] at this; exact this
theorem mv_fits {B : Bay} {s : Slk} (hval : validP B) (h : fitsP B s) (h4 : s.K ≤ 4) : fitsP B (mv B s) := by
  have hlen := len_share hval h
  have hb := mvUp_bd (M := 2359296000) (by omega) hval hlen (fun k hk => by have := amt_range h.2.2.1 k hk; have := lim_mono h.1.1 h4; omega)
    (by have := h.2.2.2; have := sum_bd s.Oil (amt_range h.2.2.1); have := lim_mono h.1.1 h4; omega) s.Oil.length (Nat.le_refl _)
  have ht := mv_tot hval hlen
  have hl := lim_succ h.1.1
  have h16 := h.2.2.2
  have hsum : 0 ≤ (mv B s).Away := hb.2.1
  have hnn : ∀ k, k < (mv B s).Oil.length → 0 ≤ (mv B s).Oil.getD k 0 := fun k _ => (hb.1 k).1
  have hml := mem_le_sum hnn
  have hK : (mv B s).K = s.K + 1 := rfl
  refine ⟨by rw [hK]; have := h.1; omega, by rw [mv_len]; exact h.2.1, ?_, hsum, ?_⟩
  · rw [amtB_iff]; intro k hk
    have h1 := hnn k hk
    have h2 := hml k hk
    rw [okB_iff, hK, hl]; omega
  · rw [hK, hl]; omega

def mvN (B : Bay) (s : Slk) : Nat → Slk
  | 0 => s
  | n + 1 => mv B (mvN B s n)
theorem mvN_K (B : Bay) (s : Slk) (n : Nat) : (mvN B s n).K = s.K + n := by
  induction n with
  | zero => simp [mvN]
  | succ n ih => show (mvN B s n).K + 1 = _; rw [ih]; omega
theorem mvN_len (B : Bay) (s : Slk) (n : Nat) : (mvN B s n).Oil.length = s.Oil.length := by
  induction n with
  | zero => rfl
  | succ n ih => show (mv B (mvN B s n)).Oil.length = _; rw [mv_len, ih]
theorem mvN_fits {B : Bay} {s : Slk} (hval : validP B) (h : fitsP B s) : ∀ n : Nat, s.K + n ≤ 5 → fitsP B (mvN B s n) := by
  intro n
  induction n with
  | zero => intro _; exact h
  | succ n ih => intro hn; exact mv_fits hval (ih (by omega)) (by rw [mvN_K]; omega)
/-- What a move asks. -/
theorem move_pre {B : Bay} {s : Slk} (hval : validP B) (h : fitsP B s) (h4 : s.K ≤ 4) : s.Oil.length = B.Share.length ∧ (0 ≤ s.K ∧ s.K ≤ 4) ∧ (∀ k, k < s.Oil.length → 0 ≤ s.Oil.getD k 0 ∧ s.Oil.getD k 0 ≤ 2359296000) ∧ (0 ≤ s.Away ∧ s.Away ≤ 2359296000) := by
  have h1 := lim_mono h.1.1 h4
  have h2 := sum_bd s.Oil (amt_range h.2.2.1)
  have h3 := h.2.2.2
  exact ⟨len_share hval h, ⟨h.1.1, h4⟩, fun k hk => by have := amt_range h.2.2.1 k hk; omega, by omega⟩
end Go.Proofs.Ytnafllhgjidbkaa

namespace Go.Proofs.Ytnafllhgjidbkaa
open Go.RowKit
set_option linter.unusedVariables false
set_option linter.unusedSimpArgs false

def inBay (B : Bay) (x y : Int) : Prop := (0 ≤ x ∧ x < B.W) ∧ 0 ≤ y ∧ y < B.H
instance (B : Bay) (x y : Int) : Decidable (inBay B x y) := by unfold inBay; exact inferInstance
def shV (B : Bay) (x y : Int) (k : Nat) : Int × Nat := if inBay B x y then ((B.Share.getD (y * B.W + x).toNat (0,0,0,0,0)).at k, (y * B.W + x).toNat) else (0, 0)
theorem cell_in {B : Bay} (hval : validP B) {x y : Int} (h : inBay B x y) : 0 ≤ y * B.W ∧ y * B.W ≤ 36 ∧ (y * B.W + x).toNat < B.Share.length ∧ ((y * B.W + x).toNat : Int) = y * B.W + x := by
  obtain ⟨⟨h1, h2⟩, h3, h4⟩ := h
  have hW := hval.1
  have hS := hval.2.2.2.1
  have hp := mul36 hval.1.1 hval.1.2 hval.2.1.1 hval.2.1.2
  have h0 : 0 ≤ y * B.W := Int.mul_nonneg h3 (by omega)
  have h5 : y * B.W ≤ (B.H - 1) * B.W := Int.mul_le_mul_of_nonneg_right (by omega) (by omega)
  rw [Int.sub_mul, Int.mul_comm B.H, Int.one_mul] at h5
  omega

set_option maxHeartbeats 1000000 in
theorem share_any (v : Value) (B : Bay) (x y : Int) (k : Nat) (w : World) (hv : BayAt w v B) (hval : validP B) (hx : -1 ≤ x ∧ x ≤ 6) (hy : -1 ≤ y ∧ y ≤ 6) (hk : k < 5) :
    Calls Try.prog 96 #[v, .int .i64 x, .int .i64 y, .int .i64 k] w fun e w' => e = .returned (.tuple #[.int .i64 (shV B x y k).1, .int .i64 (shV B x y k).2]) ∧ Below w.heap.size w w' := by
  obtain ⟨la, lc, sa, sc, rfl, hl, hs, hll, hsl⟩ := hv
  have hal : ∀ o, Below w.heap.size w (w.alloc o) := fun o => (Below.refl _ _).alloc (Nat.le_refl _) _
  by_cases hin : inBay B x y
  · obtain ⟨h0, h36, hlt, hi⟩ := cell_in hval hin
    have hsv : shV B x y k = ((B.Share.getD (y * B.W + x).toNat (0,0,0,0,0)).at k, (y * B.W + x).toNat) := by unfold shV; rw [if_pos hin]
    generalize hn : (y * B.W + x).toNat = i at hlt hi hsv
    obtain ⟨bs, os, rfl, hbs, hcs⟩ := (hs.below (Nat.le_refl _) (hal (.cells #[.int .i64 B.W, .int .i64 B.H, .slice la B.Land.length lc, .slice sa B.Share.length sc] 25))).get hlt
    have hck := hcs k hk
    rw [five_at _ k hk, ← Nat.add_assoc] at hck
    generalize (B.Share.getD i (0,0,0,0,0)).at k = p at hck hsv
    have HSV := Lib.hid hsv
    obtain ⟨⟨i1, i2⟩, i3, i4⟩ := hin
    have hi' : y * B.W + x = (i : Int) := hi.symm
    have hkk : (k : Int) < 5 := by omega
    clear hs hl hcs hn hi hsv hval
    go_enter Try.func96, Try.ntmps96
    go_wp2
    go_quiet (fail)
    go_wp2
    go_ret2
    exact ⟨by rw [HSV.out]; rfl, (hal _).trans ⟨rfl, rfl, rfl, Nat.le_refl _, fun _ _ => rfl⟩⟩
  · have hsv : shV B x y k = (0, 0) := by unfold shV; rw [if_neg hin]
    have HSV := Lib.hid hsv
    clear hsv hs hl
    by_cases h1 : x < 0
    · clear hval
      go_enter Try.func96, Try.ntmps96
      go_wp2
      go_ret2
      exact ⟨by rw [HSV.out]; rfl, hal _⟩
    by_cases h2 : B.W ≤ x
    · clear hval
      go_enter Try.func96, Try.ntmps96
      go_wp2
      go_ret2
      exact ⟨by rw [HSV.out]; rfl, hal _⟩
    by_cases h3 : y < 0
    · clear hval
      go_enter Try.func96, Try.ntmps96
      go_wp2
      go_ret2
      exact ⟨by rw [HSV.out]; rfl, hal _⟩
    have h4 : B.H ≤ y := by
      refine Classical.byContradiction fun h => hin ⟨⟨by omega, by omega⟩, by omega, by omega⟩
    clear hval hin
    go_enter Try.func96, Try.ntmps96
    go_wp2
    go_ret2
    exact ⟨by rw [HSV.out]; rfl, hal _⟩
end Go.Proofs.Ytnafllhgjidbkaa

namespace Go.Proofs.Ytnafllhgjidbkaa
set_option linter.unusedVariables false
set_option linter.unusedSimpArgs false

/-! ### The move as the reference gathers it, and that it is the same -/
/-- The five terms of a cell: from the cell x, y itself and its neighbours. -/
def gx (i : Nat) (B : Bay) : Int := (i : Int) % B.W
def gy (i : Nat) (B : Bay) : Int := (i : Int) / B.W
def term (B : Bay) (oil : List Int) (x y : Int) (k : Nat) : Int := (shV B (x - dxs.getD k 0) (y - dys.getD k 0) k).1 * oil.getD (shV B (x - dxs.getD k 0) (y - dys.getD k 0) k).2 0
def landPart (B : Bay) (oil : List Int) (i : Nat) : Int := if B.Land.getD i false = true then 16 * oil.getD i 0 else 0
def gath (B : Bay) (oil : List Int) (i : Nat) : Int :=
  landPart B oil i + term B oil (gx i B) (gy i B) 0 + term B oil (gx i B) (gy i B) 1 + term B oil (gx i B) (gy i B) 2 + term B oil (gx i B) (gy i B) 3 + term B oil (gx i B) (gy i B) 4

/-! sums -/
def sumR (n : Nat) (f : Nat → Int) : Int := ((List.range n).map f).sum
theorem sumR_zero (f : Nat → Int) : sumR 0 f = 0 := rfl
theorem sumR_succ (n : Nat) (f : Nat → Int) : sumR (n + 1) f = sumR n f + f n := by simp [sumR, List.range_succ]
theorem sumR_congr {n : Nat} {f g : Nat → Int} (h : ∀ i, i < n → f i = g i) : sumR n f = sumR n g := by
  induction n with
  | zero => rfl
  | succ n ih => rw [sumR_succ, sumR_succ, ih (fun i hi => h i (by omega)), h n (by omega)]
theorem sumR_add (n : Nat) (f g : Nat → Int) : sumR n (fun i => f i + g i) = sumR n f + sumR n g := by
  induction n with
  | zero => rfl
  | succ n ih => rw [sumR_succ, sumR_succ, sumR_succ, ih]; omega
theorem sumR_mul (n : Nat) (c : Int) (f : Nat → Int) : sumR n (fun i => c * f i) = c * sumR n f := by
  induction n with
  | zero => simp [sumR]
  | succ n ih => rw [sumR_succ, sumR_succ, ih, Int.mul_add]
theorem sumR_const_zero (n : Nat) : sumR n (fun _ => 0) = 0 := by
  induction n with
  | zero => rfl
  | succ n ih => rw [sumR_succ, ih]; rfl
theorem sumR_one {n j : Nat} (f : Nat → Int) (hj : j < n) (h : ∀ i, i < n → i ≠ j → f i = 0) : sumR n f = f j := by
  induction n with
  | zero => omega
  | succ n ih =>
    rw [sumR_succ]
    by_cases e : j = n
    · subst e
      have : sumR j f = sumR j (fun _ => 0) := sumR_congr (fun i hi => h i (by omega) (by omega))
      rw [this, sumR_const_zero]; omega
    · rw [ih (by omega) (fun i hi hne => h i (by omega) hne), h n (by omega) (by omega)]; omega
theorem sumR_swap (n m : Nat) (f : Nat → Nat → Int) : sumR n (fun i => sumR m (fun k => f i k)) = sumR m (fun k => sumR n (fun i => f i k)) := by
  induction n with
  | zero => simp only [sumR_zero]; rw [sumR_const_zero]
  | succ n ih =>
    rw [sumR_succ, ih, ← sumR_add]
    exact sumR_congr (fun k _ => by rw [sumR_succ])

/-- How much of a cell's oil goes to another one. -/
def cf (xs : List (Int × Int)) (j : Int) : Int := (xs.map (fun x => if x.1 = j then x.2 else 0)).sum
theorem stepF_get {oil : Int} {st : List Int × Int} {x : Int × Int} (hx : x.1 = -1 ∨ ∃ t : Nat, x.1 = t ∧ t < st.1.length) (j : Nat) (hj : j < st.1.length) :
    (stepF oil st x).1.getD j 0 = st.1.getD j 0 + oil * (if x.1 = j then x.2 else 0) := by
  unfold stepF
  rcases hx with hx | ⟨t, hx, ht⟩
  · rw [if_pos hx, if_neg (by omega)]; simp
  · rw [if_neg (by omega), hx]
    simp only [Int.toNat_natCast]
    by_cases e : t = j
    · subst e
      rw [List.getD_eq_getElem?_getD, List.getElem?_set, if_pos rfl, if_pos ht]; simp
    · rw [List.getD_eq_getElem?_getD, List.getElem?_set, if_neg e, ← List.getD_eq_getElem?_getD, if_neg (by omega)]; simp
theorem foldF_get {oil : Int} (j : Nat) : ∀ (xs : List (Int × Int)) {st : List Int × Int}, (∀ x ∈ xs, x.1 = -1 ∨ ∃ t : Nat, x.1 = t ∧ t < st.1.length) → j < st.1.length →
    (xs.foldl (stepF oil) st).1.getD j 0 = st.1.getD j 0 + oil * cf xs j
  | [], st, _, _ => by simp [cf]
  | x :: xs, st, h, hj => by
    rw [List.foldl_cons, foldF_get j xs (fun y hy => by rw [stepF_len]; exact h y (by simp [hy])) (by rw [stepF_len]; exact hj), stepF_get (h x (by simp)) j hj]
    simp only [cf, List.map_cons, List.sum_cons, Int.mul_add]; omega
theorem mvUp_get {B : Bay} {s : Slk} (hval : validP B) (hlen : s.Oil.length = B.Share.length) {j : Nat} (hj : j < s.Oil.length) : ∀ k, k ≤ s.Oil.length → (mvUp B s k).1.getD j 0 = sumR k (fun i => s.Oil.getD i 0 * cf (flowsL B i) j) := by
  intro k
  induction k with
  | zero =>
    intro _
    show (List.replicate s.Oil.length (0 : Int)).getD j 0 = 0
    rw [List.getD_eq_getElem?_getD, List.getElem?_replicate]; split <;> rfl
  | succ k ih =>
    intro hk
    rw [mvUp_succ, sumR_succ, ← ih (by omega)]
    unfold rowF
    exact foldF_get j _ (fun x hx => by rw [mvUp_len, hlen]; exact (flow_bd hval (by omega) x hx).1) (by rw [mvUp_len]; exact hj)

theorem cf_append (a b : List (Int × Int)) (j : Int) : cf (a ++ b) j = cf a j + cf b j := by simp [cf]
theorem cf_water {B : Bay} {i : Nat} (hok : (B.Share.getD i (0,0,0,0,0)).ok) (j : Int) : ∀ k, k ≤ 5 → cf (waterUp B i k) j = sumR k (fun q => if flowTo B i q = j then flowPart B i q else 0) := by
  intro k
  induction k with
  | zero => intro _; simp [waterUp, cf, sumR]
  | succ k ih =>
    intro hk
    rw [waterUp_succ, cf_append, ih (by omega), sumR_succ]
    have h0 : 0 ≤ flowPart B i k := ((ok_iff_at _).1 hok k (by omega)).1
    by_cases hp : 0 < flowPart B i k
    · rw [if_pos hp]; simp [cf]
    · rw [if_neg hp]
      have : flowPart B i k = 0 := by omega
      simp [cf, this]
theorem land_zero {B : Bay} {i : Nat} (hval : validP B) (hi : i < B.Share.length) (hl : B.Land.getD i false = true) : ∀ k, k < 5 → flowPart B i k = 0 := by
  have hr := hval.2.2.2.2 i hi
  rw [hl] at hr
  obtain ⟨⟨h0, h1, h2, h3, h4⟩, hs⟩ := hr
  simp only [Five.sum, if_true] at hs
  unfold inR at h0 h1 h2 h3 h4
  intro k hk
  unfold flowPart
  have h6 : k = 0 ∨ k = 1 ∨ k = 2 ∨ k = 3 ∨ k = 4 := by omega
  rcases h6 with rfl | rfl | rfl | rfl | rfl
  · show (B.Share.getD i (0,0,0,0,0)).1 = 0; omega
  · show (B.Share.getD i (0,0,0,0,0)).2.1 = 0; omega
  · show (B.Share.getD i (0,0,0,0,0)).2.2.1 = 0; omega
  · show (B.Share.getD i (0,0,0,0,0)).2.2.2.1 = 0; omega
  · show (B.Share.getD i (0,0,0,0,0)).2.2.2.2 = 0; omega
theorem cf_flows {B : Bay} {i : Nat} (hval : validP B) (hi : i < B.Share.length) (j : Int) :
    cf (flowsL B i) j = (if B.Land.getD i false = true then (if (i : Int) = j then 16 else 0) else 0) + sumR 5 (fun q => if flowTo B i q = j then flowPart B i q else 0) := by
  have hr := hval.2.2.2.2 i hi
  unfold flowsL
  by_cases hl : B.Land.getD i false = true
  · rw [if_pos hl, if_pos hl]
    have : sumR 5 (fun q => if flowTo B i q = j then flowPart B i q else 0) = 0 := by
      rw [← sumR_const_zero 5]
      exact sumR_congr (fun q hq => by rw [land_zero hval hi hl q hq]; split <;> rfl)
    rw [this]; simp [cf]
  · rw [if_neg hl, if_neg hl, cf_water hr.1 j 5 (by omega)]; omega

/-- Where a flow comes from. -/
theorem divmod {W x y i : Int} (hW : 0 < W) (hx : 0 ≤ x ∧ x < W) (h : i = y * W + x) : i % W = x ∧ i / W = y := by
  have := (Int.ediv_emod_unique hW (a := i) (r := x) (q := y)).2 ⟨by rw [h, Int.mul_comm]; omega, hx.1, hx.2⟩
  exact ⟨this.2, this.1⟩
theorem g_bd {B : Bay} {i : Nat} (hval : validP B) (hi : i < B.Share.length) : (0 ≤ gx i B ∧ gx i B < B.W) ∧ (0 ≤ gy i B ∧ gy i B < B.H) ∧ (i : Int) = gy i B * B.W + gx i B := by
  have hW := hval.1
  have hS := hval.2.2.2.1
  unfold gx gy
  have h1 := Int.emod_nonneg (i : Int) (show B.W ≠ 0 by omega)
  have h2 := Int.emod_lt_of_pos (i : Int) (show 0 < B.W by omega)
  have h3 : 0 ≤ (i : Int) / B.W := Int.ediv_nonneg (by omega) (by omega)
  have h4 := Int.emod_add_mul_ediv (i : Int) B.W
  have h5 : (i : Int) / B.W < B.H := Int.ediv_lt_of_lt_mul (by omega) (by rw [Int.mul_comm]; omega)
  exact ⟨⟨h1, h2⟩, ⟨h3, h5⟩, by rw [Int.mul_comm]; omega⟩
theorem inside_iff {B : Bay} {i k : Nat} : insideB B i k = true ↔ (0 ≤ gx i B + dxs.getD k 0 ∧ gx i B + dxs.getD k 0 ≤ B.W - 1) ∧ 0 ≤ gy i B + dys.getD k 0 ∧ gy i B + dys.getD k 0 ≤ B.H - 1 := by
  unfold insideB gx gy betwB
  simp only [Bool.and_eq_true, decide_eq_true_eq]
theorem from_iff {B : Bay} {i j k : Nat} (hval : validP B) (hi : i < B.Share.length) (hj : j < B.Share.length) (hk : k < 5) :
    flowTo B i k = j ↔ inBay B (gx j B - dxs.getD k 0) (gy j B - dys.getD k 0) ∧ (i : Int) = (gy j B - dys.getD k 0) * B.W + (gx j B - dxs.getD k 0) := by
  have hW := hval.1
  obtain ⟨⟨a1, a2⟩, ⟨a3, a4⟩, a5⟩ := g_bd hval hi
  obtain ⟨⟨b1, b2⟩, ⟨b3, b4⟩, b5⟩ := g_bd hval hj
  constructor
  · intro h
    unfold flowTo at h
    split at h
    · rename_i hins
      obtain ⟨⟨c1, c2⟩, c3, c4⟩ := inside_iff.1 hins
      have h2 : (j : Int) = (gy i B + dys.getD k 0) * B.W + (gx i B + dxs.getD k 0) := by rw [Int.add_mul]; omega
      obtain ⟨d1, d2⟩ := divmod (by omega) ⟨c1, by omega⟩ h2
      have e1 : gx j B = gx i B + dxs.getD k 0 := d1
      have e2 : gy j B = gy i B + dys.getD k 0 := d2
      have f1 : gx j B - dxs.getD k 0 = gx i B := by omega
      have f2 : gy j B - dys.getD k 0 = gy i B := by omega
      rw [f1, f2]
      exact ⟨⟨⟨a1, a2⟩, a3, a4⟩, a5⟩
    · omega
  · rintro ⟨⟨⟨c1, c2⟩, c3, c4⟩, h⟩
    obtain ⟨d1, d2⟩ := divmod (by omega) ⟨c1, c2⟩ h
    have e1 : gx i B = gx j B - dxs.getD k 0 := d1
    have e2 : gy i B = gy j B - dys.getD k 0 := d2
    have hins : insideB B i k = true := inside_iff.2 ⟨⟨by omega, by omega⟩, by omega, by omega⟩
    unfold flowTo
    rw [if_pos hins, h, Int.sub_mul]; omega

theorem gath_eq {B : Bay} {s : Slk} (hval : validP B) (hlen : s.Oil.length = B.Share.length) {j : Nat} (hj : j < s.Oil.length) : (mv B s).Oil.getD j 0 = gath B s.Oil j := by
  have h1 : (mv B s).Oil.getD j 0 = sumR s.Oil.length (fun i => s.Oil.getD i 0 * cf (flowsL B i) j) := mvUp_get hval hlen hj _ (Nat.le_refl _)
  rw [h1]
  have h2 : sumR s.Oil.length (fun i => s.Oil.getD i 0 * cf (flowsL B i) j) =
      sumR s.Oil.length (fun i => s.Oil.getD i 0 * (if B.Land.getD i false = true then (if (i : Int) = j then 16 else 0) else 0)) + sumR s.Oil.length (fun i => sumR 5 (fun q => s.Oil.getD i 0 * (if flowTo B i q = j then flowPart B i q else 0))) := by
    rw [← sumR_add]
    refine sumR_congr (fun i hi => ?_)
    rw [cf_flows hval (by omega), Int.mul_add, sumR_mul]
  have h3 : sumR s.Oil.length (fun i => s.Oil.getD i 0 * (if B.Land.getD i false = true then (if (i : Int) = j then 16 else 0) else 0)) = landPart B s.Oil j := by
    rw [sumR_one _ hj (fun i hi hne => by
      split
      · rw [if_neg (by omega)]; simp
      · simp)]
    unfold landPart
    split
    · simp; omega
    · simp
  have h4 : ∀ k, k < 5 → sumR s.Oil.length (fun i => s.Oil.getD i 0 * (if flowTo B i k = j then flowPart B i k else 0)) = term B s.Oil (gx j B) (gy j B) k := by
    intro k hk
    unfold term shV
    by_cases hin : inBay B (gx j B - dxs.getD k 0) (gy j B - dys.getD k 0)
    · rw [if_pos hin]
      obtain ⟨_, _, hlt, hc⟩ := cell_in hval hin
      rw [sumR_one (j := ((gy j B - dys.getD k 0) * B.W + (gx j B - dxs.getD k 0)).toNat) _ (by omega) (fun i hi hne => by
        rw [if_neg (fun h => hne (by have := ((from_iff hval (by omega) (by omega) hk).1 h).2; omega))]; simp)]
      rw [if_pos ((from_iff hval hlt (by omega) hk).2 ⟨hin, hc⟩)]
      exact Int.mul_comm _ _
    · rw [if_neg hin]
      have : sumR s.Oil.length (fun i => s.Oil.getD i 0 * (if flowTo B i k = j then flowPart B i k else 0)) = sumR s.Oil.length (fun _ => 0) :=
        sumR_congr (fun i hi => by rw [if_neg (fun h => hin ((from_iff hval (by omega) (by omega) hk).1 h).1)]; simp)
      rw [this, sumR_const_zero]; simp
  rw [h2, h3, sumR_swap]
  unfold gath
  simp only [sumR_succ, sumR_zero, h4 0 (by omega), h4 1 (by omega), h4 2 (by omega), h4 3 (by omega), h4 4 (by omega)]
  omega
end Go.Proofs.Ytnafllhgjidbkaa

namespace Go.Proofs.Ytnafllhgjidbkaa
open Go.RowKit Go.Shelf
set_option linter.unusedVariables false
set_option linter.unusedSimpArgs false

/-- A slice of the call's own reads as a list. -/
theorem ints_of_own {w : World} {base : Nat} {v : Value} {l : List Int} (h : w.ownsRow base 3 1 v l.length (l.map (Value.int .i64))) : ∃ ao c, v = .slice ao l.length c ∧ IntsAt w ao l := by
  obtain ⟨h1, ⟨rfl, h2⟩ | ⟨g, cap, cur, rfl, hb, hh, hn, hm, hs, ht⟩⟩ := h
  · exact ⟨none, 0, by rw [h2], fun hne => absurd (List.eq_nil_of_length_eq_zero (by simpa using h2)) hne⟩
  · refine ⟨_, _, rfl, fun _ => ⟨g, 0, rfl, heap_lt hh, fun i hi => ?_⟩⟩
    rw [Nat.zero_add, cell_of_heap hh i, ← ht]
    have hi' : i < l.length := by simpa using hi
    simp [List.getD_eq_getElem?_getD, hi', ← Array.getElem?_toList]
    have : i < cur.size := by rw [hs]; omega
    simp [this]

set_option maxHeartbeats 400000 in
theorem clone_any (ao : Option Addr) (c : Nat) (l : List Int) (w : World) (hl : IntsAt w ao l) (hn : l.length ≤ 1000000) :
    Calls Try.prog 71 #[.slice ao l.length c] w fun e w' => ∃ rv, e = .returned rv ∧ w'.ownsRow w.heap.size 3 1 rv l.length (l.map (Value.int .i64)) ∧ Below w.heap.size w w' := by
  cases ao with
  | none =>
    have h0 : l = [] := by
      cases l with
      | nil => rfl
      | cons x l => obtain ⟨b, off, h, _⟩ := hl.get (k := 0) (by simp); cases h
    subst h0
    have he := fun W => Lib.run_eql_slice_nil (P := Try.prog) W 26 3 none 0 c 0 0 Try.underlying26
    go_enter Try.func71, Try.ntmps71
    go_wp2
    go_ret
    exact ⟨_, rfl, World.ownsRow_nil _ _ _ _, Below.refl _ _⟩
  | some a =>
    have he := fun W => Lib.run_eql_slice_nil (P := Try.prog) W 26 3 (some a) l.length c 0 0 Try.underlying26
    obtain ⟨i0, hi, hz0, hz1, hz2⟩ := info_parts info3
    have hown : (w.alloc (.cells #[] 3)).ownsRow w.heap.size 3 1 (.slice (some ⟨w.heap.size, 0, none⟩) 0 0) 0 [] :=
      ⟨rfl, .inr ⟨w.heap.size, 0, #[], rfl, Nat.le_refl _, World.alloc_heap_new _ _, Nat.le_refl _, by simp [maxLen], rfl, rfl⟩⟩
    have hnews : ∀ j u, (l.map (Value.int .i64))[j]? = some u → (w.alloc (.cells #[] 3)).cell? (a.add j) = some u := by
      intro j u hj
      obtain ⟨hj1, hj2⟩ := List.getElem?_eq_some_iff.1 hj
      have hj' : j < l.length := by simpa using hj1
      obtain ⟨b, off, ha, hb, hc⟩ := hl.get hj'
      obtain rfl : a = ⟨b, off, none⟩ := by simpa using ha
      have : (⟨b, off, none⟩ : Addr).add j = ⟨b, off + j, none⟩ := by
        unfold Addr.add; split
        · rename_i h; subst h; rfl
        · rfl
      rw [this, World.cell?_alloc_lt _ _ _ hb, hc, ← hj2]
      simp [List.getD_eq_getElem?_getD, List.getElem?_eq_getElem hj']
    have h1 : ∀ u ∈ l.map (Value.int .i64), u.oneCell' = true := by
      intro u hu; obtain ⟨x, _, rfl⟩ := List.mem_map.1 hu; rfl
    go_enter Try.func71, Try.ntmps71
    go_wp2_with (first | (at_builtin; refine wpList_append_own _ rfl _ _ 26 rfl w.heap.size 3 i0 (.int .i64 0) 1 8 Try.underlying26 hi hz0 hz1 hz2 rfl (by decide) _ _ _ rfl hown a l.length c (l.map (Value.int .i64)) rfl (by simp) hnews h1 (by simp [maxLen]; omega) (by omega) (by simp) ?_; intro v' w1 hown1 hgrow1 _))
    go_ret
    exact ⟨_, rfl, by simpa using hown1, ((Below.refl _ _).alloc (Nat.le_refl _) _).grown hgrow1 (by simp) (fun k e => by cases e; exact Nat.le_refl _)⟩
end Go.Proofs.Ytnafllhgjidbkaa

/- The reference's move of a slick: each cell gathers what comes to it; all loops and regions of ref.move. -/
namespace Go.Proofs.Ytnafllhgjidbkaa
open Go.RowKit
set_option linter.unusedVariables false
set_option linter.unusedSimpArgs false
def outL (B : Bay) (oil : List Int) (n c : Nat) : List Int := (List.range n).map (fun i => if i < c then gath B oil i else 0)
def allS (B : Bay) (oil : List Int) (c : Nat) : Int := sumR c (fun i => 16 * oil.getD i 0 - gath B oil i)
theorem outL_len (B : Bay) (oil : List Int) (n c : Nat) : (outL B oil n c).length = n := by simp [outL]
theorem outL_zero (B : Bay) (oil : List Int) (n : Nat) : outL B oil n 0 = List.replicate n 0 := by
  unfold outL; simp only [Nat.not_lt_zero, if_false]; rw [List.map_const']; simp
theorem outL_get (B : Bay) (oil : List Int) {n c i : Nat} (h : i < n) : (outL B oil n c).getD i 0 = if i < c then gath B oil i else 0 := by
  unfold outL; simp [List.getD_eq_getElem?_getD, h]
theorem outL_set (B : Bay) (oil : List Int) (n c : Nat) : (outL B oil n c).set c (gath B oil c) = outL B oil n (c + 1) := by
  apply List.ext_getElem?
  intro i
  unfold outL
  rw [List.getElem?_set]
  by_cases h : i < n
  · by_cases e : c = i
    · subst e; simp [h]
    · rw [if_neg e]; simp [h]
      by_cases hi : i < c
      · rw [if_pos hi, if_pos (by omega)]
      · rw [if_neg hi, if_neg (by omega)]
  · have : ¬ (c = i ∧ i < n) := fun h' => h h'.2
    by_cases e : c = i
    · subst e; simp [h]
    · rw [if_neg e]; simp [h]
theorem allS_succ (B : Bay) (oil : List Int) (c : Nat) : allS B oil (c + 1) = allS B oil c + (16 * oil.getD c 0 - gath B oil c) := sumR_succ _ _
theorem shV_bd {B : Bay} (hval : validP B) (x y : Int) {k : Nat} (hk : k < 5) : (0 ≤ (shV B x y k).1 ∧ (shV B x y k).1 ≤ 16) ∧ (shV B x y k).2 < B.Share.length := by
  have hp := mul36 hval.1.1 hval.1.2 hval.2.1.1 hval.2.1.2
  have hS := hval.2.2.2.1
  unfold shV
  by_cases h : inBay B x y
  · rw [if_pos h]
    obtain ⟨_, _, hlt, _⟩ := cell_in hval h
    exact ⟨(ok_iff_at _).1 (hval.2.2.2.2 _ hlt).1 k hk, hlt⟩
  · rw [if_neg h]; exact ⟨⟨by simp, by simp⟩, by show 0 < _; omega⟩
theorem mul_bd {a b M : Int} (h0 : 0 ≤ a) (h1 : a ≤ 16) (h2 : 0 ≤ b) (h3 : b ≤ M) : 0 ≤ a * b ∧ a * b ≤ 16 * M :=
  ⟨Int.mul_nonneg h0 h2, Int.le_trans (Int.mul_le_mul_of_nonneg_right h1 h2) (Int.mul_le_mul_of_nonneg_left h3 (by omega))⟩
def fiveC (x : Five) : List C := [C.i x.1, C.i x.2.1, C.i x.2.2.1, C.i x.2.2.2.1, C.i x.2.2.2.2]
def shareC (l : List Five) : List C := l.flatMap fiveC
theorem wf_shares (n : Nat) (l : List Five) : ∀ c ∈ shareC l, c.wf n := by
  intro c hc
  obtain ⟨j, _, hc⟩ := List.mem_flatMap.1 hc
  simp only [fiveC, List.mem_cons, List.not_mem_nil, or_false] at hc
  rcases hc with rfl | rfl | rfl | rfl | rfl <;> trivial
theorem den_shares (ρ : Env) (l : List Five) : (shareC l).map (C.den ρ) = l.flatMap Five.cells := by
  induction l with
  | nil => rfl
  | cons x r ih => simp only [shareC, List.flatMap_cons, List.map_append] at *; rw [ih]; rfl
theorem bay_of {n0 : Nat} {ρ : Env} {w : World} {L : List E} {nx a b : Nat} {ka kb : Kd} {B : Bay} (hp : Hp n0 ρ w L nx) (ha : find L a = some ⟨a, ka, B.Land.map C.bool⟩) (hb : find L b = some ⟨b, kb, shareC B.Share⟩) (hll : B.Land.length ≤ 100) (hsl : B.Share.length ≤ 100) :
    BayAt w ((V.agg [C.i B.W, C.i B.H, C.sl a B.Land.length, C.sl b B.Share.length]).den ρ) B := by
  have h1 := (hp.row ha).1
  have h2 := (hp.row hb).1
  rw [den_bools] at h1
  rw [den_shares] at h2
  exact ⟨_, _, _, _, rfl, h1, h2, hll, hsl⟩
theorem share_k {n0 nx a b : Nat} {ka kb : Kd} {L : List E} {K : V → List E → Nat → Prop} {B : Bay} {x y : Int} {k : Nat} (hval : validP B) (hll : B.Land.length ≤ 100) (hsl : B.Share.length ≤ 100) (hx : -1 ≤ x ∧ x ≤ 6) (hy : -1 ≤ y ∧ y ≤ 6) (hk : k < 5)
    (ha : find L a = some ⟨a, ka, B.Land.map C.bool⟩) (hb : find L b = some ⟨b, kb, shareC B.Share⟩) (hK : K (V.tup [A.c (C.i (shV B x y k).1), A.c (C.i ((shV B x y k).2 : Int))]) [] nx) :
    CallK Try.prog n0 96 [V.agg [C.i B.W, C.i B.H, C.sl a B.Land.length, C.sl b B.Share.length], V.i x, V.i y, V.i (k : Int)] L nx K := by
  refine ⟨by kernel_rfl, fun ρ w hp _ => (share_any _ B x y k w (bay_of hp ha hb hll hsl) hval hx hy hk).mono ?_⟩
  rintro e w' ⟨rfl, hbw⟩
  exact ⟨_, [], nx, ρ, rfl, Nat.le_refl _, (by simp [V.wf, A.wf, C.wf, C.i]), Agr.refl _ _, hbw, News.nil, hK⟩

theorem out_zero (B : Bay) (oil : List Int) (n : Nat) : repC n [C.i 0] = (outL B oil n 0).map C.i := by rw [outL_zero]; simp [repC]
theorem out_set {B : Bay} {oil : List Int} {n i : Nat} {z g : Int} (hz : z = ((i : Nat) : Int)) (hg : g = gath B oil i) : setL ((outL B oil n i).map C.i) (mulS z.toNat 1) [C.i g] = (outL B oil n (i + 1)).map C.i := by
  subst hz hg
  rw [mulS_eq]
  simp only [setL, Int.toNat_natCast, Nat.mul_one]
  rw [← outL_set, List.map_set]
theorem out_set2 {B : Bay} {oil : List Int} {n i : Nat} {z g : Int} {c : C} (hz : z = ((i : Nat) : Int)) (hg : g = gath B oil i) : setL (setL ((outL B oil n i).map C.i) (mulS z.toNat 1) [c]) (mulS z.toNat 1) [C.i g] = (outL B oil n (i + 1)).map C.i := by
  rw [← out_set hz hg]
  simp [setL]
theorem out_at {B : Bay} {oil : List Int} {n i : Nat} {z : Int} (hz : z = ((i : Nat) : Int)) (hi : i < n) : ((outL B oil n i).map C.i)[mulS z.toNat 1]? = some (C.i 0) := by
  rw [intLz hz (by rw [outL_len]; exact hi), outL_get B oil hi]; simp
theorem set_at {cs : List C} {z : Int} {i : Nat} {v : C} (hz : z = ((i : Nat) : Int)) (hi : i < cs.length) : (setL cs (mulS z.toNat 1) [v])[mulS z.toNat 1]? = some v := by
  subst hz; exact setL_same (by rw [mulS_eq]; simpa using hi)
theorem set_at1 {B : Bay} {oil : List Int} {n i : Nat} {z : Int} {v : C} (hz : z = ((i : Nat) : Int)) (hi : i < n) : (setL ((outL B oil n i).map C.i) (mulS z.toNat 1) [v])[mulS z.toNat 1]? = some v :=
  set_at hz (by rw [List.length_map, outL_len]; exact hi)
theorem set_at2 {B : Bay} {oil : List Int} {n i : Nat} {z : Int} {u v : C} (hz : z = ((i : Nat) : Int)) (hi : i < n) : (setL (setL ((outL B oil n i).map C.i) (mulS z.toNat 1) [u]) (mulS z.toNat 1) [v])[mulS z.toNat 1]? = some v :=
  set_at hz (by rw [setL_length, List.length_map, outL_len]; exact hi)
theorem mv_out {B : Bay} {s : Slk} (hval : validP B) (hlen : s.Oil.length = B.Share.length) : (mv B s).Oil = outL B s.Oil s.Oil.length s.Oil.length := by
  apply List.ext_getElem
  · rw [mv_len, outL_len]
  · intro j hj hj'
    have h1 : j < s.Oil.length := by rw [mv_len] at hj; exact hj
    have h2 := gath_eq hval hlen h1
    have h3 := outL_get B s.Oil (c := s.Oil.length) h1
    rw [if_pos h1] at h3
    simp only [List.getD_eq_getElem?_getD, List.getElem?_eq_getElem hj, List.getElem?_eq_getElem hj', Option.getD_some] at h2 h3
    rw [h2, h3]
theorem sumR_sub (n : Nat) (f g : Nat → Int) : sumR n (fun i => f i - g i) = sumR n f - sumR n g := by
  induction n with
  | zero => rfl
  | succ n ih => simp only [sumR_succ, ih]; omega
theorem sumR_getD (l : List Int) : sumR l.length (fun i => l.getD i 0) = l.sum := by
  unfold sumR
  congr 1
  apply List.ext_getElem
  · simp
  · intro i h1 h2; simp [List.getD_eq_getElem?_getD, h2]
theorem mv_away {B : Bay} {s : Slk} (hval : validP B) (hlen : s.Oil.length = B.Share.length) : 16 * s.Away + allS B s.Oil s.Oil.length = (mv B s).Away := by
  have h1 := mv_tot hval hlen (s := s)
  have h2 : allS B s.Oil s.Oil.length = 16 * s.Oil.sum - (mv B s).Oil.sum := by
    unfold allS
    rw [sumR_sub, ← sumR_getD s.Oil, ← sumR_getD (mv B s).Oil, mv_len]
    congr 1
    · induction s.Oil.length with
      | zero => rfl
      | succ n ih => simp only [sumR_succ, ih, Int.mul_add]
    · exact sumR_congr fun i hi => (gath_eq hval hlen hi).symm
  omega
set_option maxRecDepth 100000 in
set_option maxHeartbeats 2000000 in
theorem rmove_spec (B : Bay) (s : Slk) (hll : B.Land.length ≤ 100) (hsl : B.Share.length ≤ 100) (hval : validP B) (hlen : s.Oil.length = B.Share.length) (hK : 0 ≤ s.K ∧ s.K ≤ 4)
    (hO : ∀ k, k < s.Oil.length → 0 ≤ s.Oil.getD k 0 ∧ s.Oil.getD k 0 ≤ 2359296000) (hA : 0 ≤ s.Away ∧ s.Away ≤ 2359296000) :
    Spec Try.prog 87 [V.agg [C.i B.W, C.i B.H, C.sl 0 B.Land.length, C.sl 1 B.Share.length], V.agg [C.i s.K, C.sl 2 s.Oil.length, C.i s.Away]] [⟨0, .ro 0, B.Land.map C.bool⟩, ⟨1, .ro 0, shareC B.Share⟩, ⟨2, .ro 0, s.Oil.map C.i⟩] 3
      (fun v L' _ => ∃ l, v = V.agg [C.i (mv B s).K, C.sl l s.Oil.length, C.i (mv B s).Away] ∧ find L' l = some ⟨l, .vec 3 1, (mv B s).Oil.map C.i⟩) := by
  have hBW := hval.1
  have hBH := hval.2.1
  have hp36 := mul36 hval.1.1 hval.1.2 hval.2.1.1 hval.2.1.2
  have hSS := hval.2.2.2.1
  have hLL := hval.2.2.1
  obtain ⟨WN, hWN⟩ : ∃ WN : Nat, B.W = WN := ⟨B.W.toNat, by omega⟩
  obtain ⟨HN, hHN⟩ : ∃ HN : Nat, B.H = HN := ⟨B.H.toNat, by omega⟩
  have hWH : ((WN * HN : Nat) : Int) = B.W * B.H := by rw [hWN, hHN]; exact Int.natCast_mul _ _
  have hnWH : s.Oil.length = WN * HN := by omega
  refine Spec.of tok Try.func87 rfl rfl rfl fun n0 => vc_ok tok ?_
  repeat ((conv => whnf); first
      | (refine And.intro (by first | omega | exact Nat.le_of_ble_eq_true rfl | (dsimp only [inK]; omega) | (simp only [mulS_eq]; omega) | (simp only [mulS_eq, setL_length]; omega) | (simp only [setL_length, List.length_map]; omega) | exact ⟨by omega, by omega, by first | exact Nat.le_of_ble_eq_true rfl | (dsimp only; omega) | (simp only [setL_length]; omega) | (simp only [setL_length, List.length_map]; omega)⟩ | exact ⟨by omega, by first | rfl | omega, by omega, Nat.le_of_ble_eq_true rfl, Nat.le_of_ble_eq_true rfl⟩ | exact ⟨rfl, rfl, rfl, Nat.le_of_ble_eq_true rfl, by first | rfl | omega | exact Nat.le_of_ble_eq_true rfl | (simp; done) | (simp; omega), by first | rfl | omega | exact Nat.le_of_ble_eq_true rfl | (simp; done) | (simp; omega), by omega, Nat.le_of_ble_eq_true rfl⟩ | exact Eq.refl true) ?_)
      | (refine Exists.intro _ (And.intro rfl ?_))
      | (refine And.intro (And.intro rfl (chk_rowI _ _ _ _)) ?_)
      | (refine br_t (by omega) ?_)
      | (refine br_f (by omega) ?_)
      | (refine bs_t (by omega) ?_)
      | (refine bs_f (by omega) ?_)
      | (refine fun (K' : K3) hK' => ?_)
      | (refine hK' _ _ _ ?_; clear hK' K')
      | (refine draw_auto tok mixed (by kernel_rfl) ?_)
      | (refine CallK.m ?_)
      | (refine And.intro (And.intro rfl rfl) ?_))
  have hLc : (B.Land.map C.bool).length = B.Land.length := List.length_map ..
  have hOc : (s.Oil.map C.i).length = s.Oil.length := List.length_map ..
  have hol : ∀ m, ((outL B s.Oil s.Oil.length m).map C.i).length = s.Oil.length := fun m => by rw [List.length_map, outL_len]
  refine Tri.loop (γ := Nat × Nat) (fun g => g.1 ≤ HN ∧ g.2 = g.1 * WN ∧ -(300000000000 * (g.2 : Int)) ≤ allS B s.Oil g.2 ∧ allS B s.Oil g.2 ≤ 300000000000 * (g.2 : Int))
    (fun g => [(2, V.c (.ptr 3 0)), (3, V.c (.ptr 4 0)), (4, V.c (.ptr 5 0)), (5, V.c (.ptr 7 0)), (6, V.i (allS B s.Oil g.2)), (7, V.i ((g.1 : Nat) : Int))])
    (fun g => [⟨0, .ro 0, B.Land.map C.bool⟩, ⟨1, .ro 0, shareC B.Share⟩, ⟨2, .ro 0, s.Oil.map C.i⟩, ⟨3, .own 25, [C.i B.W, C.i B.H, C.sl 0 B.Land.length, C.sl 1 B.Share.length]⟩, ⟨4, .own 28, [C.i s.K, C.sl 2 s.Oil.length, C.i s.Away]⟩, ⟨5, .own 28, [C.i 0, C.nil, C.i 0]⟩,
      ⟨6, .vec 3 1, (outL B s.Oil s.Oil.length g.2).map C.i⟩, ⟨7, .own 28, [C.i (s.K + 1), C.sl 6 s.Oil.length, C.i (16 * s.Away)]⟩]) 8 (fun g => HN - g.1) (0, 0) (R0 := []) ?_ ?_ ?_
  · exact ⟨Nat.zero_le _, by simp, by simp [allS, sumR], by simp [allS, sumR]⟩
  · skip
    refine ⟨?_, ?_, rfl, rfl, Nat.le_of_ble_eq_true rfl⟩
    · repeat (first | exact trivial | refine And.intro (covS_syn (by first | rfl) rfl (by first | exact trivial | exact Nat.le_of_ble_eq_true rfl)) ?_ | refine And.intro (covS_bool rfl rfl (by first | rfl)) ?_)
    · repeat (first | exact trivial | refine And.intro (covE_id (Nat.le_of_ble_eq_true rfl) (by first | exact wf_ints _ _ | exact wf_bools _ _ | exact wf_shares _ _ | simp [C.wf]) rfl (by first | rfl | (exact out_zero ..))) ?_)
  · rintro ⟨y, m⟩ ⟨hy, hm, hb0, hb1⟩
    simp only at hy hm hb0 hb1 ⊢
    refine vc_ok tok ?_
    by_cases hlt : y < HN
    · have hlt' : (y : Int) < B.H := by omega
      have hmy : m + WN ≤ s.Oil.length := by
        have h1 : (y + 1) * WN ≤ HN * WN := Nat.mul_le_mul_right _ hlt
        rw [Nat.add_mul] at h1; rw [Nat.mul_comm HN] at h1; omega
      repeat ((conv => whnf); first
          | (refine And.intro (by first | omega | exact Nat.le_of_ble_eq_true rfl | (dsimp only [inK]; omega) | (simp only [mulS_eq]; omega) | (simp only [mulS_eq, setL_length]; omega) | (simp only [setL_length, List.length_map]; omega) | exact ⟨by omega, by omega, by first | exact Nat.le_of_ble_eq_true rfl | (dsimp only; omega) | (simp only [setL_length]; omega) | (simp only [setL_length, List.length_map]; omega)⟩ | exact ⟨by omega, by first | rfl | omega, by omega, Nat.le_of_ble_eq_true rfl, Nat.le_of_ble_eq_true rfl⟩ | exact ⟨rfl, rfl, rfl, Nat.le_of_ble_eq_true rfl, by first | rfl | omega | exact Nat.le_of_ble_eq_true rfl | (simp; done) | (simp; omega), by first | rfl | omega | exact Nat.le_of_ble_eq_true rfl | (simp; done) | (simp; omega), by omega, Nat.le_of_ble_eq_true rfl⟩ | exact Eq.refl true) ?_)
          | (refine Exists.intro _ (And.intro rfl ?_))
          | (refine And.intro (And.intro rfl (chk_rowI _ _ _ _)) ?_)
          | (refine br_t (by omega) ?_)
          | (refine br_f (by omega) ?_)
          | (refine bs_t (by omega) ?_)
          | (refine bs_f (by omega) ?_)
          | (refine fun (K' : K3) hK' => ?_)
          | (refine hK' _ _ _ ?_; clear hK' K')
          | (refine draw_auto tok mixed (by kernel_rfl) ?_)
          | (refine CallK.m ?_)
          | (refine And.intro (And.intro rfl rfl) ?_))
      refine Tri.loop (γ := Nat) (fun x => x ≤ WN ∧ -(300000000000 * ((m + x : Nat) : Int)) ≤ allS B s.Oil (m + x) ∧ allS B s.Oil (m + x) ≤ 300000000000 * ((m + x : Nat) : Int))
        (fun x => [(2, V.c (.ptr 3 0)), (3, V.c (.ptr 4 0)), (4, V.c (.ptr 5 0)), (5, V.c (.ptr 7 0)), (6, V.i (allS B s.Oil (m + x))), (7, V.i ((y : Nat) : Int)), (8, V.i ((x : Nat) : Int))])
        (fun x => [⟨0, .ro 0, B.Land.map C.bool⟩, ⟨1, .ro 0, shareC B.Share⟩, ⟨2, .ro 0, s.Oil.map C.i⟩, ⟨3, .own 25, [C.i B.W, C.i B.H, C.sl 0 B.Land.length, C.sl 1 B.Share.length]⟩, ⟨4, .own 28, [C.i s.K, C.sl 2 s.Oil.length, C.i s.Away]⟩, ⟨5, .own 28, [C.i 0, C.nil, C.i 0]⟩,
          ⟨6, .vec 3 1, (outL B s.Oil s.Oil.length (m + x)).map C.i⟩, ⟨7, .own 28, [C.i (s.K + 1), C.sl 6 s.Oil.length, C.i (16 * s.Away)]⟩]) 8 (fun x => WN - x) 0 (R0 := []) ?_ ?_ ?_
      · exact ⟨Nat.zero_le _, hb0, hb1⟩
      · skip
        refine ⟨?_, ?_, rfl, rfl, Nat.le_of_ble_eq_true rfl⟩
        · repeat (first | exact trivial | refine And.intro (covS_syn (by first | rfl) rfl (by first | exact trivial | exact Nat.le_of_ble_eq_true rfl)) ?_ | refine And.intro (covS_bool rfl rfl (by first | rfl)) ?_)
        · repeat (first | exact trivial | refine And.intro (covE_id (Nat.le_of_ble_eq_true rfl) (by first | exact wf_ints _ _ | exact wf_bools _ _ | exact wf_shares _ _ | simp [C.wf]) rfl (by first | rfl | (fail))) ?_)
      · rintro x ⟨hx, hc0, hc1⟩
        refine vc_ok tok ?_
        by_cases hxl : x < WN
        · have hxl' : (x : Int) < B.W := by omega
          have hyW : (y : Int) * B.W = (m : Int) := by rw [hWN, hm]; simp
          have hyx : (y : Int) * B.W + x = ((m + x : Nat) : Int) := by rw [hyW]; simp
          have hin : m + x < s.Oil.length := by omega
          have hgx : gx (m + x) B = x ∧ gy (m + x) B = y := divmod (by omega) (by omega) (by rw [hyx])
          have b0 := shV_bd hval x y (k := 0) (by omega)
          have b1 := shV_bd hval x (y + 1) (k := 1) (by omega)
          have b2 := shV_bd hval (x - 1) y (k := 2) (by omega)
          have b3 := shV_bd hval x (y - 1) (k := 3) (by omega)
          have b4 := shV_bd hval (x + 1) y (k := 4) (by omega)
          rw [← hlen] at b0 b1 b2 b3 b4
          have ri := hO _ hin
          have r0 := hO _ b0.2
          have r1 := hO _ b1.2
          have r2 := hO _ b2.2
          have r3 := hO _ b3.2
          have r4 := hO _ b4.2
          have u0 := mul_bd b0.1.1 b0.1.2 r0.1 r0.2
          have u1 := mul_bd b1.1.1 b1.1.2 r1.1 r1.2
          have u2 := mul_bd b2.1.1 b2.1.2 r2.1 r2.2
          have u3 := mul_bd b3.1.1 b3.1.2 r3.1 r3.2
          have u4 := mul_bd b4.1.1 b4.1.2 r4.1 r4.2
          have hgath : gath B s.Oil (m + x) = landPart B s.Oil (m + x) + (shV B x y 0).1 * s.Oil.getD (shV B x y 0).2 0 + (shV B x (y + 1) 1).1 * s.Oil.getD (shV B x (y + 1) 1).2 0 + (shV B (x - 1) y 2).1 * s.Oil.getD (shV B (x - 1) y 2).2 0 +
              (shV B x (y - 1) 3).1 * s.Oil.getD (shV B x (y - 1) 3).2 0 + (shV B (x + 1) y 4).1 * s.Oil.getD (shV B (x + 1) y 4).2 0 := by
            unfold gath term
            rw [hgx.1, hgx.2]
            simp only [dxs, dys, List.getD_cons_zero, List.getD_cons_succ, Int.sub_zero, Int.sub_neg]
          have hs0 : (shV B x y 0).2 = m + x := by
            unfold shV
            rw [if_pos ⟨⟨by omega, hxl'⟩, by omega, hlt'⟩]
            simp only; omega
          rw [hs0] at hgath u0
          have hall := allS_succ B s.Oil (m + x)
          have hlpb : 0 ≤ landPart B s.Oil (m + x) ∧ landPart B s.Oil (m + x) ≤ 16 * 2359296000 := by unfold landPart; split <;> omega
          have hol' := hol (m + x)
          cases hland : B.Land.getD (m + x) false
          · have hlp : landPart B s.Oil (m + x) = 0 := by unfold landPart; rw [hland]; rfl
            repeat ((conv => whnf); first
                | (refine And.intro (by first | omega | exact Nat.le_of_ble_eq_true rfl | (dsimp only [inK]; omega) | (simp only [mulS_eq]; omega) | (simp only [mulS_eq, setL_length]; omega) | (simp only [setL_length, List.length_map]; omega) | exact ⟨by omega, by omega, by first | exact Nat.le_of_ble_eq_true rfl | (dsimp only; omega) | (simp only [setL_length]; omega) | (simp only [setL_length, List.length_map]; omega)⟩ | exact ⟨by omega, by first | rfl | omega, by omega, Nat.le_of_ble_eq_true rfl, Nat.le_of_ble_eq_true rfl⟩ | exact ⟨rfl, rfl, rfl, Nat.le_of_ble_eq_true rfl, by first | rfl | omega | exact Nat.le_of_ble_eq_true rfl | (simp; done) | (simp; omega), by first | rfl | omega | exact Nat.le_of_ble_eq_true rfl | (simp; done) | (simp; omega), by omega, Nat.le_of_ble_eq_true rfl⟩ | exact Eq.refl true) ?_)
                | (with_reducible refine ld (boolLz hyx (by omega)) ?_)
                | (with_reducible refine ld (out_at hyx hin) ?_)
                | (with_reducible refine ld (intLz hyx hin) ?_)
                | (with_reducible refine ld (set_at1 hyx hin) ?_)
                | (with_reducible refine ld (set_at2 hyx hin) ?_)
                | (with_reducible refine ld (intL b0.2) ?_)
                | (with_reducible refine ld (intL b1.2) ?_)
                | (with_reducible refine ld (intL b2.2) ?_)
                | (with_reducible refine ld (intL b3.2) ?_)
                | (with_reducible refine ld (intL b4.2) ?_)
                | (refine Exists.intro _ (And.intro rfl ?_))
                | (refine And.intro (And.intro rfl (chk_rowI _ _ _ _)) ?_)
                | (refine br_t (by omega) ?_)
                | (refine br_f (by omega) ?_)
                | (refine bs_t (by omega) ?_)
                | (refine bs_f (by omega) ?_)
                | (refine fun (K' : K3) hK' => ?_)
                | (refine hK' _ _ _ ?_; clear hK' K')
                | (refine draw_auto tok mixed (by kernel_rfl) ?_)
                | (refine br_bf hland ?_)
                | (refine share_k (k := 0) hval hll hsl (by omega) (by omega) (by omega) rfl rfl ?_)
                | (refine share_k (k := 1) hval hll hsl (by omega) (by omega) (by omega) rfl rfl ?_)
                | (refine share_k (k := 2) hval hll hsl (by omega) (by omega) (by omega) rfl rfl ?_)
                | (refine share_k (k := 3) hval hll hsl (by omega) (by omega) (by omega) rfl rfl ?_)
                | (refine share_k (k := 4) hval hll hsl (by omega) (by omega) (by omega) rfl rfl ?_)
                | (refine CallK.m ?_)
                | (refine And.intro (And.intro rfl rfl) ?_))
            refine ⟨x + 1, [], ⟨by omega, by rw [← Nat.add_assoc, hall]; omega, by rw [← Nat.add_assoc, hall]; omega⟩, by omega, ?_⟩
            refine ⟨?_, ?_, rfl, rfl, Nat.le_of_ble_eq_true rfl⟩
            · repeat (first | exact trivial | refine And.intro (covS_syn (by first | rfl | (refine congrArg some (congrArg V.i ?_); (rw [← Nat.add_assoc, hall]; omega))) rfl (by first | exact trivial | exact Nat.le_of_ble_eq_true rfl)) ?_ | refine And.intro (covS_bool rfl rfl (by first | rfl)) ?_)
            · repeat (first | exact trivial | refine And.intro (covE_id (Nat.le_of_ble_eq_true rfl) (by first | exact wf_ints _ _ | exact wf_bools _ _ | exact wf_shares _ _ | simp [C.wf]) rfl (by first | rfl | (exact out_set hyx (by omega)))) ?_)
          · have hlp : landPart B s.Oil (m + x) = 16 * s.Oil.getD (m + x) 0 := by unfold landPart; rw [hland]; rfl
            repeat ((conv => whnf); first
                | (refine And.intro (by first | omega | exact Nat.le_of_ble_eq_true rfl | (dsimp only [inK]; omega) | (simp only [mulS_eq]; omega) | (simp only [mulS_eq, setL_length]; omega) | (simp only [setL_length, List.length_map]; omega) | exact ⟨by omega, by omega, by first | exact Nat.le_of_ble_eq_true rfl | (dsimp only; omega) | (simp only [setL_length]; omega) | (simp only [setL_length, List.length_map]; omega)⟩ | exact ⟨by omega, by first | rfl | omega, by omega, Nat.le_of_ble_eq_true rfl, Nat.le_of_ble_eq_true rfl⟩ | exact ⟨rfl, rfl, rfl, Nat.le_of_ble_eq_true rfl, by first | rfl | omega | exact Nat.le_of_ble_eq_true rfl | (simp; done) | (simp; omega), by first | rfl | omega | exact Nat.le_of_ble_eq_true rfl | (simp; done) | (simp; omega), by omega, Nat.le_of_ble_eq_true rfl⟩ | exact Eq.refl true) ?_)
                | (with_reducible refine ld (boolLz hyx (by omega)) ?_)
                | (with_reducible refine ld (out_at hyx hin) ?_)
                | (with_reducible refine ld (intLz hyx hin) ?_)
                | (with_reducible refine ld (set_at1 hyx hin) ?_)
                | (with_reducible refine ld (set_at2 hyx hin) ?_)
                | (with_reducible refine ld (intL b0.2) ?_)
                | (with_reducible refine ld (intL b1.2) ?_)
                | (with_reducible refine ld (intL b2.2) ?_)
                | (with_reducible refine ld (intL b3.2) ?_)
                | (with_reducible refine ld (intL b4.2) ?_)
                | (refine Exists.intro _ (And.intro rfl ?_))
                | (refine And.intro (And.intro rfl (chk_rowI _ _ _ _)) ?_)
                | (refine br_t (by omega) ?_)
                | (refine br_f (by omega) ?_)
                | (refine bs_t (by omega) ?_)
                | (refine bs_f (by omega) ?_)
                | (refine fun (K' : K3) hK' => ?_)
                | (refine hK' _ _ _ ?_; clear hK' K')
                | (refine draw_auto tok mixed (by kernel_rfl) ?_)
                | (refine br_bt hland ?_)
                | (refine share_k (k := 0) hval hll hsl (by omega) (by omega) (by omega) rfl rfl ?_)
                | (refine share_k (k := 1) hval hll hsl (by omega) (by omega) (by omega) rfl rfl ?_)
                | (refine share_k (k := 2) hval hll hsl (by omega) (by omega) (by omega) rfl rfl ?_)
                | (refine share_k (k := 3) hval hll hsl (by omega) (by omega) (by omega) rfl rfl ?_)
                | (refine share_k (k := 4) hval hll hsl (by omega) (by omega) (by omega) rfl rfl ?_)
                | (refine CallK.m ?_)
                | (refine And.intro (And.intro rfl rfl) ?_))
            refine ⟨x + 1, [], ⟨by omega, by rw [← Nat.add_assoc, hall]; omega, by rw [← Nat.add_assoc, hall]; omega⟩, by omega, ?_⟩
            refine ⟨?_, ?_, rfl, rfl, Nat.le_of_ble_eq_true rfl⟩
            · repeat (first | exact trivial | refine And.intro (covS_syn (by first | rfl | (refine congrArg some (congrArg V.i ?_); (rw [← Nat.add_assoc, hall]; omega))) rfl (by first | exact trivial | exact Nat.le_of_ble_eq_true rfl)) ?_ | refine And.intro (covS_bool rfl rfl (by first | rfl)) ?_)
            · repeat (first | exact trivial | refine And.intro (covE_id (Nat.le_of_ble_eq_true rfl) (by first | exact wf_ints _ _ | exact wf_bools _ _ | exact wf_shares _ _ | simp [C.wf]) rfl (by first | rfl | (exact out_set2 hyx (by omega)))) ?_)
        · have hxe : x = WN := by omega
          subst hxe
          repeat ((conv => whnf); first
              | (refine And.intro (by first | omega | exact Nat.le_of_ble_eq_true rfl | (dsimp only [inK]; omega) | (simp only [mulS_eq]; omega) | (simp only [mulS_eq, setL_length]; omega) | (simp only [setL_length, List.length_map]; omega) | exact ⟨by omega, by omega, by first | exact Nat.le_of_ble_eq_true rfl | (dsimp only; omega) | (simp only [setL_length]; omega) | (simp only [setL_length, List.length_map]; omega)⟩ | exact ⟨by omega, by first | rfl | omega, by omega, Nat.le_of_ble_eq_true rfl, Nat.le_of_ble_eq_true rfl⟩ | exact ⟨rfl, rfl, rfl, Nat.le_of_ble_eq_true rfl, by first | rfl | omega | exact Nat.le_of_ble_eq_true rfl | (simp; done) | (simp; omega), by first | rfl | omega | exact Nat.le_of_ble_eq_true rfl | (simp; done) | (simp; omega), by omega, Nat.le_of_ble_eq_true rfl⟩ | exact Eq.refl true) ?_)
              | (refine Exists.intro _ (And.intro rfl ?_))
              | (refine And.intro (And.intro rfl (chk_rowI _ _ _ _)) ?_)
              | (refine br_t (by omega) ?_)
              | (refine br_f (by omega) ?_)
              | (refine bs_t (by omega) ?_)
              | (refine bs_f (by omega) ?_)
              | (refine fun (K' : K3) hK' => ?_)
              | (refine hK' _ _ _ ?_; clear hK' K')
              | (refine draw_auto tok mixed (by kernel_rfl) ?_)
              | (refine CallK.m ?_)
              | (refine And.intro (And.intro rfl rfl) ?_))
          refine ⟨(y + 1, m + x), [], ⟨by omega, by simp only; rw [hm, Nat.succ_mul], hc0, hc1⟩, by simp only; omega, ?_⟩
          refine ⟨?_, ?_, rfl, rfl, Nat.le_of_ble_eq_true rfl⟩
          · repeat (first | exact trivial | refine And.intro (covS_syn (by first | rfl) rfl (by first | exact trivial | exact Nat.le_of_ble_eq_true rfl)) ?_ | refine And.intro (covS_bool rfl rfl (by first | rfl)) ?_)
          · repeat (first | exact trivial | refine And.intro (covE_id (Nat.le_of_ble_eq_true rfl) (by first | exact wf_ints _ _ | exact wf_bools _ _ | exact wf_shares _ _ | simp [C.wf]) rfl (by first | rfl | (fail))) ?_)
    · have hye : y = HN := by omega
      have hmn : m = s.Oil.length := by rw [hm, hye, hnWH, Nat.mul_comm]
      have hmA := mv_away hval hlen
      subst hmn
      repeat ((conv => whnf); first
          | (refine And.intro (by first | omega | exact Nat.le_of_ble_eq_true rfl | (dsimp only [inK]; omega) | (simp only [mulS_eq]; omega) | (simp only [mulS_eq, setL_length]; omega) | (simp only [setL_length, List.length_map]; omega) | exact ⟨by omega, by omega, by first | exact Nat.le_of_ble_eq_true rfl | (dsimp only; omega) | (simp only [setL_length]; omega) | (simp only [setL_length, List.length_map]; omega)⟩ | exact ⟨by omega, by first | rfl | omega, by omega, Nat.le_of_ble_eq_true rfl, Nat.le_of_ble_eq_true rfl⟩ | exact ⟨rfl, rfl, rfl, Nat.le_of_ble_eq_true rfl, by first | rfl | omega | exact Nat.le_of_ble_eq_true rfl | (simp; done) | (simp; omega), by first | rfl | omega | exact Nat.le_of_ble_eq_true rfl | (simp; done) | (simp; omega), by omega, Nat.le_of_ble_eq_true rfl⟩ | exact Eq.refl true) ?_)
          | (refine Exists.intro _ (And.intro rfl ?_))
          | (refine And.intro (And.intro rfl (chk_rowI _ _ _ _)) ?_)
          | (refine br_t (by omega) ?_)
          | (refine br_f (by omega) ?_)
          | (refine bs_t (by omega) ?_)
          | (refine bs_f (by omega) ?_)
          | (refine fun (K' : K3) hK' => ?_)
          | (refine hK' _ _ _ ?_; clear hK' K')
          | (refine draw_auto tok mixed (by kernel_rfl) ?_)
          | (refine CallK.m ?_)
          | (refine And.intro (And.intro rfl rfl) ?_))
      refine ⟨6, ?_, ?_⟩
      · rw [← hmA]; rfl
      · rw [mv_out hval hlen]; rfl
theorem rmove_any (v sv : Value) (B : Bay) (s : Slk) (w : World) (hv : BayAt w v B) (hs : SlkAt w sv s) (hval : validP B) (hlen : s.Oil.length = B.Share.length) (hK : 0 ≤ s.K ∧ s.K ≤ 4)
    (hO : ∀ k, k < s.Oil.length → 0 ≤ s.Oil.getD k 0 ∧ s.Oil.getD k 0 ≤ 2359296000) (hA : 0 ≤ s.Away ∧ s.Away ≤ 2359296000) :
    Calls Try.prog 87 #[v, sv] w fun e w' => ∃ rv, e = .returned rv ∧ SlkNew w.heap.size w' rv (mv B s) ∧ Below w.heap.size w w' := by
  obtain ⟨la, lc, sa, sc, rfl, hl, hsh, hll, hsl⟩ := hv
  obtain ⟨ao, c, rfl, hi, hn⟩ := hs
  let ρ : Env := fun l => match l with | 0 => (la, lc) | 1 => (sa, sc) | _ => (ao, c)
  have hp : Hp w.heap.size ρ w [⟨0, .ro 0, B.Land.map C.bool⟩, ⟨1, .ro 0, shareC B.Share⟩, ⟨2, .ro 0, s.Oil.map C.i⟩] 3 := by
    refine Hp.ros (fun e he => ?_) rfl
    simp only [List.mem_cons, List.not_mem_nil, or_false] at he
    rcases he with rfl | rfl | rfl
    · exact ⟨rfl, by simp, wf_bools _ _, by rw [den_bools]; exact hl⟩
    · exact ⟨rfl, by simp, wf_shares _ _, by rw [den_shares]; exact hsh⟩
    · exact ⟨rfl, by simp, wf_ints _ _, by rw [den_ints]; exact hi⟩
  have h := rmove_spec B s hll hsl hval hlen hK hO hA ρ w hp (by
    intro v hv
    simp only [List.mem_cons, List.not_mem_nil, or_false] at hv
    rcases hv with rfl | rfl <;> simp [V.wf, A.wf, C.wf, C.i])
  refine (show Calls Try.prog 87 #[.agg #[.int .i64 B.W, .int .i64 B.H, .slice la B.Land.length lc, .slice sa B.Share.length sc], .agg #[.int .i64 s.K, .slice ao s.Oil.length c, .int .i64 s.Away]] w _ from h).mono ?_
  rintro e w' ⟨v, ρ', L', nx', rfl, h1, h2, h3, h4, h5, l, rfl, hf⟩
  obtain ⟨g1, g2⟩ := h5.row hf
  rw [den_ints] at g1
  refine ⟨_, rfl, ⟨(ρ' l).1, (ρ' l).2, ?_, g1, by rw [mv_len]; exact hn, g2 rfl⟩, h4⟩
  rw [mv_len]; rfl
end Go.Proofs.Ytnafllhgjidbkaa

namespace Go.Proofs.Ytnafllhgjidbkaa
open Go.RowKit Go.Shelf
attribute [local go_sem] Oper.semAt_some
set_option linter.unusedVariables false

/-- What the blocks of a move hold when k cells have been gone over. -/
def MoveW (w : World) (bo bx : Nat) (bv : Array Value) (K : Int) (ao : Option Addr) (n c : Nat) (away : Int) (st : List Int × Int) (wr : World) : Prop :=
  Below w.heap.size w wr ∧ wr.heap[w.heap.size]? = some (.cells bv 25 (0, 0)) ∧ wr.heap[w.heap.size + 1]? = some (.cells #[.int .i64 K, .slice ao n c, .int .i64 away] 28 (0, 0)) ∧
  wr.heap[w.heap.size + 1 + 1]? = some (.cells #[.int .i64 0, .slice none 0 0, .int .i64 0] 28 (0, 0)) ∧
  wr.heap[bx]? = some (.cells #[.int .i64 (K + 1), .slice (some ⟨bo, 0, none⟩) n n, .int .i64 st.2] 28 (0, 0)) ∧ wr.heap[bo]? = some (.cells (st.1.map (Value.int .i64)).toArray 3 (0, 0))
def MoveI (w : World) (bo bx : Nat) (bv : Array Value) (K : Int) (ao : Option Addr) (n c : Nat) (away : Int) (st : Nat → List Int × Int) (a : Act) (wr : World) : Prop :=
  ∃ (k : Nat) (kk : Int) (ds : List Deferred) (u0 u1 u6 u7 u8 u9 u10 u11 u12 u13 u14 u15 u16 u17 u18 u19 u20 u24 u25 u26 u27 u28 u29 u30 u31 u32 u33 u34 u35 u36 u37 u38 u39 u40 u41 u42 u43 u44 u45 u46 u47 u48 u49 u50 u51 u52 u53 u54 u55 u56 : Value), kk = k ∧ k ≤ n ∧ a = { tmps := List.toArray (u0 :: u1 :: (.pointer (some ⟨w.heap.size, 0, none⟩)) :: (.pointer (some ⟨w.heap.size + 1, 0, none⟩)) :: (.pointer (some ⟨w.heap.size + 1 + 1, 0, none⟩)) :: (.pointer (some ⟨bx, 0, none⟩)) :: u6 :: u7 :: u8 :: u9 :: u10 :: u11 :: u12 :: u13 :: u14 :: u15 :: u16 :: u17 :: u18 :: u19 :: u20 :: (.slice ao n c) :: (.int .i64 n) :: (.int .i64 kk) :: u24 :: u25 :: u26 :: u27 :: u28 :: u29 :: u30 :: u31 :: u32 :: u33 :: u34 :: u35 :: u36 :: u37 :: u38 :: u39 :: u40 :: u41 :: u42 :: u43 :: u44 :: u45 :: u46 :: u47 :: u48 :: u49 :: u50 :: u51 :: u52 :: u53 :: u54 :: u55 :: u56 :: []), defers := ds } ∧ MoveW w bo bx bv K ao n c away (st k) wr ∧ Marks w.heap.size wr ds

set_option maxRecDepth 100000 in
set_option maxHeartbeats 1000000 in
theorem move_any (v sv : Value) (B : Bay) (s : Slk) (w : World) (hv : BayAt w v B) (hs : SlkAt w sv s) (hval : validP B) (hlen : s.Oil.length = B.Share.length) (hK : 0 ≤ s.K ∧ s.K ≤ 4)
    (hO : ∀ k, k < s.Oil.length → 0 ≤ s.Oil.getD k 0 ∧ s.Oil.getD k 0 ≤ 2359296000) (hA : 0 ≤ s.Away ∧ s.Away ≤ 2359296000) :
    Calls Try.prog 84 #[v, sv] w fun e w' => ∃ rv, e = .returned rv ∧ SlkNew w.heap.size w' rv (mv B s) ∧ Below w.heap.size w w' := by
  have hv0 := hv
  obtain ⟨la, lc, sa, sc, rfl, hl, hsh, hll, hsl⟩ := hv
  obtain ⟨ao, c, rfl, hi, hn⟩ := hs
  have hn100 : s.Oil.length ≤ 100 := by omega
  have HLEN := Lib.hid hlen
  have HO := Lib.hid hO
  have HV := Lib.hid hv0
  have HVAL := Lib.hid hval
  clear hlen hO hv0 hl hsh hval
  have hmk := make26 s.Oil.length (by omega)
  refine calls_of_wp_marks Try.func84 rfl ?_
  simp only [Try.ntmps84, List.size_toArray, List.length_cons, List.length_nil, Nat.reduceAdd, Nat.reduceSub, Array.replicate_succ, Array.replicate_zero, List.push_toArray, List.append_toArray, List.nil_append, List.cons_append]
  go_wp2
  generalize hW : (((w.alloc _).alloc _).alloc _) = W
  have h0 : W.cell? ⟨w.heap.size + 1, 0, none⟩ = some (.int .i64 s.K) := by rw [← hW]; simp [go_sem]
  have h1 : W.cell? ⟨w.heap.size + 1, 1, none⟩ = some (.slice ao s.Oil.length c) := by rw [← hW]; simp [go_sem]
  have h2 : W.cell? ⟨w.heap.size + 1, 2, none⟩ = some (.int .i64 s.Away) := by rw [← hW]; simp [go_sem]
  have hWb : Below w.heap.size w W := by rw [← hW]; exact (((Below.refl _ _).alloc (Nat.le_refl _) _).alloc (by simp) _).alloc (by simp <;> omega) _
  have hWs : W.heap.size = w.heap.size + 3 := by rw [← hW]; simp
  have hW0 : W.heap[w.heap.size]? = some (.cells #[.int .i64 B.W, .int .i64 B.H, .slice la B.Land.length lc, .slice sa B.Share.length sc] 25 (0, 0)) := by
    rw [← hW]; exact heap_alloc_old (heap_alloc_old (World.alloc_heap_new _ _) _) _
  have hW1 : W.heap[w.heap.size + 1]? = some (.cells #[.int .i64 s.K, .slice ao s.Oil.length c, .int .i64 s.Away] 28 (0, 0)) := by
    rw [← hW]; exact heap_alloc_old (by have := World.alloc_heap_new (w.alloc (.cells #[.int .i64 B.W, .int .i64 B.H, .slice la B.Land.length lc, .slice sa B.Share.length sc] 25)) (.cells #[.int .i64 s.K, .slice ao s.Oil.length c, .int .i64 s.Away] 28); rwa [World.size_alloc] at this) _
  have hW2 : W.heap[w.heap.size + 1 + 1]? = some (.cells #[.int .i64 0, .slice none 0 0, .int .i64 0] 28 (0, 0)) := by
    rw [← hW]; have := World.alloc_heap_new ((w.alloc (.cells #[.int .i64 B.W, .int .i64 B.H, .slice la B.Land.length lc, .slice sa B.Share.length sc] 25)).alloc (.cells #[.int .i64 s.K, .slice ao s.Oil.length c, .int .i64 s.Away] 28)) (.cells #[.int .i64 0, .slice none 0 0, .int .i64 0] 28); rwa [World.size_alloc, World.size_alloc] at this
  clear hW
  rename_i KK hKK
  have key : ∀ (bo bx : Nat) (W2 : World) (u0 u1 u6 u7 u8 u9 u10 u11 u12 u13 u14 u15 u16 u17 u18 u19 u20 u21 u22 u23 u24 u25 u26 u27 u28 u29 u30 u31 u32 u33 u34 u35 u36 u37 u38 u39 u40 u41 u42 u43 u44 u45 u46 u47 u48 u49 u50 u51 u52 u53 u54 u55 u56 : Value), bo ≠ bx → W.heap.size ≤ bo → W.heap.size ≤ bx → Below W.heap.size W W2 → W2.heap[bo]? = some (.cells (zeros s.Oil.length) 3 (0, 0)) →
      W2.heap[bx]? = some (.cells #[.int .i64 (s.K + 1), .slice (some ⟨bo, 0, none⟩) s.Oil.length s.Oil.length, .int .i64 (16 * s.Away)] 28 (0, 0)) → KK { tmps := List.toArray (u0 :: u1 :: (.pointer (some ⟨w.heap.size, 0, none⟩)) :: (.pointer (some ⟨w.heap.size + 1, 0, none⟩)) :: (.pointer (some ⟨w.heap.size + 1 + 1, 0, none⟩)) :: (.pointer (some ⟨bx, 0, none⟩)) :: u6 :: u7 :: u8 :: u9 :: u10 :: u11 :: u12 :: u13 :: u14 :: u15 :: u16 :: u17 :: u18 :: u19 :: u20 :: u21 :: u22 :: u23 :: u24 :: u25 :: u26 :: u27 :: u28 :: u29 :: u30 :: u31 :: u32 :: u33 :: u34 :: u35 :: u36 :: u37 :: u38 :: u39 :: u40 :: u41 :: u42 :: u43 :: u44 :: u45 :: u46 :: u47 :: u48 :: u49 :: u50 :: u51 :: u52 :: u53 :: u54 :: u55 :: u56 :: []), defers := [] } W2 := by
    intro bo bx W2 u0 u1 u6 u7 u8 u9 u10 u11 u12 u13 u14 u15 u16 u17 u18 u19 u20 u21 u22 u23 u24 u25 u26 u27 u28 u29 u30 u31 u32 u33 u34 u35 u36 u37 u38 u39 u40 u41 u42 u43 u44 u45 u46 u47 u48 u49 u50 u51 u52 u53 u54 u55 u56 hne hbo hbx hbel hZ hX
    apply hKK
    have g0 := (hbel.block _ (by omega)).trans hW0
    have g1 := (hbel.block _ (by omega)).trans hW1
    have g2 := (hbel.block _ (by omega)).trans hW2
    have c1 := cell_of_heap g1 1
    simp at c1
    have HG : Hid (MoveW w bo bx #[.int .i64 B.W, .int .i64 B.H, .slice la B.Land.length lc, .slice sa B.Share.length sc] s.K ao s.Oil.length c s.Away (mvUp B s 0) W2) :=
      ⟨hWb.trans (hbel.mono hWb.size), g0, g1, g2, hX, by rw [hZ]; simp [mvUp, zeros]⟩
    clear hZ hX g0 g1 g2 h0 h1 h2 hW0 hW1 hW2 hKK
    go_wp2
    refine wp_loop (MoveI w bo bx #[.int .i64 B.W, .int .i64 B.H, .slice la B.Land.length lc, .slice sa B.Share.length sc] s.K ao s.Oil.length c s.Away (mvUp B s)) (fun a _ => s.Oil.length - (intOf (a.tmps.getD 23 undef)).toNat) ⟨0, _, [], _, _, _, _, _, _, _, _, _, _, _, _, _, _, _, _, _, _, _, _, _, _, _, _, _, _, _, _, _, _, _, _, _, _, _, _, _, _, _, _, _, _, _, _, _, _, _, _, _, _, rfl, Nat.zero_le _, rfl, HG.out, trivial⟩ ?_
    rintro _ wr ⟨k, _, ds, u0, u1, u6, u7, u8, u9, u10, u11, u12, u13, u14, u15, u16, u17, u18, u19, u20, u24, u25, u26, u27, u28, u29, u30, u31, u32, u33, u34, u35, u36, u37, u38, u39, u40, u41, u42, u43, u44, u45, u46, u47, u48, u49, u50, u51, u52, u53, u54, u55, u56, rfl, hk, rfl, ⟨hb, g0, g1, g2, gx, go⟩, hm⟩
    have HX := Lib.hid gx
    have HO' := Lib.hid go
    have HG0 := Lib.hid g0
    have HG1 := Lib.hid g1
    have HG2 := Lib.hid g2
    have d0 := cell_of_heap g0 0
    have d1 := cell_of_heap g0 1
    have d2 := cell_of_heap g0 2
    have d3 := cell_of_heap g0 3
    simp at d0 d1 d2 d3
    clear gx go g0 g1 g2 c1
    by_cases hlt : k < s.Oil.length
    · obtain ⟨bi, oi, rfl, hbi, hci⟩ := (hi.below (Nat.le_refl _) hb).get hlt
      have hxr := HO.out k hlt
      generalize hx : s.Oil.getD k 0 = x at hci hxr
      have HXX := Lib.hid hx
      clear hx
      have hwi : w.heap.size < wr.heap.size := heap_lt HG0.out
      go_wp2_with (first | (go_at_call 90; refine (flows_any _ _ _ _ _ _ _ _ _ _).mono ?_; rintro e w1 ⟨rfl, rfl⟩))
      clear d0 d1 d2 d3 hci
      generalize hW1 : (((wr.alloc _).alloc _).alloc _) = W1
      have s1 : W1.heap.size = wr.heap.size + 3 := by rw [← hW1]; simp
      have e0 : W1.heap[wr.heap.size]? = some (.cells #[.int .i64 x] 3 (0, 0)) := by rw [← hW1]; exact heap_alloc_old (heap_alloc_old (World.alloc_heap_new _ _) _) _
      have e1 : W1.heap[wr.heap.size + 1]? = some (.cells #[.int .i64 B.W, .int .i64 B.H, .slice la B.Land.length lc, .slice sa B.Share.length sc] 25 (0, 0)) := by
        rw [← hW1]; exact heap_alloc_old (by have := World.alloc_heap_new (wr.alloc (.cells #[.int .i64 x] 3)) (.cells #[.int .i64 B.W, .int .i64 B.H, .slice la B.Land.length lc, .slice sa B.Share.length sc] 25); rwa [World.size_alloc] at this) _
      have e2 : W1.heap[wr.heap.size + 1 + 1]? = some (.cells #[.int .i64 k] 3 (0, 0)) := by
        rw [← hW1]; have := World.alloc_heap_new ((wr.alloc (.cells #[.int .i64 x] 3)).alloc (.cells #[.int .i64 B.W, .int .i64 B.H, .slice la B.Land.length lc, .slice sa B.Share.length sc] 25)) (.cells #[.int .i64 k] 3); rwa [World.size_alloc, World.size_alloc] at this
      have e3 : Below wr.heap.size wr W1 := by rw [← hW1]; exact (((Below.refl _ _).alloc (Nat.le_refl _) _).alloc (by simp) _).alloc (by simp <;> omega) _
      clear hW1
      have hbxlt : bx < wr.heap.size := heap_lt HX.out
      have hbolt : bo < wr.heap.size := heap_lt HO'.out
      have hks : k < B.Share.length := by have := HLEN.out; omega
      have hbxw : w.heap.size ≤ bx := by omega
      have hbow : w.heap.size ≤ bo := by omega
      have h36 : s.Oil.length ≤ 36 := by
        have h1 := mul36 HVAL.out.1.1 HVAL.out.1.2 HVAL.out.2.1.1 HVAL.out.2.1.2
        have h2 := HVAL.out.2.2.2.1; have := HLEN.out; omega
      have hbdk := mvUp_bd (by omega) HVAL.out HLEN.out HO.out hA k (by omega)
      refine wp_range (gf := 98) (lb := #[.pointer (some ⟨wr.heap.size + 1, 0, none⟩), .pointer (some ⟨wr.heap.size + 1 + 1, 0, none⟩)]) rfl (enters_of Try.func98 (by kernel_rfl) rfl)
        (flows_stops w.heap.size (wr.heap.size + 1) (wr.heap.size + 1 + 1) w B _ k W1 ⟨by omega, _, _, _, _, rfl, (cell_of_heap e1 0), (cell_of_heap e1 1), (cell_of_heap e1 2), (cell_of_heap e1 3)⟩ (by omega) (cell_of_heap e2 0) HV.out (hb.trans (e3.mono hb.size)) rfl HVAL.out hks)
        (fun h k => KeepS.trans h k) (fun W l o hl => KeepS.putObj W l o (by have := hb.size; rintro (h | rfl | rfl) <;> omega)) (fun _ => rfl)
        (fun pre W => Upto W1.heap.size (fun b => b = bx ∨ b = bo) W1 W ∧ W.heap[bx]? = some (.cells #[.int .i64 (s.K + 1), .slice (some ⟨bo, 0, none⟩) s.Oil.length s.Oil.length, .int .i64 (((pre.map (·.1)).foldl (stepF x) (mvUp B s k)).2)] 28 (0, 0)) ∧
          W.heap[bo]? = some (.cells ((((pre.map (·.1)).foldl (stepF x) (mvUp B s k)).1).map (Value.int .i64)).toArray 3 (0, 0)))
        (fun _ _ _ => False)
        (OwnFrom.and (own_upto (Nat.le_refl _)) (OwnFrom.and (own_cells bx _ _ _) (own_cells bo _ _ _)))
        (fun _ _ _ _ _ hs _ _ => hs)
        ⟨Upto.refl _ _ _, (e3.block _ hbxlt).trans HX.out, (e3.block _ hbolt).trans HO'.out⟩
        (fun y a' W => ∃ (fb : Nat) (y0 y1 y2 y3 y4 y6 y9 y10 y11 y12 y13 y14 y15 y16 y17 y18 y19 y20 y21 y22 y23 y24 y25 y26 y27 y28 y29 y30 y31 y32 y33 y34 y35 y36 y37 y38 y39 y40 y41 y42 y43 y44 y45 y46 y47 y48 y49 y50 y51 y52 y53 y54 y55 y56 : Value), W1.heap.size ≤ fb ∧ W.heap[fb]? = some (.cells #[.int .i64 y.1.1, .int .i64 y.1.2] 102 (0, 0)) ∧ a' = { tmps := List.toArray (y0 :: y1 :: y2 :: y3 :: y4 :: (.pointer (some ⟨bx, 0, none⟩)) :: y6 :: (.pointer (some ⟨wr.heap.size, 0, none⟩)) :: (.pointer (some ⟨fb, 0, none⟩)) :: y9 :: y10 :: y11 :: y12 :: y13 :: y14 :: y15 :: y16 :: y17 :: y18 :: y19 :: y20 :: y21 :: y22 :: y23 :: y24 :: y25 :: y26 :: y27 :: y28 :: y29 :: y30 :: y31 :: y32 :: y33 :: y34 :: y35 :: y36 :: y37 :: y38 :: y39 :: y40 :: y41 :: y42 :: y43 :: y44 :: y45 :: y46 :: y47 :: y48 :: y49 :: y50 :: y51 :: y52 :: y53 :: y54 :: y55 :: y56 :: []), defers := [] })
        (fun y a' => ?hAx) ?assign ?body ?done ?stop
      case hAx =>
        rintro _ W W' row ⟨fb, y0, y1, y2, y3, y4, y6, y9, y10, y11, y12, y13, y14, y15, y16, y17, y18, y19, y20, y21, y22, y23, y24, y25, y26, y27, y28, y29, y30, y31, y32, y33, y34, y35, y36, y37, y38, y39, y40, y41, y42, y43, y44, y45, y46, y47, y48, y49, y50, y51, y52, y53, y54, y55, y56, q1, q2, q3⟩ hg hr
        exact ⟨fb, y0, y1, y2, y3, y4, y6, y9, y10, y11, y12, y13, y14, y15, y16, y17, y18, y19, y20, y21, y22, y23, y24, y25, y26, y27, y28, y29, y30, y31, y32, y33, y34, y35, y36, y37, y38, y39, y40, y41, y42, y43, y44, y45, y46, y47, y48, y49, y50, y51, y52, y53, y54, y55, y56, q1, own_cells fb (fun (_ : Unit) => _) 102 (0, 0) () W W' row q2 hg hr, q3⟩
      case assign =>
        rintro l pre y W K ⟨hU, hx5, ho5⟩ hK
        have hsz := hU.size
        gi_wp2
        exact hK _ _ ((KeepsOthers.alloc _ _).from _) ((KeepS.refl _ _).alloc (by have := hb.size; rintro q (h | rfl | rfl) <;> omega) _) ⟨hU.alloc hsz _, heap_alloc_old hx5 _, heap_alloc_old ho5 _⟩
          ⟨W.heap.size, _, _, _, _, _, _, _, _, _, _, _, _, _, _, _, _, _, _, _, _, _, _, _, _, _, _, _, _, _, _, _, _, _, _, _, _, _, _, _, _, _, _, _, _, _, _, _, _, _, _, _, _, _, _, hsz, World.alloc_heap_new _ _, rfl⟩
      case body =>
        rintro l pre y a' W hl hr ⟨hU, hx5, ho5⟩ ⟨fb, y0, y1, y2, y3, y4, y6, y9, y10, y11, y12, y13, y14, y15, y16, y17, y18, y19, y20, y21, y22, y23, y24, y25, y26, y27, y28, y29, y30, y31, y32, y33, y34, y35, y36, y37, y38, y39, y40, y41, y42, y43, y44, y45, y46, y47, y48, y49, y50, y51, y52, y53, y54, y55, y56, hfb, hfc, rfl⟩ hlen
        have hfl := flow_bd HVAL.out hks y.1 y.2
        have hfold : ((pre ++ [y]).map (·.1)).foldl (stepF x) (mvUp B s k) = stepF x ((pre.map (·.1)).foldl (stepF x) (mvUp B s k)) y.1 := by
          rw [List.map_append, List.foldl_append]; rfl
        have hbd := bdd_fold hxr.1 hxr.2 (pre.map (·.1)) hbdk (by
          intro z hz; obtain ⟨z', _, rfl⟩ := List.mem_map.1 hz; exact (flow_bd HVAL.out hks z'.1 z'.2).2)
        rw [List.length_map] at hbd
        have hbd2 := bdd_mono hbd (by omega) (show 5 * k + pre.length ≤ 200 by omega)
        have hlenst : ((pre.map (·.1)).foldl (stepF x) (mvUp B s k)).1.length = s.Oil.length := by rw [foldF_len, mvUp_len]
        generalize (pre.map (·.1)).foldl (stepF x) (mvUp B s k) = st at hx5 ho5 hbd2 hlenst hfold
        have HFOLD := Lib.hid hfold
        obtain ⟨hb1, hb2, hb3⟩ := hbd2
        have q0 : W.cell? ⟨wr.heap.size, 0, none⟩ = some (.int .i64 x) := cell_of_heap ((hU.block _ (by omega) (by rintro (h | h) <;> omega)).trans e0) 0
        have f0 : W.cell? ⟨fb, 0, none⟩ = some (.int .i64 y.1.1) := cell_of_heap hfc 0
        have f1 : W.cell? ⟨fb, 1, none⟩ = some (.int .i64 y.1.2) := cell_of_heap hfc 1
        have x1 : W.cell? ⟨bx, 1, none⟩ = some (.slice (some ⟨bo, 0, none⟩) s.Oil.length s.Oil.length) := cell_of_heap hx5 1
        have x2 : W.cell? ⟨bx, 2, none⟩ = some (.int .i64 st.2) := cell_of_heap hx5 2
        have xf := free_of_heap hx5 2
        have HX5 := Lib.hid hx5
        have HO5 := Lib.hid ho5
        have HFC := Lib.hid hfc
        have HU := Lib.hid hU
        have HE0 := Lib.hid e0
        have hp0 : 0 ≤ x * y.1.2 := Int.mul_nonneg hxr.1 hfl.2.1
        have hp1 : x * y.1.2 ≤ 2359296000 * 16 := Int.le_trans (Int.mul_le_mul_of_nonneg_left hfl.2.2 hxr.1) (Int.mul_le_mul_of_nonneg_right hxr.2 (by omega))
        clear hfold hbd hbdk hx5 ho5 hfc hU e0
        rcases hfl.1 with hm1 | ⟨t, ht, htl⟩
        · rw [hm1] at f0
          have hst : stepF x st y.1 = (st.1, st.2 + x * y.1.2) := by unfold stepF; rw [if_pos hm1]
          have HST := Lib.hid hst
          have HB1 := Lib.hid hb1
          clear hst hm1 hb1
          gi_wp2
          refine ⟨(KeepsOthers.setCell _ _ _).from _, (KeepS.refl _ _).setCell (p := ⟨bx, 2, none⟩) (by rintro (h | h | h) <;> (simp at h; omega)) _, HU.out.setCell (.inr (.inl rfl)) _, ?_, ?_⟩
          · rw [HFOLD.out, HST.out]; exact heap_setCell_same HX5.out _
          · rw [HFOLD.out, HST.out]; exact (heap_setCell_other (by simp; omega) _).trans HO5.out
        · rw [ht] at f0
          have hbt := hb1 t
          have o1 : W.cell? ⟨bo, t, none⟩ = some (.int .i64 (st.1.getD t 0)) := by
            rw [cell_of_heap HO5.out t]; simp [List.getD_eq_getElem?_getD, hlenst, show t < s.Oil.length by have := HLEN.out; omega]
          have of := free_of_heap HO5.out t
          have hst : stepF x st y.1 = (st.1.set t (st.1.getD t 0 + x * y.1.2), st.2) := by unfold stepF; rw [if_neg (by omega), ht]; rfl
          generalize st.1.getD t 0 = ot at o1 hst hbt
          have HST := Lib.hid hst
          have HB1 := Lib.hid hb1
          have htl' : t < s.Oil.length := by have := HLEN.out; omega
          clear hst hb1 ht
          gi_wp2
          refine wpIn_region_tail 12 (by kernel_rfl) (by kernel_rfl) (by kernel_rfl) (fun ⟨_, _, h⟩ => h) ?_
          simp only [List.take_succ_cons, List.take_zero, List.drop_succ_cons, List.drop_zero]
          repeat still_step
          refine wpStill_nil ?_
          go_wp2
          refine ⟨((KeepsOthers.setCell _ _ _).trans (KeepsOthers.drew _)).from _, ((KeepS.refl _ _).setCell (p := ⟨bo, t, none⟩) (by rintro (h | h | h) <;> (simp at h; omega)) _).drew, (HU.out.setCell (.inr (.inr rfl)) _).drew, ?_, ?_⟩
          · rw [HFOLD.out, HST.out]; exact (heap_setCell_other (by simp; omega) _).trans HX5.out
          · rw [HFOLD.out, HST.out]; refine (heap_setCell_same HO5.out _).trans ?_
            simp [List.map_set]
      case stop => exact fun _ _ _ _ _ _ h => h.elim
      case done =>
        rintro D xs W hD hS ⟨hU, hx5, ho5⟩ hdD
        have hrow : (xs.map (·.1)).foldl (stepF x) (mvUp B s k) = mvUp B s (k + 1) := by rw [hS, mvUp_succ, rowF, HXX.out]
        rw [hrow] at hx5 ho5
        have hsz := hU.size
        have hbel1 : Below w.heap.size wr W := (e3.mono hb.size).trans (hU.below (by have := hb.size; omega) (by rintro q (rfl | rfl) <;> omega))
        have n0 : (wr.heap.size : Nat) ≤ D := by omega
        have hlow : ∀ q, q < wr.heap.size → q ≠ bx → q ≠ bo → W.heap[q]? = wr.heap[q]? := fun q hq h1 h2 => (hU.block q (by omega) (by rintro (h | h); exact h1 h; exact h2 h)).trans (e3.block q hq)
        have hne0 : w.heap.size + 1 + 1 < wr.heap.size := heap_lt HG2.out
        have hbx2 : w.heap.size + 1 + 1 < bx := by omega
        have hbo2 : w.heap.size + 1 + 1 < bo := by omega
        have HMW : Hid (MoveW w bo bx #[.int .i64 B.W, .int .i64 B.H, .slice la B.Land.length lc, .slice sa B.Share.length sc] s.K (some ⟨bi, oi, none⟩) s.Oil.length c s.Away (mvUp B s (k + 1)) W) :=
          ⟨hb.trans hbel1, (hlow _ (by omega) (by omega) (by omega)).trans HG0.out, (hlow _ (by omega) (by omega) (by omega)).trans HG1.out, (hlow _ hne0 (by omega) (by omega)).trans HG2.out, hx5, ho5⟩
        have HMK : Hid (Marks w.heap.size W ({ target := .collected D, args := #[] } :: ds)) := hm.cons n0 (by have := hb.size; omega) hdD (fun q hq h => (hlow q hq (by rintro rfl; rw [HX.out] at h; cases h) (by rintro rfl; rw [HO'.out] at h; cases h)).trans h)
        clear hx5 ho5 hrow hU hlow hdD hbel1 e0 e1 e2 e3 hm hbdk
        go_wp2
        refine ⟨⟨k + 1, _, _, _, _, _, _, _, _, _, _, _, _, _, _, _, _, _, _, _, _, _, _, _, _, _, _, _, _, _, _, _, _, _, _, _, _, _, _, _, _, _, _, _, _, _, _, _, _, _, _, _, _, ?_, by omega, rfl, HMW.out, HMK.out⟩, by simp [intOf]; omega⟩
        omega
    · obtain rfl : k = s.Oil.length := by omega
      have x0 := cell_of_heap HX.out 0
      have x1 := cell_of_heap HX.out 1
      have x2 := cell_of_heap HX.out 2
      simp at x0 x1 x2
      have r0 := cell_of_heap HG2.out 0
      have r1 := cell_of_heap HG2.out 1
      have r2 := cell_of_heap HG2.out 2
      simp at r0 r1 r2
      have rf0 := free_of_heap HG2.out 0
      have rf1 := free_of_heap HG2.out 1
      have rf2 := free_of_heap HG2.out 2
      have HM := Lib.hid hm
      clear hm d0 d1 d2 d3
      go_wp2
      have hwb : w.heap.size + 1 + 1 < W.heap.size := by omega
      refine leaves_marks (B := w.heap.size) ?_ ?_
      · refine HM.out.keep (fun D hD _ => ?_)
        have hne : D ≠ w.heap.size + 1 + 1 := by rintro rfl; rw [HG2.out] at hD; cases hD
        rw [heap_setCell_other hne, heap_setCell_other hne, heap_setCell_other hne]; exact hD
      · intro W' hU hC
        have hr := hC _ _ _ _ (heap_setCell_same (heap_setCell_same (heap_setCell_same HG2.out (i := 0) (.int .i64 (s.K + 1))) (i := 1) (.slice (some ⟨bo, 0, none⟩) s.Oil.length s.Oil.length)) (i := 2) (.int .i64 (mvUp B s s.Oil.length).snd))
        have ho := hC bo _ 3 (0, 0) (by rw [heap_setCell_other (by simp; omega), heap_setCell_other (by simp; omega), heap_setCell_other (by simp; omega)]; exact HO'.out)
        have c0 := cell_of_heap hr 0
        have c1 := cell_of_heap hr 1
        have c2 := cell_of_heap hr 2
        simp at c0 c1 c2
        refine ⟨.agg #[.int .i64 (s.K + 1), .slice (some ⟨bo, 0, none⟩) s.Oil.length s.Oil.length, .int .i64 (mvUp B s s.Oil.length).snd], ?_, _, rfl, ⟨some ⟨bo, 0, none⟩, s.Oil.length, ?_, ints_of_heap ho, ?_, ?_⟩, ?_⟩
        · simp [results, Try.results84, go_sem, c0, c1, c2]
        · show _ = Value.agg #[.int .i64 (s.K + 1), .slice _ (mvUp B s s.Oil.length).1.length _, _]; rw [mvUp_len]; rfl
        · show (mvUp B s s.Oil.length).1.length < _; rw [mvUp_len]; exact hn
        · intro a ha; cases ha; show w.heap.size ≤ bo; omega
        · exact ((hb.setCell (by simp; omega) _).setCell (by simp; omega) _).setCell (by simp; omega) _ |>.trans (hU.below (Nat.le_refl _) (fun _ h => h.elim))
  have h0' := h0
  have HWS := Lib.hid hWs
  have hw1 : IntKind.i64.wrap (s.K + 1) = s.K + 1 := IntWalk.i64_in _ (by omega)
  have hw2 : IntKind.i64.wrap (16 * s.Away) = 16 * s.Away := IntWalk.i64_in _ (by omega)
  have HW1 := Lib.hid hw1
  have HW2 := Lib.hid hw2
  clear hw1 hw2
  clear hKK hWs hW0 hW1 hW2
  go_region_held3 (fun w' => w'.cell? ⟨w.heap.size + 1, 0, none⟩ = some (.int .i64 s.K) ∧ w'.cell? ⟨w.heap.size + 1, 1, none⟩ = some (.slice ao s.Oil.length c) ∧ w'.cell? ⟨w.heap.size + 1, 2, none⟩ = some (.int .i64 s.Away)) (go_keep) (first | fail)
  · show KK _ _
    refine key W.heap.size (W.heap.size + 1) _ _ _ _ _ _ _ _ _ _ _ _ _ _ _ _ _ _ _ _ _ _ _ _ _ _ _ _ _ _ _ _ _ _ _ _ _ _ _ _ _ _ _ _ _ _ _ _ _ _ _ _ _ _ (by omega) (Nat.le_refl _) (by omega) ?_ ?_ ?_
    · exact (((Below.refl _ _).alloc (Nat.le_refl _) _).alloc (by simp) _).drew
    · exact heap_alloc_old (World.alloc_heap_new _ _) _
    · rw [HW1.out, HW2.out]
      have := World.alloc_heap_new (W.alloc (.cells (zeros s.Oil.length) 3)) (.cells #[.int .i64 (s.K + 1), .slice (some ⟨W.heap.size, 0, none⟩) s.Oil.length s.Oil.length, .int .i64 (16 * s.Away)] 28)
      rw [World.size_alloc] at this; exact this
  · show KK _ _
    refine key (W.heap.size + 1) W.heap.size _ _ _ _ _ _ _ _ _ _ _ _ _ _ _ _ _ _ _ _ _ _ _ _ _ _ _ _ _ _ _ _ _ _ _ _ _ _ _ _ _ _ _ _ _ _ _ _ _ _ _ _ _ _ (by omega) (by omega) (Nat.le_refl _) ?_ ?_ ?_
    · exact (((Below.refl _ _).alloc (Nat.le_refl _) _).alloc (by simp) _).drew
    · have := World.alloc_heap_new (W.alloc (.cells #[.int .i64 (s.K + 1), .slice (some ⟨W.heap.size + 1, 0, none⟩) s.Oil.length s.Oil.length, .int .i64 (16 * s.Away)] 28)) (.cells (zeros s.Oil.length) 3)
      rw [World.size_alloc] at this; rw [HW1.out, HW2.out]; exact this
    · rw [HW1.out, HW2.out]; exact heap_alloc_old (World.alloc_heap_new _ _) _
end Go.Proofs.Ytnafllhgjidbkaa

namespace Go.Proofs.Ytnafllhgjidbkaa
open Go.RowKit
set_option linter.unusedVariables false
set_option linter.unusedSimpArgs false

/-- Two variables and a place for a result, in three blocks of their own. -/
theorem three_new {w : World} (c0 c1 c2 : Array Value) (t0 t1 t2 : TypeId) :
    Below w.heap.size w (((w.alloc (.cells c0 t0)).alloc (.cells c1 t1)).alloc (.cells c2 t2)) ∧ (((w.alloc (.cells c0 t0)).alloc (.cells c1 t1)).alloc (.cells c2 t2)).heap.size = w.heap.size + 3 ∧
    (((w.alloc (.cells c0 t0)).alloc (.cells c1 t1)).alloc (.cells c2 t2)).heap[w.heap.size]? = some (.cells c0 t0 (0, 0)) ∧
    (((w.alloc (.cells c0 t0)).alloc (.cells c1 t1)).alloc (.cells c2 t2)).heap[w.heap.size + 1]? = some (.cells c1 t1 (0, 0)) ∧
    (((w.alloc (.cells c0 t0)).alloc (.cells c1 t1)).alloc (.cells c2 t2)).heap[w.heap.size + 1 + 1]? = some (.cells c2 t2 (0, 0)) := by
  refine ⟨(((Below.refl _ _).alloc (Nat.le_refl _) _).alloc (by simp) _).alloc (by simp <;> omega) _, by simp, heap_alloc_old (heap_alloc_old (World.alloc_heap_new _ _) _) _, ?_, ?_⟩
  · exact heap_alloc_old (by have := World.alloc_heap_new (w.alloc (.cells c0 t0)) (.cells c1 t1); rwa [World.size_alloc] at this) _
  · have := World.alloc_heap_new ((w.alloc (.cells c0 t0)).alloc (.cells c1 t1)) (.cells c2 t2); rwa [World.size_alloc, World.size_alloc] at this
theorem set3 (a b c x y z : Value) : ((#[a, b, c].setIfInBounds 0 x).setIfInBounds 1 y).setIfInBounds 2 z = #[x, y, z] := by simp

set_option maxHeartbeats 1000000 in
theorem after_any (v sv : Value) (B : Bay) (s : Slk) (n : Nat) (w : World) (hv : BayAt w v B) (hs : SlkAt w sv s) (hval : validP B) (hf : fitsP B s) (hn5 : s.K + n ≤ 5) :
    Calls Try.prog 61 #[v, sv, .int .i64 n] w fun e w' => ∃ rv, e = .returned rv ∧ SlkNew w.heap.size w' rv (mvN B s n) ∧ Below w.heap.size w w' := by
  have hv0 := hv
  obtain ⟨la, lc, sa, sc, rfl, hl, hsh, hll, hsl⟩ := hv
  obtain ⟨ao, c, rfl, hi, hn⟩ := hs
  have hlen := len_share hval hf
  have hn100 : s.Oil.length ≤ 100 := by omega
  have hn5' : n ≤ 5 := by have := hf.1; omega
  have HV := Lib.hid hv0
  have HVAL := Lib.hid hval
  have HF := Lib.hid hf
  clear hv0 hl hsh hval hf hlen
  obtain ⟨f0, f1, f2, f3, f4⟩ := three_new (w := w) #[.int .i64 B.W, .int .i64 B.H, .slice la B.Land.length lc, .slice sa B.Share.length sc] #[.int .i64 s.K, .slice ao s.Oil.length c, .int .i64 s.Away] #[.int .i64 0, .slice none 0 0, .int .i64 0] 25 28 28
  go_enter Try.func61, Try.ntmps61
  go_wp2_with fail
  generalize hW : (((w.alloc _).alloc _).alloc _) = W at *
  clear hW
  refine (clone_any ao c s.Oil W (hi.below (Nat.le_refl _) f0) (by omega)).mono ?_
  rintro e W1 ⟨rv, rfl, hown, hb1⟩
  obtain ⟨ao1, c1, rfl, hi1⟩ := ints_of_own hown
  have hfr : ∀ a, ao1 = some a → W.heap.size ≤ a.block := by
    rintro a rfl
    have := hown.lt a.block rfl; exact this.1
  have g0 := (hb1.block _ (by omega)).trans f2
  have g1 := (hb1.block _ (by omega)).trans f3
  have g2 := (hb1.block _ (by omega)).trans f4
  have t1 := cell_of_heap g1 1
  simp at t1
  have tf := free_of_heap g1 1
  have HB1 : Hid (Below w.heap.size w W1) := f0.trans (hb1.mono f0.size)
  have HG0 := Lib.hid g0
  have HG1 := Lib.hid g1
  have HG2 := Lib.hid g2
  have HF1 := Lib.hid f1
  have HI1 := Lib.hid hi1
  have HFR := Lib.hid hfr
  have HSZ : Hid (W.heap.size ≤ W1.heap.size) := hb1.size
  clear g0 g1 g2 f0 f1 f2 f3 f4 hb1 hown hi1 hfr
  go_wp2_with fail
  go_loopw [12] (fun i wr => ∃ (k : Nat) (ak : Option Addr) (ck : Nat), k ≤ n ∧ i = .int .i64 k ∧ Below w.heap.size w wr ∧ wr.heap[w.heap.size]? = some (.cells #[.int .i64 B.W, .int .i64 B.H, .slice la B.Land.length lc, .slice sa B.Share.length sc] 25 (0, 0)) ∧
      wr.heap[w.heap.size + 1]? = some (.cells #[.int .i64 (mvN B s k).K, .slice ak (mvN B s k).Oil.length ck, .int .i64 (mvN B s k).Away] 28 (0, 0)) ∧ wr.heap[w.heap.size + 1 + 1]? = some (.cells #[.int .i64 0, .slice none 0 0, .int .i64 0] 28 (0, 0)) ∧
      IntsAt wr ak (mvN B s k).Oil ∧ (∀ a, ak = some a → w.heap.size + 3 ≤ a.block)) (fun i _ => n - (intOf i).toNat)
  case atStart =>
    refine ⟨0, ao1, c1, Nat.zero_le _, rfl, HB1.out.setCell (by simp) _, (heap_setCell_other (by simp) _).trans HG0.out, (heap_setCell_same HG1.out _).trans (by simp [mvN]), (heap_setCell_other (by simp) _).trans HG2.out, ?_, ?_⟩
    · exact IntsAt.setCell HI1.out (fun a ha => by have := HFR.out a ha; have := HF1.out; simp; omega) _
    · intro a ha; have := HFR.out a ha; have := HF1.out; omega
  case round =>
    obtain ⟨k, ak, ck, hk, rfl, hb, g0, g1, g2, hik, hfk⟩ := hrel
    have d0 := cell_of_heap g0 0
    have d1 := cell_of_heap g0 1
    have d2 := cell_of_heap g0 2
    have d3 := cell_of_heap g0 3
    have s0 := cell_of_heap g1 0
    have s1 := cell_of_heap g1 1
    have s2 := cell_of_heap g1 2
    simp at d0 d1 d2 d3 s0 s1 s2
    have l1 := heap_lt g1
    have l2 := heap_lt g2
    have HB := Lib.hid hb
    have HG0 := Lib.hid g0
    have HG1 := Lib.hid g1
    have HG2 := Lib.hid g2
    have HIK := Lib.hid hik
    have HFK := Lib.hid hfk
    clear hb g0 g1 g2 hik hfk t1 tf
    by_cases hlt : k < n
    · have hfit := mvN_fits HVAL.out HF.out k (by omega)
      have hpre := move_pre HVAL.out hfit (by rw [mvN_K]; omega)
      have HC := Lib.hid (move_any _ (.agg #[.int .i64 (mvN B s k).K, .slice ak (mvN B s k).Oil.length ck, .int .i64 (mvN B s k).Away]) B (mvN B s k) wr (HV.out.below (Nat.le_refl _) HB.out) ⟨ak, ck, rfl, HIK.out, by rw [mvN_len]; omega⟩ HVAL.out hpre.1 hpre.2.1 hpre.2.2.1 hpre.2.2.2)
      clear hfit hpre
      have hmv : Hid (mvN B s (k + 1) = mv B (mvN B s k)) := rfl
      generalize hsk : mvN B s k = sk at *
      have HSK := Lib.hid hsk
      clear hsk
      go_wp2_with fail
      refine (HC.out).mono ?_
      rintro e w1 ⟨rv, rfl, ⟨a', c', rfl, hi', hn', hf'⟩, hb1⟩
      have e1 := (hb1.block _ l1).trans HG1.out
      have e2 := (hb1.block _ l2).trans HG2.out
      have e0 := (hb1.block _ (heap_lt HG0.out)).trans HG0.out
      have s0' := cell_of_heap e1 0
      have s1' := cell_of_heap e1 1
      have s2' := cell_of_heap e1 2
      simp at s0' s1' s2'
      have z0 := free_of_heap e1 0
      have z1 := free_of_heap e1 1
      have z2 := free_of_heap e1 2
      have HE0 := Lib.hid e0
      have HE1 := Lib.hid e1
      have HE2 := Lib.hid e2
      have HB1' := Lib.hid hb1
      have HI' := Lib.hid hi'
      have HF' := Lib.hid hf'
      clear e0 e1 e2 hb1 hi' hf' s0 s1 s2
      go_wp2
      go_roundw
      case rel =>
        refine ⟨k + 1, a', c', by omega, by go_num, ?_, ?_, ?_, ?_, ?_, ?_⟩
        · exact (((HB.out.trans (HB1'.out.mono HB.out.size)).setCell (by simp) _).setCell (by simp) _).setCell (by simp) _
        · exact (heap_setCell_other (by simp) _).trans ((heap_setCell_other (by simp) _).trans ((heap_setCell_other (by simp) _).trans HE0.out))
        · refine (heap_setCell_same (heap_setCell_same (heap_setCell_same HE1.out _) _) _).trans ?_
          rw [hmv.out, set3]
        · exact (heap_setCell_other (by simp) _).trans ((heap_setCell_other (by simp) _).trans ((heap_setCell_other (by simp) _).trans HE2.out))
        · rw [hmv.out]
          have hne : ∀ a, a' = some a → a.block ≠ w.heap.size + 1 := fun a ha => by have := HF'.out a ha; omega
          exact IntsAt.setCell (IntsAt.setCell (IntsAt.setCell HI'.out hne _) hne _) hne _
        · intro a ha; have := HF'.out a ha; omega
      case measure => simp [intOf]; omega
    · obtain rfl : k = n := by omega
      have r0 := cell_of_heap HG2.out 0
      have r1 := cell_of_heap HG2.out 1
      have r2 := cell_of_heap HG2.out 2
      simp at r0 r1 r2
      have z0 := free_of_heap HG2.out 0
      have z1 := free_of_heap HG2.out 1
      have z2 := free_of_heap HG2.out 2
      have hmk : Hid ((mvN B s k).Oil.length = s.Oil.length) := mvN_len B s k
      have hl2 : w.heap.size + 1 + 1 < wr.heap.size := l2
      have hrr := heap_setCell_same (heap_setCell_same (heap_setCell_same HG2.out (i := 0) (.int .i64 (mvN B s k).K)) (i := 1) (.slice ak (mvN B s k).Oil.length ck)) (i := 2) (.int .i64 (mvN B s k).Away)
      rw [set3] at hrr
      have HRR := Lib.hid hrr
      clear hrr
      go_wp2
      have c0 := cell_of_heap HRR.out 0
      have c1 := cell_of_heap HRR.out 1
      have c2 := cell_of_heap HRR.out 2
      simp at c0 c1 c2
      refine bodyPost_ret (v := .agg #[.int .i64 (mvN B s k).K, .slice ak (mvN B s k).Oil.length ck, .int .i64 (mvN B s k).Away]) (by simp [results, Try.results61, go_sem, c0, c1, c2]) rfl ⟨_, rfl, ⟨ak, ck, rfl, ?_, by rw [hmk.out]; omega, ?_⟩, ?_⟩
      · have hne : ∀ a, ak = some a → a.block ≠ w.heap.size + 1 + 1 := fun a ha => by have := HFK.out a ha; omega
        exact IntsAt.setCell (IntsAt.setCell (IntsAt.setCell HIK.out hne _) hne _) hne _
      · intro a ha; have := HFK.out a ha; omega
      · exact ((HB.out.setCell (by simp; omega) _).setCell (by simp; omega) _).setCell (by simp; omega) _
end Go.Proofs.Ytnafllhgjidbkaa

namespace Go.Proofs.Ytnafllhgjidbkaa
open Go.RowKit
set_option linter.unusedVariables false
set_option linter.unusedSimpArgs false

noncomputable def okE (B : Bay) (s : Slk) : Int := if validB B = true then (if fitsB B s = true then 0 else 21) else 20
theorem askE_one (B : Bay) (s : Slk) : askE B [s] = okE B s := by
  unfold askE okE
  split
  · have : allFitB B [s] = fitsB B s := by
      unfold allFitB allFit
      have : (∀ k, k < [s].length → fitsB B ([s].getD k ⟨0, [], 0⟩) = true) ↔ fitsB B s = true := by
        constructor
        · intro h; exact h 0 (by simp)
        · intro h k hk
          obtain rfl : k = 0 := by simpa using hk
          exact h
      simp only [this]; simp
    rw [this]
  · rfl
theorem slks_one {w : World} {ao : Option Addr} {c : Nat} {s : Slk} (hi : IntsAt w ao s.Oil) (hn : s.Oil.length < 1152921504606846976) :
    SlksAt (w.alloc (.cells #[.int .i64 s.K, .slice ao s.Oil.length c, .int .i64 s.Away] 28)) (some ⟨w.heap.size, 0, none⟩) [s] := by
  intro k hk
  obtain rfl : k = 0 := by simpa using hk
  have hh := World.alloc_heap_new w (.cells #[.int .i64 s.K, .slice ao s.Oil.length c, .int .i64 s.Away] 28)
  exact ⟨w.heap.size, 0, ao, c, rfl, by simp, cell_of_heap hh 0, cell_of_heap hh 1, cell_of_heap hh 2, hi.below (Nat.le_refl _) ((Below.refl _ _).alloc (Nat.le_refl _) _), hn⟩
theorem okE_cases (B : Bay) (s : Slk) : (okE B s = 0 ∧ validP B ∧ fitsP B s) ∨ okE B s = 20 ∨ okE B s = 21 := by
  unfold okE
  by_cases h1 : validP B
  · rw [if_pos (validB_true h1)]
    by_cases h2 : fitsP B s
    · rw [if_pos (fitsB_true h2)]; exact .inl ⟨rfl, h1, h2⟩
    · rw [if_neg (by rw [fitsB_false h2]; simp)]; exact .inr (.inr rfl)
  · rw [if_neg (by rw [validB_false h1]; simp)]; exact .inr (.inl rfl)

noncomputable def aftE (B : Bay) (s : Slk) (n : Int) : Int := if okE B s ≠ 0 then okE B s else if n < 0 ∨ 5 < n then 2 else if 5 < s.K + n then 4 else 0
noncomputable def aftS (B : Bay) (s : Slk) (n : Int) : Slk := if aftE B s n = 0 then mvN B s n.toNat else ⟨0, [], 0⟩
theorem zero_new (base : Nat) (w : World) : SlkNew base w (.agg #[.int .i64 0, .slice none 0 0, .int .i64 0]) ⟨0, [], 0⟩ :=
  ⟨none, 0, rfl, fun h => absurd rfl h, by simp, fun _ h => by cases h⟩

def Aft3 (w : World) (S : Slk) (E : Int) (e : Ending) (w' : World) : Prop := ∃ rv, e = .returned (.tuple #[rv, .int .i64 E]) ∧ SlkNew w.heap.size w' rv S ∧ Below w.heap.size w w'

set_option maxHeartbeats 2000000 in
theorem After_any (v sv : Value) (B : Bay) (s : Slk) (n : Int) (w : World) (hv : BayAt w v B) (hs : SlkAt w sv s) (hnn : -9223372036854775808 ≤ n ∧ n ≤ 9223372036854775807) :
    Calls Try.prog 20 #[v, sv, .int .i64 n] w (Aft3 w (aftS B s n) (aftE B s n)) := by
  have hv0 := hv
  have hs0 := hs
  obtain ⟨la, lc, sa, sc, rfl, hl, hsh, hll, hsl⟩ := hv
  obtain ⟨ao, c, rfl, hi, hn⟩ := hs
  obtain ⟨f0, f1, f2, f3, f4⟩ := three_new (w := w) #[.int .i64 B.W, .int .i64 B.H, .slice la B.Land.length lc, .slice sa B.Share.length sc] #[.int .i64 s.K, .slice ao s.Oil.length c, .int .i64 s.Away] #[.int .i64 0, .slice none 0 0, .int .i64 0] 25 28 28
  have HV := Lib.hid hv0
  have HS := Lib.hid hs0
  clear hv0 hs0 hl hsh
  have hask := askE_one B s
  have HASK := Lib.hid hask
  clear hask
  go_enter Try.func20, Try.ntmps20
  go_wp2_with fail
  generalize hW : (((w.alloc _).alloc _).alloc _) = W at *
  clear hW
  have hsl := slks_one (w := W) (ao := ao) (c := c) (s := s) (hi.below (Nat.le_refl _) f0) hn
  rw [f1] at hsl
  refine (asked_any _ B _ 1 [s] _ hsl (HV.out.below (Nat.le_refl _) (f0.trans ((Below.refl _ _).alloc (by omega) _))) (by simp)).mono ?_
  rintro e W1 ⟨rfl, hb1⟩
  rw [HASK.out]
  have hb2 : Below W.heap.size W W1 := ((Below.refl _ _).alloc (Nat.le_refl _) _).trans (hb1.mono (by simp))
  have g0 := (hb2.block _ (by omega)).trans f2
  have g1 := (hb2.block _ (by omega)).trans f3
  have g2 := (hb2.block _ (by omega)).trans f4
  have d0 := cell_of_heap g0 0
  have d1 := cell_of_heap g0 1
  have d2 := cell_of_heap g0 2
  have d3 := cell_of_heap g0 3
  have s0 := cell_of_heap g1 0
  have s1 := cell_of_heap g1 1
  have s2 := cell_of_heap g1 2
  have r0 := cell_of_heap g2 0
  have r1 := cell_of_heap g2 1
  have r2 := cell_of_heap g2 2
  simp at d0 d1 d2 d3 s0 s1 s2 r0 r1 r2
  have z0 := free_of_heap g2 0
  have z1 := free_of_heap g2 1
  have z2 := free_of_heap g2 2
  have l2 := heap_lt g2
  have HBW : Hid (Below w.heap.size w W1) := f0.trans (hb2.mono f0.size)
  have HG2 := Lib.hid g2
  have HF1 := Lib.hid f1
  clear f0 f1 f2 f3 f4 hb1 hb2 g0 g1 g2 hi
  have zeroend : ∀ E : Int, aftE B s n = E → E ≠ 0 → Hid (Aft3 w (aftS B s n) (aftE B s n) (.returned (.tuple #[.agg #[.int .i64 0, .slice none 0 0, .int .i64 0], .int .i64 E])) (((W1.setCell ⟨w.heap.size + 1 + 1, 0, none⟩ (.int .i64 0)).setCell ⟨w.heap.size + 1 + 1, 1, none⟩ (.slice none 0 0)).setCell ⟨w.heap.size + 1 + 1, 2, none⟩ (.int .i64 0))) := by
    intro E hE h0
    refine ⟨_, by rw [hE], ?_, ((HBW.out.setCell (by simp; omega) _).setCell (by simp; omega) _).setCell (by simp; omega) _⟩
    rw [show aftS B s n = ⟨0, [], 0⟩ from by unfold aftS; rw [hE, if_neg h0]]
    exact zero_new _ _
  rcases okE_cases B s with ⟨h0, hval, hfit⟩ | h0 | h0
  · rw [h0]
    by_cases hr : n < 0 ∨ 5 < n
    · have hE : aftE B s n = 2 := by unfold aftE; rw [if_neg (by simp [h0]), if_pos hr]
      have HZ := zeroend 2 hE (by decide)
      have hbt : betwB 0 n 5 = false := by unfold betwB; exact decide_eq_false (by omega)
      clear zeroend h0 hE hval hfit hr
      go_wp2_with (first | (go_at_call 60; refine (between_any _ _ _ _).mono ?_; rintro e w' ⟨rfl, rfl⟩))
      refine bodyPost_ret (v := .tuple #[.agg #[.int .i64 0, .slice none 0 0, .int .i64 0], .int .i64 2]) (by simp [results, Try.results20, go_sem, r0, r1, r2]) rfl HZ.out
    · have hbt : betwB 0 n 5 = true := by unfold betwB; exact decide_eq_true (by omega)
      have hK := hfit.1
      by_cases hk : 5 < s.K + n
      · have hE : aftE B s n = 4 := by unfold aftE; rw [if_neg (by simp [h0]), if_neg hr, if_pos hk]
        have HZ := zeroend 4 hE (by decide)
        have hnr : 0 ≤ n ∧ n ≤ 5 := by omega
        clear zeroend h0 hE hval hfit hr
        go_wp2_with (first | (go_at_call 60; refine (between_any _ _ _ _).mono ?_; rintro e w' ⟨rfl, rfl⟩))
        refine bodyPost_ret (v := .tuple #[.agg #[.int .i64 0, .slice none 0 0, .int .i64 0], .int .i64 4]) (by simp [results, Try.results20, go_sem, r0, r1, r2]) rfl HZ.out
      · have hE : aftE B s n = 0 := by unfold aftE; rw [if_neg (by simp [h0]), if_neg hr, if_neg hk]
        have hS : aftS B s n = mvN B s n.toNat := by unfold aftS; rw [hE, if_pos rfl]
        obtain ⟨m, rfl⟩ : ∃ m : Nat, n = m := ⟨n.toNat, by omega⟩
        rw [Int.toNat_natCast] at hS
        have HE := Lib.hid hE
        have HS2 := Lib.hid hS
        have HC := Lib.hid (after_any _ _ B s m W1 (HV.out.below (Nat.le_refl _) HBW.out) (HS.out.below (Nat.le_refl _) HBW.out) hval hfit (by omega))
        have hnr : (0 : Int) ≤ m ∧ (m : Int) ≤ 5 := by omega
        have hkk : s.K + m ≤ 5 := by omega
        clear zeroend h0 hE hval hfit hr hS hk
        go_wp2_with (first | (go_at_call 60; refine (between_any _ _ _ _).mono ?_; rintro e w' ⟨rfl, rfl⟩) | fail)
        refine (HC.out).mono ?_
        rintro e w1 ⟨rv, rfl, ⟨a', c', rfl, hi', hn', hf'⟩, hb1⟩
        have e2 := (hb1.block _ l2).trans HG2.out
        have r0' := cell_of_heap e2 0
        have r1' := cell_of_heap e2 1
        have r2' := cell_of_heap e2 2
        simp at r0' r1' r2'
        have z0' := free_of_heap e2 0
        have z1' := free_of_heap e2 1
        have z2' := free_of_heap e2 2
        have hne : Hid (∀ a, a' = some a → a.block ≠ w.heap.size + 1 + 1) := fun a ha => by have := hf' a ha; omega
        have HI' := Lib.hid hi'
        have HF' := Lib.hid hf'
        have HB' := Lib.hid hb1
        have hsz := HBW.out.size
        have hrr := heap_setCell_same (heap_setCell_same (heap_setCell_same e2 (i := 0) (.int .i64 (mvN B s m).K)) (i := 1) (.slice a' (mvN B s m).Oil.length c')) (i := 2) (.int .i64 (mvN B s m).Away)
        rw [set3] at hrr
        have HRR := Lib.hid hrr
        clear hrr e2 hi' hf' hb1 r0 r1 r2 z0 z1 z2
        go_wp2
        have c0 := cell_of_heap HRR.out 0
        have c1 := cell_of_heap HRR.out 1
        have c2 := cell_of_heap HRR.out 2
        simp at c0 c1 c2
        refine bodyPost_ret (v := .tuple #[.agg #[.int .i64 (mvN B s m).K, .slice a' (mvN B s m).Oil.length c', .int .i64 (mvN B s m).Away], .int .i64 0]) (by simp [results, Try.results20, go_sem, c0, c1, c2]) rfl ?_
        rw [HE.out, HS2.out]
        refine ⟨_, rfl, ⟨a', c', rfl, ?_, hn', ?_⟩, ?_⟩
        · exact IntsAt.setCell (IntsAt.setCell (IntsAt.setCell HI'.out hne.out _) hne.out _) hne.out _
        · intro a ha; have := HF'.out a ha; omega
        · exact (((HBW.out.trans (HB'.out.mono hsz)).setCell (by simp; omega) _).setCell (by simp; omega) _).setCell (by simp; omega) _
  · rw [h0]
    have HZ := zeroend 20 (by unfold aftE; rw [if_pos (by rw [h0]; decide), h0]) (by decide)
    clear zeroend h0
    go_wp2
    refine bodyPost_ret (v := .tuple #[.agg #[.int .i64 0, .slice none 0 0, .int .i64 0], .int .i64 20]) (by simp [results, Try.results20, go_sem, r0, r1, r2]) rfl HZ.out
  · rw [h0]
    have HZ := zeroend 21 (by unfold aftE; rw [if_pos (by rw [h0]; decide), h0]) (by decide)
    clear zeroend h0
    go_wp2
    refine bodyPost_ret (v := .tuple #[.agg #[.int .i64 0, .slice none 0 0, .int .i64 0], .int .i64 21]) (by simp [results, Try.results20, go_sem, r0, r1, r2]) rfl HZ.out
end Go.Proofs.Ytnafllhgjidbkaa

namespace Go.Proofs.Ytnafllhgjidbkaa
open Go.RowKit
set_option linter.unusedVariables false
set_option linter.unusedSimpArgs false

theorem asked_one (v : Value) (B : Bay) (s : Slk) (ao : Option Addr) (c b : Nat) (w W : World) (hv : BayAt w v B) (hi : IntsAt w ao s.Oil) (hn : s.Oil.length < 1152921504606846976) (hW : Below w.heap.size w W) (hb : W.heap.size = b) :
    Calls Try.prog 59 #[v, .slice (some ⟨b, 0, none⟩) 1 1] (W.alloc (.cells #[.int .i64 s.K, .slice ao s.Oil.length c, .int .i64 s.Away] 28)) fun e w' => e = .returned (.int .i64 (okE B s)) ∧ Below (W.alloc (.cells #[.int .i64 s.K, .slice ao s.Oil.length c, .int .i64 s.Away] 28)).heap.size (W.alloc (.cells #[.int .i64 s.K, .slice ao s.Oil.length c, .int .i64 s.Away] 28)) w' := by
  have hsl := slks_one (w := W) (ao := ao) (c := c) (s := s) (hi.below (Nat.le_refl _) hW) hn
  rw [hb] at hsl
  have h := asked_any v B (some ⟨b, 0, none⟩) 1 [s] _ hsl (hv.below (Nat.le_refl _) (hW.alloc hW.size _)) (by simp)
  rw [askE_one] at h
  exact h

theorem okE_bd (B : Bay) (s : Slk) : okE B s = 0 ∨ okE B s = 20 ∨ okE B s = 21 := by
  rcases okE_cases B s with h | h | h
  · exact .inl h.1
  · exact .inr (.inl h)
  · exact .inr (.inr h)
noncomputable def fitE (B : Bay) (s : Slk) : Int := if okE B s = 20 then 20 else 0

set_option maxHeartbeats 1000000 in
theorem Fits_any (v sv : Value) (B : Bay) (s : Slk) (w : World) (hv : BayAt w v B) (hs : SlkAt w sv s) :
    Calls Try.prog 33 #[v, sv] w fun e w' => e = .returned (.tuple #[.bool (decide (okE B s = 0)), .int .i64 (fitE B s)]) ∧ Below w.heap.size w w' := by
  have hv0 := hv
  obtain ⟨la, lc, sa, sc, rfl, hl, hsh, hll, hsl⟩ := hv
  obtain ⟨ao, c, rfl, hi, hn⟩ := hs
  have HV := Lib.hid hv0
  have HI := Lib.hid hi
  clear hv0 hl hsh hi
  have HF : Hid (fitE B s = if okE B s = 20 then 20 else 0) := rfl
  generalize fitE B s = F at *
  obtain ⟨E, hE⟩ : ∃ E, E = okE B s := ⟨_, rfl⟩
  have hbd := okE_bd B s
  rw [← hE] at hbd HF ⊢
  have HE := Lib.hid hE
  clear hE
  go_enter Try.func33, Try.ntmps33
  go_wp2_with fail
  refine (asked_one _ B s _ _ _ w _ HV.out HI.out hn (((Below.refl _ _).alloc (Nat.le_refl _) _).alloc (by simp) _) (by simp)).mono ?_
  rintro e w1 ⟨rfl, hb1⟩
  have HB : Hid (Below w.heap.size w w1) := ((((Below.refl _ _).alloc (Nat.le_refl _) _).alloc (by simp) _).alloc (by simp <;> omega) _).trans (hb1.mono (by simp <;> omega))
  clear hb1
  rw [← HE.out]
  clear HE
  rcases hbd with rfl | rfl | rfl
  all_goals
    go_wp2
    go_ret2
    exact ⟨by rw [HF.out]; rfl, HB.out⟩

set_option maxHeartbeats 1000000 in
theorem rasked_any (v sv : Value) (B : Bay) (s : Slk) (w : World) (hv : BayAt w v B) (hs : SlkAt w sv s) :
    Calls Try.prog 62 #[v, sv] w fun e w' => e = .returned (.int .i64 (okE B s)) ∧ Below w.heap.size w w' := by
  have hv0 := hv
  have hs0 := hs
  obtain ⟨la, lc, sa, sc, rfl, hl, hsh, hll, hsl⟩ := hv
  obtain ⟨ao, c, rfl, hi, hn⟩ := hs
  have HV := Lib.hid hv0
  have HS := Lib.hid hs0
  clear hv0 hs0 hl hsh hi
  have HO : Hid (okE B s = if validB B = true then (if fitsB B s = true then 0 else 21) else 20) := rfl
  have HVB : Hid (validB B = true → validP B) := fun h => by
    by_cases h1 : validP B
    · exact h1
    · rw [validB_false h1] at h; cases h
  generalize okE B s = E at *
  go_enter Try.func62, Try.ntmps62
  go_wp2_with fail
  refine (rvalid_any _ B _ (HV.out.below (Nat.le_refl _) (((Below.refl _ _).alloc (Nat.le_refl _) _).alloc (by simp) _))).mono ?_
  rintro e w1 ⟨rfl, hb1⟩
  have HB : Hid (Below w.heap.size w w1) := (((Below.refl _ _).alloc (Nat.le_refl _) _).alloc (by simp) _).trans (hb1.mono (by simp <;> omega))
  obtain ⟨hc1, hf1⟩ := bcell hb1
  clear hb1
  cases hvb : validB B
  · rw [hvb] at HO
    go_wp2
    go_ret
    exact ⟨by rw [HO.out]; rfl, HB.out⟩
  · have HVP := Lib.hid (HVB.out hvb)
    rw [hvb] at HO
    go_wp2_with fail
    refine (is_any _ _ B s _ (HV.out.below (Nat.le_refl _) HB.out) (HS.out.below (Nat.le_refl _) HB.out) HVP.out).mono ?_
    rintro e w2 ⟨rfl, hb2⟩
    have HB2 : Hid (Below w.heap.size w w2) := HB.out.trans (hb2.mono HB.out.size)
    clear hb2 hc1 hf1
    cases hfb : fitsB B s
    · rw [hfb] at HO
      go_wp2
      go_ret
      exact ⟨by rw [HO.out]; rfl, HB2.out⟩
    · rw [hfb] at HO
      go_wp2
      go_ret
      exact ⟨by rw [HO.out]; rfl, HB2.out⟩

set_option maxHeartbeats 1000000 in
theorem rFits_any (v sv : Value) (B : Bay) (s : Slk) (w : World) (hv : BayAt w v B) (hs : SlkAt w sv s) :
    Calls Try.prog 34 #[v, sv] w fun e w' => e = .returned (.tuple #[.bool (decide (okE B s = 0)), .int .i64 (fitE B s)]) ∧ Below w.heap.size w w' := by
  have hv0 := hv
  have hs0 := hs
  obtain ⟨la, lc, sa, sc, rfl, hl, hsh, hll, hsl⟩ := hv
  obtain ⟨ao, c, rfl, hi, hn⟩ := hs
  have HV := Lib.hid hv0
  have HS := Lib.hid hs0
  clear hv0 hs0 hl hsh hi
  have HO : Hid (okE B s = if validB B = true then (if fitsB B s = true then 0 else 21) else 20) := rfl
  have HVB : Hid (validB B = true → validP B) := fun h => by
    by_cases h1 : validP B
    · exact h1
    · rw [validB_false h1] at h; cases h
  have HF : Hid (fitE B s = if okE B s = 20 then 20 else 0) := rfl
  generalize fitE B s = F at *
  generalize okE B s = E at *
  go_enter Try.func34, Try.ntmps34
  go_wp2_with fail
  refine (rvalid_any _ B _ (HV.out.below (Nat.le_refl _) (((Below.refl _ _).alloc (Nat.le_refl _) _).alloc (by simp) _))).mono ?_
  rintro e w1 ⟨rfl, hb1⟩
  have HB : Hid (Below w.heap.size w w1) := (((Below.refl _ _).alloc (Nat.le_refl _) _).alloc (by simp) _).trans (hb1.mono (by simp <;> omega))
  obtain ⟨hc1, hf1⟩ := bcell hb1
  clear hb1
  cases hvb : validB B
  · rw [hvb] at HO
    go_wp2
    go_ret2
    exact ⟨by rw [HF.out, HO.out]; rfl, HB.out⟩
  · have HVP := Lib.hid (HVB.out hvb)
    rw [hvb] at HO
    go_wp2_with fail
    refine (is_any _ _ B s _ (HV.out.below (Nat.le_refl _) HB.out) (HS.out.below (Nat.le_refl _) HB.out) HVP.out).mono ?_
    rintro e w2 ⟨rfl, hb2⟩
    have HB2 : Hid (Below w.heap.size w w2) := HB.out.trans (hb2.mono HB.out.size)
    clear hb2 hc1 hf1
    cases hfb : fitsB B s
    · rw [hfb] at HO
      go_wp2
      go_ret2
      exact ⟨by rw [HF.out, HO.out]; rfl, HB2.out⟩
    · rw [hfb] at HO
      go_wp2
      go_ret2
      exact ⟨by rw [HF.out, HO.out]; rfl, HB2.out⟩
end Go.Proofs.Ytnafllhgjidbkaa

namespace Go.Proofs.Ytnafllhgjidbkaa
open Go.RowKit Go.Shelf
set_option linter.unusedVariables false
set_option linter.unusedSimpArgs false

/-- The bounds of a slick that fits. -/
theorem fits_bd {B : Bay} {s : Slk} (hval : validP B) (h : fitsP B s) : s.Oil.length ≤ 36 ∧ s.Oil.length = B.Land.length ∧ (∀ k, k < s.Oil.length → 0 ≤ s.Oil.getD k 0 ∧ s.Oil.getD k 0 ≤ 37748736000) ∧ (0 ≤ s.Away ∧ s.Away ≤ 37748736000) ∧ (0 ≤ s.Oil.sum ∧ s.Oil.sum ≤ 37748736000) := by
  have hp := mul36 hval.1.1 hval.1.2 hval.2.1.1 hval.2.1.2
  have h1 := hval.2.2.1
  have h2 := h.2.1
  obtain ⟨q1, q2⟩ := pow_bd s.K h.1.1 h.1.2
  have hl : lim s.K = 36000 * 16 ^ s.K.toNat := rfl
  have hr : ∀ k, k < s.Oil.length → 0 ≤ s.Oil.getD k 0 ∧ s.Oil.getD k 0 ≤ lim s.K := fun k hk => okB_iff.1 (amtB_iff.1 h.2.2.1 k hk)
  have hs := sum_bd100 s.Oil (by omega) (by omega) hr
  have h4 := h.2.2.2
  refine ⟨by omega, by omega, fun k hk => ?_, by omega, by omega⟩
  have := hr k hk
  omega

noncomputable def totV (B : Bay) (s : Slk) : Int := if okE B s = 0 then s.Away + s.Oil.sum else 0

set_option maxHeartbeats 1000000 in
theorem Total_any (v sv : Value) (B : Bay) (s : Slk) (w : World) (hv : BayAt w v B) (hs : SlkAt w sv s) :
    Calls Try.prog 30 #[v, sv] w fun e w' => e = .returned (.tuple #[.int .i64 (totV B s), .int .i64 (okE B s)]) ∧ Below w.heap.size w w' := by
  have hv0 := hv
  obtain ⟨la, lc, sa, sc, rfl, hl, hsh, hll, hsl⟩ := hv
  obtain ⟨ao, c, rfl, hi, hn⟩ := hs
  have HV := Lib.hid hv0
  have HI := Lib.hid hi
  clear hv0 hl hsh hi
  have HF : Hid (totV B s = if okE B s = 0 then s.Away + s.Oil.sum else 0) := rfl
  generalize totV B s = F at *
  have hcs := okE_cases B s
  obtain ⟨E, hE⟩ : ∃ E, E = okE B s := ⟨_, rfl⟩
  rw [← hE] at hcs HF ⊢
  have HE := Lib.hid hE
  clear hE
  go_enter Try.func30, Try.ntmps30
  go_wp2_with fail
  refine (asked_one _ B s _ _ _ w _ HV.out HI.out hn (((Below.refl _ _).alloc (Nat.le_refl _) _).alloc (by simp) _) (by simp)).mono ?_
  rintro e w1 ⟨rfl, hb1⟩
  have HB : Hid (Below w.heap.size w w1) := ((((Below.refl _ _).alloc (Nat.le_refl _) _).alloc (by simp) _).alloc (by simp <;> omega) _).trans (hb1.mono (by simp <;> omega))
  obtain ⟨hc1, hf1⟩ := bcell hb1
  have hsz : w.heap.size + 3 ≤ w1.heap.size := by have := hb1.size; simp at this; omega
  clear hb1
  rw [← HE.out]
  clear HE
  rcases hcs with ⟨rfl, hval, hfit⟩ | rfl | rfl
  · obtain ⟨b1, -, b3, b4, b5⟩ := fits_bd hval hfit
    have HS : Hid (∀ x : Aft w1, Calls Try.prog 69 #[.slice ao s.Oil.length c] x.val fun e w' => e = .returned (.int .i64 s.Oil.sum) ∧ x.val = w') := fun x => sum_any ao c s.Oil 37748736000 x.val (HI.out.below (Nat.le_refl _) (HB.out.trans (x.bel.mono HB.out.size))) (by omega) (by omega) b3
    have d1 : ∀ x : Aft w1, x.val.cell? ⟨w.heap.size + 1, 1, none⟩ = some (.slice ao s.Oil.length c) := fun x => (x.bel.cell (p := ⟨w.heap.size + 1, 1, none⟩) (by show w.heap.size + 1 < _; omega)).trans (by rw [hc1 _ _ (by simp <;> omega)]; simp [go_sem])
    have d2 : ∀ x : Aft w1, x.val.cell? ⟨w.heap.size + 1, 2, none⟩ = some (.int .i64 s.Away) := fun x => (x.bel.cell (p := ⟨w.heap.size + 1, 2, none⟩) (by show w.heap.size + 1 < _; omega)).trans (by rw [hc1 _ _ (by simp <;> omega)]; simp [go_sem])
    clear hval hfit b3
    generalize s.Oil.sum = S at *
    go_wp2
    refine wp_region_aft (by kernel_rfl) (by kernel_rfl) ?_
    repeat (go_big_quiet_step ((go_at_call 69; rename_i x; exact Calls.aft_same (HS.out x))))
    refine wpQuiet_nil ?_
    rintro _ ⟨x, rfl⟩
    go_wp2
    go_ret2
    exact ⟨by rw [HF.out, Int.add_comm s.Away]; rfl, HB.out.trans (x.bel.mono HB.out.size)⟩
  all_goals
    go_wp2
    go_ret2
    exact ⟨by rw [HF.out]; rfl, HB.out⟩

set_option maxHeartbeats 1000000 in
theorem rTotal_any (v sv : Value) (B : Bay) (s : Slk) (w : World) (hv : BayAt w v B) (hs : SlkAt w sv s) :
    Calls Try.prog 36 #[v, sv] w fun e w' => e = .returned (.tuple #[.int .i64 (totV B s), .int .i64 (okE B s)]) ∧ Below w.heap.size w w' := by
  have hv0 := hv
  have hs0 := hs
  obtain ⟨la, lc, sa, sc, rfl, hl, hsh, hll, hsl⟩ := hv
  obtain ⟨ao, c, rfl, hi, hn⟩ := hs
  have HV := Lib.hid hv0
  have HS := Lib.hid hs0
  clear hv0 hs0 hl hsh hi
  have HF : Hid (totV B s = if okE B s = 0 then s.Away + s.Oil.sum else 0) := rfl
  generalize totV B s = F at *
  have hcs := okE_cases B s
  obtain ⟨E, hE⟩ : ∃ E, E = okE B s := ⟨_, rfl⟩
  rw [← hE] at hcs HF ⊢
  have HE := Lib.hid hE
  clear hE
  go_enter Try.func36, Try.ntmps36
  go_wp2_with fail
  refine (rasked_any _ _ B s _ (HV.out.below (Nat.le_refl _) (((Below.refl _ _).alloc (Nat.le_refl _) _).alloc (by simp) _)) (HS.out.below (Nat.le_refl _) (((Below.refl _ _).alloc (Nat.le_refl _) _).alloc (by simp) _))).mono ?_
  rintro e w1 ⟨rfl, hb1⟩
  have HB : Hid (Below w.heap.size w w1) := ((((Below.refl _ _).alloc (Nat.le_refl _) _).alloc (by simp) _)).trans (hb1.mono (by simp <;> omega))
  obtain ⟨hc1, hf1⟩ := bcell hb1
  clear hb1
  rw [← HE.out]
  clear HE
  rcases hcs with ⟨rfl, hval, hfit⟩ | rfl | rfl
  · obtain ⟨b1, -, b3, b4, b5⟩ := fits_bd hval hfit
    have HT := Lib.hid (totZ_yes ((fits_tot hfit.2.1).1 hfit))
    have HC := Lib.hid (total_any _ s w1 (HS.out.below (Nat.le_refl _) HB.out) (by omega))
    clear hval hfit b3
    go_wp2_with fail
    refine (HC.out).mono ?_
    rintro e w2 ⟨rfl, hb2⟩
    rw [HT.out]
    have HB2 : Hid (Below w.heap.size w w2) := HB.out.trans (hb2.mono HB.out.size)
    clear hb2 hc1 hf1
    go_wp2
    go_ret2
    exact ⟨by rw [HF.out]; rfl, HB2.out⟩
  all_goals
    go_wp2
    go_ret2
    exact ⟨by rw [HF.out]; rfl, HB.out⟩

def chosenL (B : Bay) (oil : List Int) (land : Bool) (n c : Nat) : List Int := (List.range n).map (fun i => if i < c ∧ B.Land.getD i false = land then oil.getD i 0 else 0)
theorem chosenL_len (B : Bay) (oil : List Int) (land : Bool) (n c : Nat) : (chosenL B oil land n c).length = n := by simp [chosenL]
theorem chosenL_zero (B : Bay) (oil : List Int) (land : Bool) (n : Nat) : chosenL B oil land n 0 = List.replicate n 0 := by
  unfold chosenL; simp only [Nat.not_lt_zero, false_and, if_false]; rw [List.map_const']; simp
theorem chosenL_get (B : Bay) (oil : List Int) (land : Bool) {n c i : Nat} (h : i < n) : (chosenL B oil land n c).getD i 0 = if i < c ∧ B.Land.getD i false = land then oil.getD i 0 else 0 := by
  unfold chosenL; simp [List.getD_eq_getElem?_getD, h]
theorem chosenL_skip {B : Bay} {oil : List Int} {land : Bool} {n c : Nat} (h : B.Land.getD c false ≠ land) : chosenL B oil land n (c + 1) = chosenL B oil land n c := by
  unfold chosenL
  apply List.map_congr_left
  intro i hi
  by_cases e : i = c
  · subst e; rw [if_neg (fun h' => h h'.2), if_neg (fun h' => h h'.2)]
  · by_cases hc : i < c
    · by_cases hl : B.Land.getD i false = land
      · rw [if_pos ⟨by omega, hl⟩, if_pos ⟨hc, hl⟩]
      · rw [if_neg (fun h' => hl h'.2), if_neg (fun h' => hl h'.2)]
    · rw [if_neg (fun h' => by omega), if_neg (fun h' => by omega)]
theorem chosenL_set {B : Bay} {oil : List Int} {land : Bool} {n c : Nat} (h : B.Land.getD c false = land) : (chosenL B oil land n c).set c (oil.getD c 0) = chosenL B oil land n (c + 1) := by
  apply List.ext_getElem?
  intro i
  unfold chosenL
  rw [List.getElem?_set]
  by_cases hn : i < n
  · by_cases e : c = i
    · subst e; simp [hn]; intro h'; exact absurd (by simpa [List.getD_eq_getElem?_getD] using h) h'
    · rw [if_neg e]
      have : (i < c + 1 ↔ i < c) := by omega
      simp [hn, this]
  · by_cases e : c = i
    · subst e; simp [hn]
    · rw [if_neg e]; simp [hn]
def landsL (B : Bay) (oil : List Int) (land : Bool) : List Int := chosenL B oil land oil.length oil.length

/-- What chosen's blocks hold. -/
def ChoW (w : World) (bv sv : Array Value) (out : List Int) (wr : World) : Prop :=
  Below w.heap.size w wr ∧ wr.heap[w.heap.size]? = some (.cells bv 25 (0, 0)) ∧ wr.heap[w.heap.size + 1]? = some (.cells sv 28 (0, 0)) ∧ wr.heap[w.heap.size + 1 + 1]? = some (.cells (out.map (Value.int .i64)).toArray 3 (0, 0))

def IntsNew (base : Nat) (w : World) (v : Value) (l : List Int) : Prop := ∃ ao c, v = .slice ao l.length c ∧ IntsAt w ao l ∧ ∀ a, ao = some a → base ≤ a.block

set_option maxHeartbeats 1000000 in
theorem chosen_any (v sv : Value) (B : Bay) (s : Slk) (land : Bool) (w : World) (hv : BayAt w v B) (hs : SlkAt w sv s) (hn : s.Oil.length ≤ B.Land.length) (h100 : s.Oil.length ≤ 1000) :
    Calls Try.prog 70 #[v, sv, .bool land] w fun e w' => ∃ rv, e = .returned rv ∧ IntsNew w.heap.size w' rv (landsL B s.Oil land) ∧ Below w.heap.size w w' := by
  obtain ⟨la, lc, sa, sc, rfl, hl, hsh, hll, hsl⟩ := hv
  obtain ⟨ao, c, rfl, hi, _⟩ := hs
  have HL := Lib.hid hl
  have HI := Lib.hid hi
  clear hl hsh hi
  have hmk := make26 s.Oil.length (by omega)
  go_enter Try.func70, Try.ntmps70
  go_wp2
  generalize hW : (((w.alloc _).alloc _).alloc _) = W
  have HW : Hid (ChoW w #[.int .i64 B.W, .int .i64 B.H, .slice la B.Land.length lc, .slice sa B.Share.length sc] #[.int .i64 s.K, .slice ao s.Oil.length c, .int .i64 s.Away] (chosenL B s.Oil land s.Oil.length 0) W) := by
    obtain ⟨f0, f1, f2, f3, f4⟩ := three_new (w := w) #[.int .i64 B.W, .int .i64 B.H, .slice la B.Land.length lc, .slice sa B.Share.length sc] #[.int .i64 s.K, .slice ao s.Oil.length c, .int .i64 s.Away] (zeros s.Oil.length) 25 28 3
    rw [← hW]
    refine ⟨f0, f2, f3, ?_⟩
    rw [chosenL_zero]; simpa [zeros] using f4
  clear hW hmk
  go_loopw [17] (fun i wr => ∃ k : Nat, k ≤ s.Oil.length ∧ i = .int .i64 k ∧ ChoW w #[.int .i64 B.W, .int .i64 B.H, .slice la B.Land.length lc, .slice sa B.Share.length sc] #[.int .i64 s.K, .slice ao s.Oil.length c, .int .i64 s.Away] (chosenL B s.Oil land s.Oil.length k) wr) (fun i _ => s.Oil.length - (intOf i).toNat)
  case atStart => exact ⟨0, Nat.zero_le _, rfl, HW.out⟩
  case round =>
    obtain ⟨k, hk, rfl, hb, g0, g1, g2⟩ := hrel
    have d2 := cell_of_heap g0 2
    have d3 := cell_of_heap g0 3
    simp at d2 d3
    have l0 := heap_lt g0
    have l2 := heap_lt g2
    have HB := Lib.hid hb
    have G0 := Lib.hid g0
    have G1 := Lib.hid g1
    have G2 := Lib.hid g2
    clear g0 g1
    by_cases hlt : k < s.Oil.length
    · obtain ⟨bl, ol, rfl, hbl, hcl⟩ := (HL.out.below (Nat.le_refl _) HB.out).get (k := k) (by omega)
      obtain ⟨bi, oi, rfl, hbi, hci⟩ := (HI.out.below (Nat.le_refl _) HB.out).get hlt
      have hkl : (k : Int) < B.Land.length := by omega
      have hg : wr.cell? ⟨w.heap.size + 1 + 1, k, none⟩ = some (.int .i64 0) := by
        rw [cell_of_heap g2 k]; simp [chosenL, hlt]
      have hfz := free_of_heap g2 k
      clear g2
      have hskip := Lib.hid (fun h => chosenL_skip (B := B) (oil := s.Oil) (land := land) (n := s.Oil.length) (c := k) h)
      have hset := Lib.hid (fun h => chosenL_set (B := B) (oil := s.Oil) (land := land) (n := s.Oil.length) (c := k) h)
      generalize B.Land.getD k false = ld at *
      generalize s.Oil.getD k 0 = x at *
      by_cases he : ld = land
      · have hbq : (ld == land) = true := by simp [he]
        have HQ := Lib.hid (hset.out he)
        clear hskip hset he
        go_wp2
        go_roundw
        case rel =>
          refine ⟨k + 1, by omega, by go_num, HB.out.setCell (by simp; omega) _, (heap_setCell_other (by simp; omega) _).trans G0.out, (heap_setCell_other (by simp) _).trans G1.out, (heap_setCell_same G2.out _).trans ?_⟩
          rw [← HQ.out]; simp [List.map_set]
        case measure => simp [intOf]; omega
      · have hbq : (ld == land) = false := by simp [he]
        have HQ := Lib.hid (hskip.out he)
        clear hskip hset he
        go_wp2
        go_roundw
        case rel => exact ⟨k + 1, by omega, by go_num, HB.out, G0.out, G1.out, by rw [HQ.out]; exact G2.out⟩
        case measure => simp [intOf]; omega
    · obtain rfl : k = s.Oil.length := by omega
      clear g2
      go_wp2
      go_ret
      exact ⟨_, rfl, ⟨some ⟨w.heap.size + 1 + 1, 0, none⟩, s.Oil.length, by rw [landsL, chosenL_len]; rfl, ints_of_heap G2.out, fun a ha => by cases ha; show w.heap.size ≤ w.heap.size + 1 + 1; omega⟩, HB.out⟩
end Go.Proofs.Ytnafllhgjidbkaa

namespace Go.Proofs.Ytnafllhgjidbkaa
open Go.RowKit Go.Shelf
set_option linter.unusedVariables false
set_option linter.unusedSimpArgs false

noncomputable def floatV (B : Bay) (s : Slk) : Int := if okE B s = 0 then (landsL B s.Oil false).sum else 0
noncomputable def beachL (B : Bay) (s : Slk) : List Int := if okE B s = 0 then landsL B s.Oil true else []
theorem lands_get (B : Bay) (oil : List Int) (land : Bool) {i : Nat} (h : i < oil.length) : (landsL B oil land).getD i 0 = if B.Land.getD i false = land then oil.getD i 0 else 0 := by
  rw [landsL, chosenL_get B oil land h]
  by_cases hl : B.Land.getD i false = land
  · rw [if_pos ⟨h, hl⟩, if_pos hl]
  · rw [if_neg (fun h' => hl h'.2), if_neg hl]
theorem lands_len (B : Bay) (oil : List Int) (land : Bool) : (landsL B oil land).length = oil.length := chosenL_len ..
theorem lands_bd {B : Bay} {oil : List Int} {land : Bool} {M : Int} (hM : 0 ≤ M) (h : ∀ k, k < oil.length → 0 ≤ oil.getD k 0 ∧ oil.getD k 0 ≤ M) : ∀ k, k < (landsL B oil land).length → 0 ≤ (landsL B oil land).getD k 0 ∧ (landsL B oil land).getD k 0 ≤ M := by
  intro k hk
  rw [lands_len] at hk
  rw [lands_get B oil land hk]
  split
  · exact h k hk
  · exact ⟨Int.le_refl _, hM⟩

set_option maxHeartbeats 1000000 in
theorem Afloat_any (v sv : Value) (B : Bay) (s : Slk) (w : World) (hv : BayAt w v B) (hs : SlkAt w sv s) :
    Calls Try.prog 37 #[v, sv] w fun e w' => e = .returned (.tuple #[.int .i64 (floatV B s), .int .i64 (okE B s)]) ∧ Below w.heap.size w w' := by
  have hv0 := hv
  have hs0 := hs
  obtain ⟨la, lc, sa, sc, rfl, hl, hsh, hll, hsl⟩ := hv
  obtain ⟨ao, c, rfl, hi, hn⟩ := hs
  have HV := Lib.hid hv0
  have HS := Lib.hid hs0
  have HI := Lib.hid hi
  clear hv0 hs0 hl hsh hi
  have HF : Hid (floatV B s = if okE B s = 0 then (landsL B s.Oil false).sum else 0) := rfl
  generalize floatV B s = F at *
  have hcs := okE_cases B s
  obtain ⟨E, hE⟩ : ∃ E, E = okE B s := ⟨_, rfl⟩
  rw [← hE] at hcs HF ⊢
  have HE := Lib.hid hE
  clear hE
  go_enter Try.func37, Try.ntmps37
  go_wp2_with fail
  refine (asked_one _ B s _ _ _ w _ HV.out HI.out hn (((Below.refl _ _).alloc (Nat.le_refl _) _).alloc (by simp) _) (by simp)).mono ?_
  rintro e w1 ⟨rfl, hb1⟩
  have HB : Hid (Below w.heap.size w w1) := ((((Below.refl _ _).alloc (Nat.le_refl _) _).alloc (by simp) _).alloc (by simp <;> omega) _).trans (hb1.mono (by simp <;> omega))
  obtain ⟨hc1, hf1⟩ := bcell hb1
  clear hb1
  rw [← HE.out]
  clear HE
  rcases hcs with ⟨rfl, hval, hfit⟩ | rfl | rfl
  · obtain ⟨b1, b2, b3, b4, b5⟩ := fits_bd hval hfit
    have HC := Lib.hid (chosen_any _ _ B s false w1 (HV.out.below (Nat.le_refl _) HB.out) (HS.out.below (Nat.le_refl _) HB.out) (by omega) (by omega))
    have B3 := Lib.hid b3
    clear hval hfit b3 b2
    go_wp2_with fail
    refine (HC.out).mono ?_
    rintro e w2 ⟨rv, rfl, ⟨a', c', rfl, hi2, _⟩, hb2⟩
    have HS2 := Lib.hid (sum_any a' c' (landsL B s.Oil false) 37748736000 w2 hi2 (by rw [lands_len]; omega) (by omega) (lands_bd (by omega) B3.out))
    have HB2 : Hid (Below w.heap.size w w2) := HB.out.trans (hb2.mono HB.out.size)
    have HFF := Lib.hid (show F = (landsL B s.Oil false).sum from by have := HF.out; simpa using this)
    clear hi2 hb2 hc1 hf1
    go_wp2_with (first | (go_at_call 69; refine (HS2.out).mono ?_; rintro e w' ⟨rfl, rfl⟩))
    go_ret2
    exact ⟨by rw [HFF.out]; rfl, HB2.out⟩
  all_goals
    go_wp2
    go_ret2
    exact ⟨by rw [HF.out]; rfl, HB.out⟩

theorem new_nil (base : Nat) (w : World) : IntsNew base w (.slice none 0 0) [] := ⟨none, 0, rfl, fun h => absurd rfl h, fun _ h => by cases h⟩

set_option maxHeartbeats 1000000 in
theorem Beached_any (v sv : Value) (B : Bay) (s : Slk) (w : World) (hv : BayAt w v B) (hs : SlkAt w sv s) :
    Calls Try.prog 31 #[v, sv] w fun e w' => ∃ rv, e = .returned (.tuple #[rv, .int .i64 (okE B s)]) ∧ IntsNew w.heap.size w' rv (beachL B s) ∧ Below w.heap.size w w' := by
  have hv0 := hv
  have hs0 := hs
  obtain ⟨la, lc, sa, sc, rfl, hl, hsh, hll, hsl⟩ := hv
  obtain ⟨ao, c, rfl, hi, hn⟩ := hs
  have HV := Lib.hid hv0
  have HS := Lib.hid hs0
  have HI := Lib.hid hi
  clear hv0 hs0 hl hsh hi
  have HF : Hid (beachL B s = if okE B s = 0 then landsL B s.Oil true else []) := rfl
  generalize beachL B s = F at *
  have hcs := okE_cases B s
  obtain ⟨E, hE⟩ : ∃ E, E = okE B s := ⟨_, rfl⟩
  rw [← hE] at hcs HF ⊢
  have HE := Lib.hid hE
  clear hE
  go_enter Try.func31, Try.ntmps31
  go_wp2_with fail
  refine (asked_one _ B s _ _ _ w _ HV.out HI.out hn (((Below.refl _ _).alloc (Nat.le_refl _) _).alloc (by simp) _) (by simp)).mono ?_
  rintro e w1 ⟨rfl, hb1⟩
  have HB : Hid (Below w.heap.size w w1) := ((((Below.refl _ _).alloc (Nat.le_refl _) _).alloc (by simp) _).alloc (by simp <;> omega) _).trans (hb1.mono (by simp <;> omega))
  obtain ⟨hc1, hf1⟩ := bcell hb1
  clear hb1
  rw [← HE.out]
  clear HE
  rcases hcs with ⟨rfl, hval, hfit⟩ | rfl | rfl
  · obtain ⟨b1, b2, b3, b4, b5⟩ := fits_bd hval hfit
    have HC := Lib.hid (chosen_any _ _ B s true w1 (HV.out.below (Nat.le_refl _) HB.out) (HS.out.below (Nat.le_refl _) HB.out) (by omega) (by omega))
    have HFF := Lib.hid (show F = landsL B s.Oil true from by have := HF.out; simpa using this)
    clear hval hfit b3 b2
    go_wp2_with fail
    refine (HC.out).mono ?_
    rintro e w2 ⟨rv, rfl, ⟨a', c', rfl, hi2, hf2⟩, hb2⟩
    have HB2 : Hid (Below w.heap.size w w2) := HB.out.trans (hb2.mono HB.out.size)
    have HN : Hid (IntsNew w.heap.size w2 (.slice a' (landsL B s.Oil true).length c') (landsL B s.Oil true)) := ⟨a', c', rfl, hi2, fun a ha => Nat.le_trans HB.out.size (hf2 a ha)⟩
    clear hi2 hb2 hc1 hf1 hf2
    go_wp2
    go_ret2
    exact ⟨_, rfl, by rw [HFF.out]; exact HN.out, HB2.out⟩
  all_goals
    have HFF := Lib.hid (show F = [] from by have := HF.out; simpa using this)
    go_wp2
    go_ret2
    exact ⟨_, rfl, by rw [HFF.out]; exact new_nil _ _, HB.out⟩

set_option maxHeartbeats 1000000 in
theorem rAfloat_any (v sv : Value) (B : Bay) (s : Slk) (w : World) (hv : BayAt w v B) (hs : SlkAt w sv s) :
    Calls Try.prog 38 #[v, sv] w fun e w' => e = .returned (.tuple #[.int .i64 (floatV B s), .int .i64 (okE B s)]) ∧ Below w.heap.size w w' := by
  have hv0 := hv
  have hs0 := hs
  obtain ⟨la, lc, sa, sc, rfl, hl, hsh, hll, hsl⟩ := hv
  obtain ⟨ao, c, rfl, hi, hn⟩ := hs
  have HV := Lib.hid hv0
  have HS := Lib.hid hs0
  have HI := Lib.hid hi
  have HL := Lib.hid hl
  clear hv0 hs0 hl hsh hi
  have HF : Hid (floatV B s = if okE B s = 0 then (landsL B s.Oil false).sum else 0) := rfl
  generalize floatV B s = F at *
  have hcs := okE_cases B s
  obtain ⟨E, hE⟩ : ∃ E, E = okE B s := ⟨_, rfl⟩
  rw [← hE] at hcs HF ⊢
  have HE := Lib.hid hE
  clear hE
  go_enter Try.func38, Try.ntmps38
  go_wp2_with fail
  refine (rasked_any _ _ B s _ (HV.out.below (Nat.le_refl _) (((Below.refl _ _).alloc (Nat.le_refl _) _).alloc (by simp) _)) (HS.out.below (Nat.le_refl _) (((Below.refl _ _).alloc (Nat.le_refl _) _).alloc (by simp) _))).mono ?_
  rintro e w1 ⟨rfl, hb1⟩
  have HB : Hid (Below w.heap.size w w1) := ((((Below.refl _ _).alloc (Nat.le_refl _) _).alloc (by simp) _)).trans (hb1.mono (by simp <;> omega))
  obtain ⟨hc1, hf1⟩ := bcell hb1
  clear hb1
  rw [← HE.out]
  clear HE
  rcases hcs with ⟨rfl, hval, hfit⟩ | rfl | rfl
  · obtain ⟨b1, b2, b3, b4, b5⟩ := fits_bd hval hfit
    have B2 := Lib.hid b2
    have B3 := Lib.hid b3
    have HFF := Lib.hid (show F = (landsL B s.Oil false).sum from by have := HF.out; simpa using this)
    clear hval hfit b2 b3
    go_wp2
    go_loop [7, 8] (fun t i => ∃ k : Nat, k ≤ s.Oil.length ∧ i = .int .i64 k ∧ t = .int .i64 ((landsL B s.Oil false).take k).sum ∧ 0 ≤ ((landsL B s.Oil false).take k).sum ∧ ((landsL B s.Oil false).take k).sum ≤ k * 37748736000) (fun _ i => s.Oil.length - (intOf i).toNat)
    case atStart => exact ⟨0, Nat.zero_le _, rfl, by simp, by simp, by simp⟩
    case round =>
      obtain ⟨k, hk, rfl, rfl, hs0, hs1⟩ := hrel
      by_cases hlt : k < s.Oil.length
      · have hlb := B2.out
        obtain ⟨bl, ol, rfl, hbl, hcl⟩ := (HL.out.below (Nat.le_refl _) HB.out).get (k := k) (by omega)
        obtain ⟨bi, oi, rfl, hbi, hci⟩ := (HI.out.below (Nat.le_refl _) HB.out).get hlt
        have hkl : (k : Int) < B.Land.length := by omega
        have hts := take_sum_succ (l := landsL B s.Oil false) (k := k) (by rw [lands_len]; exact hlt)
        rw [lands_get B s.Oil false hlt] at hts
        have hxb := B3.out k hlt
        clear hlb
        generalize s.Oil.getD k 0 = x at *
        generalize ((landsL B s.Oil false).take k).sum = t at *
        generalize hld : B.Land.getD k false = ld at *
        clear hld
        have HT := Lib.hid hts
        clear hts
        cases ld
        · have HT2 := Lib.hid (show ((landsL B s.Oil false).take (k + 1)).sum = t + x from by have := HT.out; simpa using this)
          clear HT
          go_wp2
          go_round
          case rel => exact ⟨k + 1, by omega, by go_num, by rw [HT2.out], by rw [HT2.out]; omega, by rw [HT2.out]; omega⟩
          case measure => simp [intOf]; omega
        · have HT2 := Lib.hid (show ((landsL B s.Oil false).take (k + 1)).sum = t from by have := HT.out; simpa using this)
          clear HT
          go_wp2
          go_round
          case rel => exact ⟨k + 1, by omega, by go_num, by rw [HT2.out], by rw [HT2.out]; omega, by rw [HT2.out]; omega⟩
          case measure => simp [intOf]; omega
      · obtain rfl : k = s.Oil.length := by omega
        rw [show (landsL B s.Oil false).take s.Oil.length = landsL B s.Oil false from List.take_of_length_le (by rw [lands_len]; exact Nat.le_refl _)] at *
        go_wp2
        go_ret2
        exact ⟨by rw [HFF.out]; rfl, HB.out⟩
  all_goals
    go_wp2
    go_ret2
    exact ⟨by rw [HF.out]; rfl, HB.out⟩
end Go.Proofs.Ytnafllhgjidbkaa

namespace Go.Proofs.Ytnafllhgjidbkaa
open Go.RowKit Go.Shelf
set_option linter.unusedVariables false
set_option linter.unusedSimpArgs false

/-- What the reference's Beached holds. -/
def BeaW (w : World) (bo : Nat) (bv sv : Array Value) (out : List Int) (wr : World) : Prop :=
  Below w.heap.size w wr ∧ wr.heap[w.heap.size]? = some (.cells bv 25 (0, 0)) ∧ wr.heap[w.heap.size + 1]? = some (.cells sv 28 (0, 0)) ∧ wr.heap[bo]? = some (.cells (out.map (Value.int .i64)).toArray 3 (0, 0))

set_option maxHeartbeats 1000000 in
theorem rBeached_any (v sv : Value) (B : Bay) (s : Slk) (w : World) (hv : BayAt w v B) (hs : SlkAt w sv s) :
    Calls Try.prog 39 #[v, sv] w fun e w' => ∃ rv, e = .returned (.tuple #[rv, .int .i64 (okE B s)]) ∧ IntsNew w.heap.size w' rv (beachL B s) ∧ Below w.heap.size w w' := by
  have hv0 := hv
  have hs0 := hs
  obtain ⟨la, lc, sa, sc, rfl, hl, hsh, hll, hsl⟩ := hv
  obtain ⟨ao, c, rfl, hi, hn⟩ := hs
  have HV := Lib.hid hv0
  have HS := Lib.hid hs0
  have HI := Lib.hid hi
  have HL := Lib.hid hl
  clear hv0 hs0 hl hsh hi
  have HF : Hid (beachL B s = if okE B s = 0 then landsL B s.Oil true else []) := rfl
  generalize beachL B s = F at *
  have hcs := okE_cases B s
  obtain ⟨E, hE⟩ : ∃ E, E = okE B s := ⟨_, rfl⟩
  rw [← hE] at hcs HF ⊢
  have HE := Lib.hid hE
  clear hE
  go_enter Try.func39, Try.ntmps39
  go_wp2_with fail
  refine (rasked_any _ _ B s _ (HV.out.below (Nat.le_refl _) (((Below.refl _ _).alloc (Nat.le_refl _) _).alloc (by simp) _)) (HS.out.below (Nat.le_refl _) (((Below.refl _ _).alloc (Nat.le_refl _) _).alloc (by simp) _))).mono ?_
  rintro e w1 ⟨rfl, hb1⟩
  have HB : Hid (Below w.heap.size w w1) := ((((Below.refl _ _).alloc (Nat.le_refl _) _).alloc (by simp) _)).trans (hb1.mono (by simp <;> omega))
  have hG0 : w1.heap[w.heap.size]? = some (.cells #[.int .i64 B.W, .int .i64 B.H, .slice la B.Land.length lc, .slice sa B.Share.length sc] 25 (0, 0)) :=
    (hb1.block _ (by simp <;> omega)).trans (heap_alloc_old (World.alloc_heap_new _ _) _)
  have hG1 : w1.heap[w.heap.size + 1]? = some (.cells #[.int .i64 s.K, .slice ao s.Oil.length c, .int .i64 s.Away] 28 (0, 0)) := by
    refine (hb1.block _ (by simp <;> omega)).trans ?_
    have := World.alloc_heap_new (w.alloc (.cells #[.int .i64 B.W, .int .i64 B.H, .slice la B.Land.length lc, .slice sa B.Share.length sc] 25)) (.cells #[.int .i64 s.K, .slice ao s.Oil.length c, .int .i64 s.Away] 28)
    rwa [World.size_alloc] at this
  clear hb1
  rw [← HE.out]
  clear HE
  rcases hcs with ⟨rfl, hval, hfit⟩ | rfl | rfl
  · obtain ⟨b1, b2, b3, b4, b5⟩ := fits_bd hval hfit
    have B2 := Lib.hid b2
    have HFF := Lib.hid (show F = landsL B s.Oil true from by have := HF.out; simpa using this)
    have hmk := make26 s.Oil.length (by omega)
    have e0 := cell_of_heap hG1 1
    simp at e0
    have le0 := heap_lt hG1
    clear hval hfit b2 b3
    have HW : Hid (BeaW w w1.heap.size #[.int .i64 B.W, .int .i64 B.H, .slice la B.Land.length lc, .slice sa B.Share.length sc] #[.int .i64 s.K, .slice ao s.Oil.length c, .int .i64 s.Away] (chosenL B s.Oil true s.Oil.length 0) (w1.alloc (.cells (zeros s.Oil.length) 3))) := by
      refine ⟨HB.out.alloc HB.out.size _, heap_alloc_old hG0 _, heap_alloc_old hG1 _, (World.alloc_heap_new _ _).trans ?_⟩
      rw [chosenL_zero]; simp [zeros]
    clear hG0 hG1
    go_wp2
    have hbo := HB.out.size
    clear e0 hmk
    go_loopw [8] (fun i wr => ∃ k : Nat, k ≤ s.Oil.length ∧ i = .int .i64 k ∧ BeaW w w1.heap.size #[.int .i64 B.W, .int .i64 B.H, .slice la B.Land.length lc, .slice sa B.Share.length sc] #[.int .i64 s.K, .slice ao s.Oil.length c, .int .i64 s.Away] (chosenL B s.Oil true s.Oil.length k) wr) (fun i _ => s.Oil.length - (intOf i).toNat)
    case atStart => exact ⟨0, Nat.zero_le _, rfl, HW.out⟩
    case round =>
      obtain ⟨k, hk, rfl, hb, g0, g1, g2⟩ := hrel
      have d2 := cell_of_heap g0 2
      have s1 := cell_of_heap g1 1
      simp at d2 s1
      have l0 := heap_lt g0
      have l1 := heap_lt g1
      have l2 := heap_lt g2
      have HBb := Lib.hid hb
      have G0 := Lib.hid g0
      have G1 := Lib.hid g1
      have G2 := Lib.hid g2
      clear g0 g1 hb
      by_cases hlt : k < s.Oil.length
      · have hlb := B2.out
        obtain ⟨bl, ol, rfl, hbl, hcl⟩ := (HL.out.below (Nat.le_refl _) HBb.out).get (k := k) (by omega)
        obtain ⟨bi, oi, rfl, hbi, hci⟩ := (HI.out.below (Nat.le_refl _) HBb.out).get hlt
        have hkl : (k : Int) < B.Land.length := by omega
        have hg : wr.cell? ⟨w1.heap.size, k, none⟩ = some (.int .i64 0) := by
          rw [cell_of_heap g2 k]; simp [chosenL, hlt]
        have hfz := free_of_heap g2 k
        clear g2 hlb
        have hskip := Lib.hid (fun h => chosenL_skip (B := B) (oil := s.Oil) (land := true) (n := s.Oil.length) (c := k) h)
        have hset := Lib.hid (fun h => chosenL_set (B := B) (oil := s.Oil) (land := true) (n := s.Oil.length) (c := k) h)
        generalize B.Land.getD k false = ld at *
        generalize s.Oil.getD k 0 = x at *
        cases ld
        · have HQ := Lib.hid (hskip.out (by simp))
          clear hskip hset
          go_wp2
          go_roundw
          case rel => exact ⟨k + 1, by omega, by go_num, HBb.out, G0.out, G1.out, by rw [HQ.out]; exact G2.out⟩
          case measure => simp [intOf]; omega
        · have HQ := Lib.hid (hset.out rfl)
          clear hskip hset
          go_wp2
          go_roundw
          case rel =>
            refine ⟨k + 1, by omega, by go_num, HBb.out.setCell (by simp; omega) _, (heap_setCell_other (by simp; omega) _).trans G0.out, (heap_setCell_other (by simp; omega) _).trans G1.out, (heap_setCell_same G2.out _).trans ?_⟩
            rw [← HQ.out]; simp [List.map_set]
          case measure => simp [intOf]; omega
      · obtain rfl : k = s.Oil.length := by omega
        clear g2
        go_wp2
        go_ret2
        exact ⟨_, rfl, ⟨some ⟨w1.heap.size, 0, none⟩, s.Oil.length, by rw [HFF.out, lands_len]; rfl, by rw [HFF.out]; exact ints_of_heap G2.out, fun a ha => by cases ha; exact hbo⟩, HBb.out⟩
  all_goals
    have HFF := Lib.hid (show F = [] from by have := HF.out; simpa using this)
    go_wp2
    go_ret2
    exact ⟨_, rfl, by rw [HFF.out]; exact new_nil _ _, HB.out⟩

theorem Long_any (B : Bay) (w : World) (la sa : Option Addr) (lc sc : Nat) :
    Calls Try.prog 15 #[.agg #[.int .i64 B.W, .int .i64 B.H, .slice la B.Land.length lc, .slice sa B.Share.length sc]] w fun e w' => e = .returned (.bool (decide (100 < B.Land.length ∨ 100 < B.Share.length))) ∧ Below w.heap.size w w' := by
  by_cases h1 : 100 < B.Land.length
  · have hr : decide (100 < B.Land.length ∨ 100 < B.Share.length) = true := by simp [h1]
    have HR := Lib.hid hr
    have h1' : (100 : Int) < B.Land.length := by omega
    clear hr
    go_enter Try.func15, Try.ntmps15
    go_wp2
    go_ret
    exact ⟨ret_bool (by first | exact HR.out.symm | rfl), (Below.refl _ _).alloc (Nat.le_refl _) _⟩
  · by_cases h2 : 100 < B.Share.length
    · have hr : decide (100 < B.Land.length ∨ 100 < B.Share.length) = true := by simp [h2]
      have HR := Lib.hid hr
      have h1' : ¬ (100 : Int) < B.Land.length := by omega
      have h2' : (100 : Int) < B.Share.length := by omega
      clear hr
      go_enter Try.func15, Try.ntmps15
      go_wp2
      go_ret
      exact ⟨ret_bool (by first | exact HR.out.symm | rfl), (Below.refl _ _).alloc (Nat.le_refl _) _⟩
    · have hr : decide (100 < B.Land.length ∨ 100 < B.Share.length) = false := by simp [h2, h1]
      have HR := Lib.hid hr
      have h1' : ¬ (100 : Int) < B.Land.length := by omega
      have h2' : ¬ (100 : Int) < B.Share.length := by omega
      clear hr
      go_enter Try.func15, Try.ntmps15
      go_wp2
      go_ret
      exact ⟨ret_bool (by first | exact HR.out.symm | rfl), (Below.refl _ _).alloc (Nat.le_refl _) _⟩
theorem long_any (s : Slk) (w : World) (ao : Option Addr) (c : Nat) :
    Calls Try.prog 16 #[.agg #[.int .i64 s.K, .slice ao s.Oil.length c, .int .i64 s.Away]] w fun e w' => e = .returned (.bool (decide (100 < s.Oil.length))) ∧ Below w.heap.size w w' := by
  by_cases h1 : 100 < s.Oil.length
  · have HR := Lib.hid (show decide (100 < s.Oil.length) = true by simp [h1])
    have h1' : (100 : Int) < s.Oil.length := by omega
    go_enter Try.func16, Try.ntmps16
    go_wp2
    go_ret
    exact ⟨ret_bool (by first | exact HR.out.symm | rfl), (Below.refl _ _).alloc (Nat.le_refl _) _⟩
  · have HR := Lib.hid (show decide (100 < s.Oil.length) = false by simp [h1])
    have h1' : ¬ (100 : Int) < s.Oil.length := by omega
    go_enter Try.func16, Try.ntmps16
    go_wp2
    go_ret
    exact ⟨ret_bool (by first | exact HR.out.symm | rfl), (Below.refl _ _).alloc (Nat.le_refl _) _⟩

def sameB (a b : List Int) : Bool := decide (a = b)

set_option maxHeartbeats 1000000 in
theorem sameInts_any (ao bo : Option Addr) (ca cb : Nat) (la lb : List Int) (w : World) (ha : IntsAt w ao la) (hb : IntsAt w bo lb) (hla : la.length ≤ 1000000) (hlb : lb.length ≤ 1000000):
    Calls Try.prog 29 #[.slice ao la.length ca, .slice bo lb.length cb] w fun e w' => e = .returned (.bool (sameB la lb)) ∧ Below w.heap.size w w' := by
  by_cases hn : la.length = lb.length
  · have hn0 : (((la.length : Int)) != (lb.length : Int)) = false := by simp [hn]
    have HN := Lib.hid hn
    clear hn
    go_enter Try.func29, Try.ntmps29
    go_wp2
    go_loopw [5] (fun i wr => ∃ k : Nat, k ≤ la.length ∧ i = .int .i64 k ∧ la.take k = lb.take k ∧ Below w.heap.size w wr) (fun i _ => la.length - (intOf i).toNat)
    case atStart => exact ⟨0, Nat.zero_le _, rfl, rfl, Below.refl _ _⟩
    case round =>
      obtain ⟨k, hk, rfl, ht, hbel⟩ := hrel
      have HT := Lib.hid ht
      clear ht
      by_cases hlt : k < la.length
      · have hlt2 : k < lb.length := by have := HN.out; omega
        obtain ⟨b, off, rfl, hb1, hx1⟩ := (ha.below (Nat.le_refl _) hbel).get hlt
        obtain ⟨b', off', rfl, hb2, hx2⟩ := (hb.below (Nat.le_refl _) hbel).get hlt2
        generalize hA : la.getD k 0 = A at *
        generalize hB : lb.getD k 0 = B at *
        have HA := Lib.hid hA
        have HB := Lib.hid hB
        have hlt3 : (k : Int) < lb.length := by omega
        clear hA hB ha hb
        by_cases he : A = B
        · have hq : (A != B) = false := by simp [he]
          have HE := Lib.hid he
          clear he
          go_wp2
          go_quiet (fail)
          go_wp2
          go_roundw
          case rel =>
            refine ⟨k + 1, by omega, by go_num, ?_, hbel.trans ⟨rfl, rfl, rfl, Nat.le_refl _, fun _ _ => rfl⟩⟩
            rw [List.take_succ_eq_append_getElem hlt, List.take_succ_eq_append_getElem hlt2, HT.out]
            have e1 := HA.out
            have e2 := HB.out
            simp only [List.getD_eq_getElem?_getD, List.getElem?_eq_getElem hlt, List.getElem?_eq_getElem hlt2, Option.getD_some] at e1 e2
            rw [e1, e2, HE.out]
          case measure => simp [intOf]; omega
        · have hq : (A != B) = true := by simp [he]
          have HE := Lib.hid he
          clear he
          have HR := Lib.hid (show sameB la lb = false from by
            unfold sameB; refine decide_eq_false (fun h => HE.out ?_); rw [← HA.out, ← HB.out, h])
          go_wp2
          go_quiet (fail)
          go_wp2
          go_ret
          exact ⟨ret_bool HR.out.symm, hbel.trans ⟨rfl, rfl, rfl, Nat.le_refl _, fun _ _ => rfl⟩⟩
      · obtain rfl : k = la.length := by omega
        have HR := Lib.hid (show sameB la lb = true from by
          have h := HT.out
          rw [List.take_of_length_le (Nat.le_refl _), List.take_of_length_le (by rw [HN.out]; exact Nat.le_refl _)] at h
          unfold sameB; exact decide_eq_true h)
        clear ha hb
        go_wp2
        go_ret
        exact ⟨ret_bool HR.out.symm, hbel⟩
  · have hn0 : (((la.length : Int)) != (lb.length : Int)) = true := by simp; omega
    have HR := Lib.hid (show sameB la lb = false from by unfold sameB; exact decide_eq_false (fun h => hn (by rw [h])))
    clear hn ha hb
    go_enter Try.func29, Try.ntmps29
    go_wp2
    go_ret
    exact ⟨ret_bool HR.out.symm, Below.refl _ _⟩
end Go.Proofs.Ytnafllhgjidbkaa

namespace Go.Proofs.Ytnafllhgjidbkaa
open Go.RowKit Go.Shelf
set_option linter.unusedVariables false
set_option linter.unusedSimpArgs false

set_option maxHeartbeats 1000000 in
theorem Move_any (v sv : Value) (B : Bay) (s : Slk) (w : World) (hv : BayAt w v B) (hs : SlkAt w sv s) :
    Calls Try.prog 18 #[v, sv] w (Aft3 w (aftS B s 1) (aftE B s 1)) := by
  have hv0 := hv
  have hs0 := hs
  obtain ⟨la, lc, sa, sc, rfl, hl, hsh, hll, hsl⟩ := hv
  obtain ⟨ao, c, rfl, hi, hn⟩ := hs
  obtain ⟨f0, f1, f2, f3, f4⟩ := three_new (w := w) #[.int .i64 B.W, .int .i64 B.H, .slice la B.Land.length lc, .slice sa B.Share.length sc] #[.int .i64 s.K, .slice ao s.Oil.length c, .int .i64 s.Away] #[.int .i64 0, .slice none 0 0, .int .i64 0] 25 28 28
  have HV := Lib.hid hv0
  have HS := Lib.hid hs0
  clear hv0 hs0 hl hsh hi
  go_enter Try.func18, Try.ntmps18
  go_wp2_with fail
  have hbx : Below w.heap.size w (((w.alloc (.cells #[.int .i64 B.W, .int .i64 B.H, .slice la B.Land.length lc, .slice sa B.Share.length sc] 25)).alloc (.cells #[.int .i64 s.K, .slice ao s.Oil.length c, .int .i64 s.Away] 28)).alloc (.cells #[.int .i64 0, .slice none 0 0, .int .i64 0] 28)) := f0
  refine (After_any _ _ B s 1 _ (HV.out.below (Nat.le_refl _) hbx) (HS.out.below (Nat.le_refl _) hbx) (by omega)).mono ?_
  rintro e w1 ⟨rv, rfl, ⟨a', c', rfl, hi', hn', hf'⟩, hb1⟩
  have e2 := (hb1.block (w.heap.size + 1 + 1) (by omega)).trans f4
  have r0 := cell_of_heap e2 0
  have r1 := cell_of_heap e2 1
  have r2 := cell_of_heap e2 2
  simp at r0 r1 r2
  have z0 := free_of_heap e2 0
  have z1 := free_of_heap e2 1
  have z2 := free_of_heap e2 2
  have hl2 := heap_lt e2
  generalize aftS B s 1 = S at *
  generalize aftE B s 1 = E at *
  have hne : Hid (∀ a, a' = some a → a.block ≠ w.heap.size + 1 + 1) := fun a ha => by have := hf' a ha; omega
  have hfr : Hid (∀ a, a' = some a → w.heap.size ≤ a.block) := fun a ha => by have := hf' a ha; omega
  have HB : Hid (Below w.heap.size w w1) := f0.trans (hb1.mono (by omega))
  have HI' := Lib.hid hi'
  have hrr := heap_setCell_same (heap_setCell_same (heap_setCell_same e2 (i := 0) (.int .i64 S.K)) (i := 1) (.slice a' S.Oil.length c')) (i := 2) (.int .i64 S.Away)
  rw [set3] at hrr
  have HRR := Lib.hid hrr
  clear hrr e2 hi' hf' hb1 f0 f1 f2 f3 f4
  go_wp2
  have c0 := cell_of_heap HRR.out 0
  have c1 := cell_of_heap HRR.out 1
  have c2 := cell_of_heap HRR.out 2
  simp at c0 c1 c2
  refine bodyPost_ret (v := .tuple #[.agg #[.int .i64 S.K, .slice a' S.Oil.length c', .int .i64 S.Away], .int .i64 E]) (by simp [results, Try.results18, go_sem, c0, c1, c2]) rfl ?_
  refine ⟨_, rfl, ⟨a', c', rfl, ?_, hn', hfr.out⟩, ?_⟩
  · exact IntsAt.setCell (IntsAt.setCell (IntsAt.setCell HI'.out hne.out _) hne.out _) hne.out _
  · exact ((HB.out.setCell (by simp; omega) _).setCell (by simp; omega) _).setCell (by simp; omega) _

def B0 : Bay := ⟨2, 1, [false, true], [(8, 4, 4, 0, 0), (0, 0, 0, 0, 0)]⟩
def s0 : Slk := ⟨0, [100, 0], 0⟩
theorem B0_valid : validP B0 := by
  refine ⟨by decide, by decide, by decide, by decide, ?_⟩
  intro i hi
  have : i = 0 ∨ i = 1 := by have : i < 2 := hi; omega
  rcases this with rfl | rfl
  · exact ⟨⟨by unfold inR; decide, by unfold inR; decide, by unfold inR; decide, by unfold inR; decide, by unfold inR; decide⟩, by decide⟩
  · exact ⟨⟨by unfold inR; decide, by unfold inR; decide, by unfold inR; decide, by unfold inR; decide, by unfold inR; decide⟩, by decide⟩
theorem s0_fits : fitsP B0 s0 := by
  refine ⟨by decide, by decide, ?_, by decide⟩
  refine amtB_iff.2 (fun k hk => ?_)
  have : k = 0 ∨ k = 1 := by have : k < 2 := hk; omega
  rcases this with rfl | rfl
  · exact okB_iff.2 (by decide)
  · exact okB_iff.2 (by decide)
theorem s0_E : aftE B0 s0 1 = 0 := by
  have h : okE B0 s0 = 0 := by unfold okE; rw [if_pos (validB_true B0_valid), if_pos (fitsB_true s0_fits)]
  unfold aftE
  rw [if_neg (by rw [h]; decide), if_neg (by decide), if_neg (by decide)]
theorem s0_S : aftS B0 s0 1 = ⟨1, [800, 400], 400⟩ := by
  unfold aftS
  rw [s0_E, if_pos rfl]
  kernel_rfl

theorem four_new {w : World} (c0 c1 c2 c3 : Array Value) (t0 t1 t2 t3 : TypeId) :
    Below w.heap.size w ((((w.alloc (.cells c0 t0)).alloc (.cells c1 t1)).alloc (.cells c2 t2)).alloc (.cells c3 t3)) ∧ ((((w.alloc (.cells c0 t0)).alloc (.cells c1 t1)).alloc (.cells c2 t2)).alloc (.cells c3 t3)).heap.size = w.heap.size + 4 ∧
    ((((w.alloc (.cells c0 t0)).alloc (.cells c1 t1)).alloc (.cells c2 t2)).alloc (.cells c3 t3)).heap[w.heap.size]? = some (.cells c0 t0 (0, 0)) ∧
    ((((w.alloc (.cells c0 t0)).alloc (.cells c1 t1)).alloc (.cells c2 t2)).alloc (.cells c3 t3)).heap[w.heap.size + 1]? = some (.cells c1 t1 (0, 0)) ∧
    ((((w.alloc (.cells c0 t0)).alloc (.cells c1 t1)).alloc (.cells c2 t2)).alloc (.cells c3 t3)).heap[w.heap.size + 1 + 1]? = some (.cells c2 t2 (0, 0)) ∧
    ((((w.alloc (.cells c0 t0)).alloc (.cells c1 t1)).alloc (.cells c2 t2)).alloc (.cells c3 t3)).heap[w.heap.size + 1 + 1 + 1]? = some (.cells c3 t3 (0, 0)) := by
  obtain ⟨f0, f1, f2, f3, f4⟩ := three_new (w := w) c0 c1 c2 t0 t1 t2
  refine ⟨f0.alloc (by omega) _, by rw [World.size_alloc, f1], heap_alloc_old f2 _, heap_alloc_old f3 _, heap_alloc_old f4 _, ?_⟩
  have := World.alloc_heap_new (((w.alloc (.cells c0 t0)).alloc (.cells c1 t1)).alloc (.cells c2 t2)) (.cells c3 t3)
  rwa [f1] at this

set_option maxHeartbeats 1000000 in
theorem Sane_any (w : World) : Calls Try.prog 17 #[] w fun e w' => e = .returned (.bool true) ∧ Below w.heap.size w w' := by
  obtain ⟨f0, f1, f2, f3, f4, f5⟩ := four_new (w := w) #[.bool false, .bool true] #[.int .i64 8, .int .i64 4, .int .i64 4, .int .i64 0, .int .i64 0, .int .i64 0, .int .i64 0, .int .i64 0, .int .i64 0, .int .i64 0]
    #[.int .i64 2, .int .i64 1, .slice (some ⟨w.heap.size, 0, none⟩) 2 2, .slice (some ⟨w.heap.size + 1, 0, none⟩) 2 2] #[.int .i64 100, .int .i64 0] 4 74 25 3
  go_enter Try.func17, Try.ntmps17
  go_wp2_with fail
  have hbay : BayAt _ (.agg #[.int .i64 2, .int .i64 1, .slice (some ⟨w.heap.size, 0, none⟩) 2 2, .slice (some ⟨w.heap.size + 1, 0, none⟩) 2 2]) B0 :=
    ⟨some ⟨w.heap.size, 0, none⟩, 2, some ⟨w.heap.size + 1, 0, none⟩, 2, rfl, bools_of_heap (l := [false, true]) f2, cells_of_heap (cs := B0.Share.flatMap Five.cells) f3, by decide, by decide⟩
  have hslk : SlkAt _ (.agg #[.int .i64 0, .slice (some ⟨w.heap.size + 1 + 1 + 1, 0, none⟩) 2 2, .int .i64 0]) s0 :=
    ⟨some ⟨w.heap.size + 1 + 1 + 1, 0, none⟩, 2, rfl, ints_of_heap (l := [100, 0]) f5, by decide⟩
  have hcall := Move_any _ _ B0 s0 _ hbay hslk
  rw [s0_E, s0_S] at hcall
  refine hcall.mono ?_
  rintro e w1 ⟨rv, rfl, ⟨a', c', rfl, hi', hn', hf'⟩, hb1⟩
  have HB : Hid (Below w.heap.size w w1) := f0.trans (hb1.mono (by omega))
  have hsz := hb1.size
  rw [f1] at hsz
  obtain ⟨b, off, rfl, hblt, hx0⟩ := hi'.get (k := 0) (by decide)
  have hx1 := (hi'.get (k := 1) (by decide))
  obtain ⟨b', off', e1, _, hx1⟩ := hx1
  cases e1
  simp at hx0 hx1
  clear hi' hn' hf' hb1 f0 f1 f2 f3 f4 f5 hbay hslk hcall
  go_wp2
  go_ret
  exact ⟨rfl, HB.out.alloc (by omega) _⟩
end Go.Proofs.Ytnafllhgjidbkaa

/- Blocks that a call begins with, and worlds that come behind them. -/
namespace Go.Proofs.Ytnafllhgjidbkaa
open Go.RowKit Go.Shelf
set_option linter.unusedVariables false
set_option linter.unusedSimpArgs false
theorem Below.link {a b c : World} (h1 : Below a.heap.size a b) (h2 : Below b.heap.size b c) : Below a.heap.size a c := h1.trans (h2.mono h1.size)
theorem Aft.step {W w1 : World} (x : Aft W) (hb : Below x.val.heap.size x.val w1) : ∃ y : Aft W, y.val = w1 ∧ Below x.val.heap.size x.val y.val :=
  ⟨⟨w1, x.bel.trans (hb.mono x.bel.size)⟩, rfl, hb⟩
theorem Aft.heapH {W : World} (x : Aft W) {b : Nat} {o : Obj} (h : W.heap[b]? = some o) : x.val.heap[b]? = some o := (x.bel.block _ (heap_lt h)).trans h
theorem Aft.off {w W : World} (f : Below w.heap.size w W) (x : Aft W) : Below w.heap.size w x.val := f.trans (x.bel.mono f.size)
theorem Aft.size_le {W : World} (x : Aft W) : W.heap.size ≤ x.val.heap.size := x.bel.size
theorem one_new {w : World} (c0 : Array Value) (t0 : TypeId) :
    Below w.heap.size w (w.alloc (.cells c0 t0)) ∧ (w.alloc (.cells c0 t0)).heap.size = w.heap.size + 1 ∧ (w.alloc (.cells c0 t0)).heap[w.heap.size]? = some (.cells c0 t0 (0, 0)) :=
  ⟨(Below.refl _ _).alloc (Nat.le_refl _) _, by simp, World.alloc_heap_new _ _⟩
theorem two_new {w : World} (c0 c1 : Array Value) (t0 t1 : TypeId) :
    Below w.heap.size w ((w.alloc (.cells c0 t0)).alloc (.cells c1 t1)) ∧ ((w.alloc (.cells c0 t0)).alloc (.cells c1 t1)).heap.size = w.heap.size + 2 ∧
    ((w.alloc (.cells c0 t0)).alloc (.cells c1 t1)).heap[w.heap.size]? = some (.cells c0 t0 (0, 0)) ∧ ((w.alloc (.cells c0 t0)).alloc (.cells c1 t1)).heap[w.heap.size + 1]? = some (.cells c1 t1 (0, 0)) := by
  refine ⟨((Below.refl _ _).alloc (Nat.le_refl _) _).alloc (by simp) _, by simp, heap_alloc_old (World.alloc_heap_new _ _) _, ?_⟩
  have := World.alloc_heap_new (w.alloc (.cells c0 t0)) (.cells c1 t1); rwa [World.size_alloc] at this
theorem five_new {w : World} (c0 c1 c2 c3 c4 : Array Value) (t0 t1 t2 t3 t4 : TypeId) :
    Below w.heap.size w (((((w.alloc (.cells c0 t0)).alloc (.cells c1 t1)).alloc (.cells c2 t2)).alloc (.cells c3 t3)).alloc (.cells c4 t4)) ∧ (((((w.alloc (.cells c0 t0)).alloc (.cells c1 t1)).alloc (.cells c2 t2)).alloc (.cells c3 t3)).alloc (.cells c4 t4)).heap.size = w.heap.size + 5 ∧
    (((((w.alloc (.cells c0 t0)).alloc (.cells c1 t1)).alloc (.cells c2 t2)).alloc (.cells c3 t3)).alloc (.cells c4 t4)).heap[w.heap.size]? = some (.cells c0 t0 (0, 0)) ∧
    (((((w.alloc (.cells c0 t0)).alloc (.cells c1 t1)).alloc (.cells c2 t2)).alloc (.cells c3 t3)).alloc (.cells c4 t4)).heap[w.heap.size + 1]? = some (.cells c1 t1 (0, 0)) ∧
    (((((w.alloc (.cells c0 t0)).alloc (.cells c1 t1)).alloc (.cells c2 t2)).alloc (.cells c3 t3)).alloc (.cells c4 t4)).heap[w.heap.size + 1 + 1]? = some (.cells c2 t2 (0, 0)) ∧
    (((((w.alloc (.cells c0 t0)).alloc (.cells c1 t1)).alloc (.cells c2 t2)).alloc (.cells c3 t3)).alloc (.cells c4 t4)).heap[w.heap.size + 1 + 1 + 1]? = some (.cells c3 t3 (0, 0)) ∧
    (((((w.alloc (.cells c0 t0)).alloc (.cells c1 t1)).alloc (.cells c2 t2)).alloc (.cells c3 t3)).alloc (.cells c4 t4)).heap[w.heap.size + 1 + 1 + 1 + 1]? = some (.cells c4 t4 (0, 0)) := by
  obtain ⟨f0, f1, f2, f3, f4, f5⟩ := four_new (w := w) c0 c1 c2 c3 t0 t1 t2 t3
  refine ⟨f0.alloc (by omega) _, by rw [World.size_alloc, f1], heap_alloc_old f2 _, heap_alloc_old f3 _, heap_alloc_old f4 _, heap_alloc_old f5 _, ?_⟩
  have := World.alloc_heap_new ((((w.alloc (.cells c0 t0)).alloc (.cells c1 t1)).alloc (.cells c2 t2)).alloc (.cells c3 t3)) (.cells c4 t4)
  rwa [f1] at this
/-- A place for a struct of three, written. -/
theorem res3 {W : World} {b : Nat} {v0 v1 v2 : Value} {t : TypeId} (h : W.heap[b]? = some (.cells #[v0, v1, v2] t (0, 0))) (a0 a1 a2 : Value) :
    (((W.setCell ⟨b, 0, none⟩ a0).setCell ⟨b, 1, none⟩ a1).setCell ⟨b, 2, none⟩ a2).heap[b]? = some (.cells #[a0, a1, a2] t (0, 0)) := by
  have e3 := heap_setCell_same (heap_setCell_same (heap_setCell_same h (i := 0) a0) (i := 1) a1) (i := 2) a2
  rwa [set3] at e3
/-- A region that draws its order, met in a world behind W. -/
theorem wp_region_aftW {P : Program} {id : Nat} {Q : Exit → Act → World → Prop} {a : Act} {W : World} (x0 : Aft W) {l : List Oper} (hm : P.follows .mixedOrders = true) (hB : Region.lexB .any l.toArray = true)
    (h : wpQuiet P l.toArray (fun w' => ∃ x : Aft W, w' = x.val) (fun a' => ∀ w', (∃ x : Aft W, w' = x.val) → Q .normal a' w') l a) : (Code.region id l.toArray true).wp P Q a x0.val :=
  wp_region_quiet (C := fun w' => ∃ x : Aft W, w' = x.val) hm hB ⟨⟨_, x0.bel.drew⟩, rfl⟩ (by simpa using h)
theorem wp_region_stillD {P : Program} {id : Nat} {Q : Exit → Act → World → Prop} {a : Act} {w : World} {l : List Oper} (n : Nat) (hm : P.follows .mixedOrders = true) (hB : Region.lexTailB .any l.toArray n = true)
    (h : wpStill P l.toArray w.drew (fun a' => wpList P l.toArray Q (l.drop n) a' w.drew) (l.take n) a) : (Code.region id l.toArray true).wp P Q a w := wp_region_still_tail n hm hB h
end Go.Proofs.Ytnafllhgjidbkaa

/- Results in memory, and appending to a slice of the call's own. -/
namespace Go.Proofs.Ytnafllhgjidbkaa
open Go.RowKit Go.Shelf
set_option linter.unusedVariables false
set_option linter.unusedSimpArgs false
/-- A struct of three in a place for results. -/
theorem res3c {W : World} {b : Nat} {v0 v1 v2 : Value} {t : TypeId} (h : W.heap[b]? = some (.cells #[v0, v1, v2] t (0, 0))) : W.cell? ⟨b, 0, none⟩ = some v0 ∧ W.cell? ⟨b, 1, none⟩ = some v1 ∧ W.cell? ⟨b, 2, none⟩ = some v2 :=
  ⟨cell_of_heap h 0, cell_of_heap h 1, cell_of_heap h 2⟩
theorem own_empty (w : World) (base p : Nat) (hp : w.heap.size = p) (hb : base ≤ p) : (w.alloc (.cells #[] 3)).ownsRow base 3 1 (.slice (some ⟨p, 0, none⟩) 0 0) 0 [] := by
  subst hp
  exact ⟨rfl, .inr ⟨w.heap.size, 0, #[], rfl, hb, World.alloc_heap_new _ _, Nat.le_refl _, by simp [maxLen], rfl, rfl⟩⟩
theorem news_of {w : World} {a : Addr} {l : List Int} (h : IntsAt w (some a) l) : ∀ j u, (l.map (Value.int .i64))[j]? = some u → w.cell? (a.add j) = some u := by
  intro j u hj
  obtain ⟨hj1, hj2⟩ := List.getElem?_eq_some_iff.1 hj
  have hj' : j < l.length := by simpa using hj1
  obtain ⟨b, off, ha, hb, hc⟩ := h.get hj'
  obtain rfl : a = ⟨b, off, none⟩ := by simpa using ha
  have : (⟨b, off, none⟩ : Addr).add j = ⟨b, off + j, none⟩ := by
    unfold Addr.add; split
    · rename_i h; subst h; rfl
    · rfl
  rw [this, hc, ← hj2]
  simp [List.getD_eq_getElem?_getD, List.getElem?_eq_getElem hj']
theorem ints_one {l : List Int} : ∀ u ∈ l.map (Value.int .i64), u.oneCell' = true := by
  intro u hu; obtain ⟨x, _, rfl⟩ := List.mem_map.1 hu; rfl

theorem own_ints {w : World} {base : Nat} {v : Value} {l : List Int} (h : w.ownsRow base 3 1 v l.length (l.map (Value.int .i64))) : ∃ ao c, v = .slice ao l.length c ∧ IntsAt w ao l ∧ ∀ a, ao = some a → base ≤ a.block := by
  obtain ⟨ao, c, hv, hi⟩ := ints_of_own h
  refine ⟨ao, c, hv, hi, ?_⟩
  obtain ⟨h1, ⟨rfl, h2⟩ | ⟨g, cap, cur, rfl, hb, hh, hn, hm, hs, ht⟩⟩ := h
  · intro a ha; injection hv with e1 e2 e3; rw [← e1] at ha; cases ha
  · cases hv; intro a ha; cases ha; exact hb

end Go.Proofs.Ytnafllhgjidbkaa

namespace Go.Proofs.Ytnafllhgjidbkaa
open Go.RowKit Go.Shelf
set_option linter.unusedVariables false
set_option linter.unusedSimpArgs false

def eqSlk (s t : Slk) : Bool := decide (s.K = t.K ∧ s.Away = t.Away ∧ s.Oil = t.Oil)
theorem eqSlk_refl (s : Slk) : eqSlk s s = true := by simp [eqSlk]

set_option maxHeartbeats 1000000 in
theorem equal_any (ao bo : Option Addr) (ca cb : Nat) (s t : Slk) (w : World) (ha : IntsAt w ao s.Oil) (hb : IntsAt w bo t.Oil) (hla : s.Oil.length ≤ 1000000) (hlb : t.Oil.length ≤ 1000000) :
    Calls Try.prog 22 #[.agg #[.int .i64 s.K, .slice ao s.Oil.length ca, .int .i64 s.Away], .agg #[.int .i64 t.K, .slice bo t.Oil.length cb, .int .i64 t.Away]] w fun e w' => e = .returned (.bool (eqSlk s t)) ∧ Below w.heap.size w w' := by
  have hbx : ∀ o1 o2, Below w.heap.size w ((w.alloc o1).alloc o2) := fun o1 o2 => ((Below.refl _ _).alloc (Nat.le_refl _) _).alloc (by simp) _
  by_cases h1 : s.K = t.K
  · have q1 : (s.K == t.K) = true := by simp [h1]
    by_cases h2 : s.Away = t.Away
    · have q2 : (s.Away == t.Away) = true := by simp [h2]
      have HR := Lib.hid (show eqSlk s t = sameB s.Oil t.Oil by unfold eqSlk sameB; simp [h1, h2])
      have HC := Lib.hid (fun W (hW : Below w.heap.size w W) => sameInts_any ao bo ca cb s.Oil t.Oil W (ha.below (Nat.le_refl _) hW) (hb.below (Nat.le_refl _) hW) hla hlb)
      clear h1 h2 ha hb
      generalize sameB s.Oil t.Oil = r at *
      generalize eqSlk s t = rr at *
      go_enter Try.func22, Try.ntmps22
      go_wp2_with fail
      refine (HC.out _ (hbx _ _)).mono ?_
      rintro e w1 ⟨rfl, hb1⟩
      have HB : Hid (Below w.heap.size w w1) := (hbx _ _).trans (hb1.mono (by simp <;> omega))
      clear hb1
      cases r
      · go_wp2
        go_ret
        exact ⟨by rw [HR.out]; rfl, HB.out⟩
      · go_wp2
        go_ret
        exact ⟨by rw [HR.out]; rfl, HB.out⟩
    · have q2 : (s.Away == t.Away) = false := by simp [h2]
      have HR := Lib.hid (show eqSlk s t = false by unfold eqSlk; simp [h2])
      generalize eqSlk s t = rr at *
      clear h1 h2 ha hb
      go_enter Try.func22, Try.ntmps22
      go_wp2
      go_ret
      exact ⟨by rw [HR.out]; rfl, hbx _ _⟩
  · have q1 : (s.K == t.K) = false := by simp [h1]
    have HR := Lib.hid (show eqSlk s t = false by unfold eqSlk; simp [h1])
    generalize eqSlk s t = rr at *
    clear h1 ha hb
    go_enter Try.func22, Try.ntmps22
    go_wp2
    go_ret
    exact ⟨by rw [HR.out]; rfl, hbx _ _⟩
end Go.Proofs.Ytnafllhgjidbkaa

/- Contracts of the old kind, as the calculus takes them. -/
namespace Go.Proofs.Ytnafllhgjidbkaa
open Go.RowKit
set_option linter.unusedVariables false
set_option linter.unusedSimpArgs false
theorem own_base {w : World} {b b' e sz n : Nat} {v : Value} {xs : List Value} (h : w.ownsRow b e sz v n xs) (hb : b' ≤ b) : w.ownsRow b' e sz v n xs := by
  obtain ⟨h1, h2 | ⟨g, cap, cur, hv, hg, hh, hn, hm, hs, ht⟩⟩ := h
  · exact ⟨h1, .inl h2⟩
  · exact ⟨h1, .inr ⟨g, cap, cur, hv, by omega, hh, hn, hm, hs, ht⟩⟩
theorem CallK.old {n0 nx : Nat} {f : FuncId} {vs : List V} {L : List E} {K : V → List E → Nat → Prop} {u : V} (hok : callB Try.prog f = true) (hu : u.wf nx)
    (h : ∀ ρ w, Hp n0 ρ w L nx → Calls Try.prog f (vs.map (V.den ρ)).toArray w fun e w' => e = .returned (u.den ρ) ∧ Below w.heap.size w w') (hK : K u [] nx) : CallK Try.prog n0 f vs L nx K := by
  refine ⟨hok, fun ρ w hp _ => (h ρ w hp).mono ?_⟩
  rintro e w' ⟨rfl, hbw⟩
  exact ⟨_, [], nx, ρ, rfl, Nat.le_refl _, hu, Agr.refl _ _, hbw, News.nil, hK⟩
theorem CallK.oldS {n0 nx : Nat} {f : FuncId} {vs : List V} {L : List E} {K : V → List E → Nat → Prop} {u : V} (hok : callB Try.prog f = true) (hu : u.wf nx)
    (h : ∀ ρ w, Hp n0 ρ w L nx → Calls Try.prog f (vs.map (V.den ρ)).toArray w fun e w' => e = .returned (u.den ρ) ∧ w = w') (hK : K u [] nx) : CallK Try.prog n0 f vs L nx K :=
  CallK.old hok hu (fun ρ w hp => (h ρ w hp).mono (by rintro e w' ⟨rfl, rfl⟩; exact ⟨rfl, Below.refl _ _⟩)) hK
theorem CallK.oldVec {n0 nx : Nat} {f : FuncId} {vs : List V} {L : List E} {K : V → List E → Nat → Prop} {l : List Int} (hok : callB Try.prog f = true)
    (h : ∀ ρ w, Hp n0 ρ w L nx → Calls Try.prog f (vs.map (V.den ρ)).toArray w fun e w' => ∃ rv, e = .returned rv ∧ w'.ownsRow w.heap.size 3 1 rv l.length (l.map (Value.int .i64)) ∧ Below w.heap.size w w')
    (hK : K (V.c (.sl nx l.length)) [⟨nx, .vec 3 1, l.map C.i⟩] (nx + 1)) : CallK Try.prog n0 f vs L nx K := by
  refine ⟨hok, fun ρ w hp _ => (h ρ w hp).mono ?_⟩
  rintro e w' ⟨rv, rfl, hown, hbw⟩
  obtain ⟨ao, c, rfl, hi, hblk⟩ := own_ints hown
  refine ⟨V.c (.sl nx l.length), [⟨nx, .vec 3 1, l.map C.i⟩], nx + 1, ρ.put nx ao c, ?_, Nat.le_succ _, Nat.lt_succ_self nx, Env.put_agr _ _ _ _, hbw, News.one ?_ rfl (wf_ints _ _) ?_, hK⟩
  · simp [V.den, A.den, C.den, Env.put_same]
  · refine ⟨l.length, ?_⟩
    simp only [Env.put_same]
    rw [den_ints]
    exact own_base hown hp.base
  · intro b hb
    simp only [blk, Env.put_same, Option.map_eq_some_iff] at hb
    obtain ⟨a, ha, rfl⟩ := hb
    exact hblk a ha
theorem CallK.oldRo {n0 nx : Nat} {f : FuncId} {vs : List V} {L : List E} {K : V → List E → Nat → Prop} {l : List Int} {u : V} (hok : callB Try.prog f = true) (hu : u.wf (nx + 1))
    (h : ∀ ρ w, Hp n0 ρ w L nx → Calls Try.prog f (vs.map (V.den ρ)).toArray w fun e w' => ∃ ao c, e = .returned (u.den (ρ.put nx ao c)) ∧ IntsAt w' ao l ∧ (∀ a, ao = some a → w.heap.size ≤ a.block) ∧ Below w.heap.size w w')
    (hK : K u [⟨nx, .ro 0, l.map C.i⟩] (nx + 1)) : CallK Try.prog n0 f vs L nx K := by
  refine ⟨hok, fun ρ w hp _ => (h ρ w hp).mono ?_⟩
  rintro e w' ⟨ao, c, rfl, hi, hblk, hbw⟩
  refine ⟨u, [⟨nx, .ro 0, l.map C.i⟩], nx + 1, ρ.put nx ao c, rfl, Nat.le_succ _, hu, Env.put_agr _ _ _ _, hbw, News.one (show EOK n0 (ρ.put nx ao c) w' ⟨nx, .ro 0, l.map C.i⟩ from ⟨?_, .inl rfl⟩) rfl (wf_ints _ _) ?_, hK⟩
  · simp only [Env.put_same]
    rw [den_ints]
    exact hi
  · intro b hb
    simp only [blk, Env.put_same, Option.map_eq_some_iff] at hb
    obtain ⟨a, ha, rfl⟩ := hb
    exact hblk a ha
theorem CallK.oldSlk {n0 nx : Nat} {f : FuncId} {vs : List V} {L : List E} {K : V → List E → Nat → Prop} {s : Slk} (hok : callB Try.prog f = true)
    (h : ∀ ρ w, Hp n0 ρ w L nx → Calls Try.prog f (vs.map (V.den ρ)).toArray w fun e w' => ∃ rv, e = .returned rv ∧ SlkNew w.heap.size w' rv s ∧ Below w.heap.size w w')
    (hK : K (V.agg [C.i s.K, C.sl nx s.Oil.length, C.i s.Away]) [⟨nx, .ro 0, s.Oil.map C.i⟩] (nx + 1)) : CallK Try.prog n0 f vs L nx K := by
  refine CallK.oldRo (l := s.Oil) (u := V.agg [C.i s.K, C.sl nx s.Oil.length, C.i s.Away]) hok (by simp [V.wf, A.wf, C.wf, C.i]) (fun ρ w hp => (h ρ w hp).mono ?_) hK
  rintro e w' ⟨rv, rfl, ⟨ao, c, rfl, hi, hn, hblk⟩, hbw⟩
  refine ⟨ao, c, ?_, hi, hblk, hbw⟩
  simp [V.den, A.den, C.den, C.i, Env.put_same]
theorem ints_of {n0 : Nat} {ρ : Env} {w : World} {L : List E} {nx a : Nat} {k : Kd} {l : List Int} (hp : Hp n0 ρ w L nx) (ha : find L a = some ⟨a, k, l.map C.i⟩) : IntsAt w (ρ a).1 l := by
  have h := (hp.row ha).1
  rw [den_ints] at h
  exact h
theorem slk_of {n0 : Nat} {ρ : Env} {w : World} {L : List E} {nx a : Nat} {k : Kd} {s : Slk} (hp : Hp n0 ρ w L nx) (ha : find L a = some ⟨a, k, s.Oil.map C.i⟩) (hn : s.Oil.length < 1152921504606846976) :
    SlkAt w ((V.agg [C.i s.K, C.sl a s.Oil.length, C.i s.Away]).den ρ) s :=
  ⟨_, _, rfl, ints_of hp ha, hn⟩
theorem own_of {n0 : Nat} {ρ : Env} {w : World} {L : List E} {nx a : Nat} {t : TypeId} {cs : List C} (hp : Hp n0 ρ w L nx) (ha : find L a = some ⟨a, .own t, cs⟩) :
    ∃ b, (ρ a).1 = some ⟨b, 0, none⟩ ∧ w.heap[b]? = some (.cells (cs.map (C.den ρ)).toArray t (0, 0)) := by
  obtain ⟨hm, hl⟩ := find_mem ha
  obtain ⟨b, h1, _, h2⟩ := hp.ok _ hm
  exact ⟨b, h1, h2⟩
theorem rvalid_k {n0 nx a b : Nat} {ka kb : Kd} {L : List E} {K : V → List E → Nat → Prop} {B : Bay} (hll : B.Land.length ≤ 100) (hsl : B.Share.length ≤ 100)
    (ha : find L a = some ⟨a, ka, B.Land.map C.bool⟩) (hb : find L b = some ⟨b, kb, shareC B.Share⟩) (hK : K (V.c (.bool (validB B))) [] nx) :
    CallK Try.prog n0 26 [V.agg [C.i B.W, C.i B.H, C.sl a B.Land.length, C.sl b B.Share.length]] L nx K :=
  CallK.old (u := V.c (.bool (validB B))) (by kernel_rfl) trivial (fun ρ w hp => rvalid_any _ B w (bay_of hp ha hb hll hsl)) hK
theorem is_k {n0 nx a b c : Nat} {ka kb kc : Kd} {L : List E} {K : V → List E → Nat → Prop} {B : Bay} {s : Slk} (hval : validP B) (hll : B.Land.length ≤ 100) (hsl : B.Share.length ≤ 100) (hn : s.Oil.length < 1152921504606846976)
    (ha : find L a = some ⟨a, ka, B.Land.map C.bool⟩) (hb : find L b = some ⟨b, kb, shareC B.Share⟩) (hc : find L c = some ⟨c, kc, s.Oil.map C.i⟩) (hK : K (V.c (.bool (fitsB B s))) [] nx) :
    CallK Try.prog n0 27 [V.agg [C.i B.W, C.i B.H, C.sl a B.Land.length, C.sl b B.Share.length], V.agg [C.i s.K, C.sl c s.Oil.length, C.i s.Away]] L nx K :=
  CallK.old (u := V.c (.bool (fitsB B s))) (by kernel_rfl) trivial (fun ρ w hp => is_any _ _ B s w (bay_of hp ha hb hll hsl) (slk_of hp hc hn) hval) hK
end Go.Proofs.Ytnafllhgjidbkaa

