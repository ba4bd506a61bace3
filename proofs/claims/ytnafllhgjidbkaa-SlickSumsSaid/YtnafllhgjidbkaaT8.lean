import Derived.Test.YtnafllhgjidbkaaR
import Derived.Deep.RegionHeld3
namespace Go.Proofs.Ytnafllhgjidbkaa
open Go.RowKit Go.Shelf
attribute [local go_sem] Oper.semAt_some
set_option linter.unusedVariables false

/-- A variable that holds a slick. -/
theorem flows_any (la sa : Option Addr) (n1 c1 n2 c2 : Nat) (W H i : Int) (w : World) :
    Calls Try.prog 90 #[.agg #[.int .i64 W, .int .i64 H, .slice la n1 c1, .slice sa n2 c2], .int .i64 i] w fun e w' =>
      e = .returned (.func (.func 98) #[] #[.pointer (some ⟨w.heap.size, 0, none⟩), .pointer (some ⟨w.heap.size + 1, 0, none⟩)]) ∧
      w' = (w.alloc (.cells #[.int .i64 W, .int .i64 H, .slice la n1 c1, .slice sa n2 c2] 25)).alloc (.cells #[.int .i64 i] 3) := by
  go_enter Try.func90, Try.ntmps90
  go_wp2
  go_ret
  exact ⟨rfl, rfl⟩


theorem calls_of_wp_marks {P : Program} {f : FuncId} {fn : Func} {c : Code} {args : Array Value} {w : World} {R : Ending → World → Prop}
    (hf : P.funcs[f]? = some fn) (hb : fn.body = some c)
    (h : c.wp P (bodyPostM Fence.wide 9 P fn R) { tmps := args ++ Array.replicate (fn.ntmps - args.size) undef, defers := [] } w) : Calls P f args w R :=
  (callsIn_wide (n := 9)).1 (callsIn_of_wp_marks hf hb trivial (wpIn_wide.2 h) rfl)


/-- A loop over an iterator, in plain words. -/
theorem wp_range {α : Type} {P : Program} {g : Operand} {ps : Array Tmp} {assign body : Code} {Q : Exit → Act → World → Prop} {a : Act} {w : World} {gf : Nat} {lb : Array Value}
    (hg : a.eval g = .func (.func gf) #[] lb) (eg : ∀ args w, (callFunc gf args).run P w = .ok (.enter gf args) w)
    {encs : α → Array Value} {Kp : World → World → Prop} {S Sp : List α → Prop} {N : Nat} (hseq : SeqStopsK Fence.wide 8 P gf lb encs Kp S Sp N w)
    (hKt : ∀ {A B C : World}, Kp A B → Kp B C → Kp A C) (hKb : ∀ (W : World) (l : Nat) (o : Obj), w.heap.size ≤ l → Kp W (W.putObj l o)) (hps : ∀ x, (encs x).size = ps.size)
    (I : List α → World → Prop) (Ix : Code → List α → World → Prop) (hI : OwnFrom w.heap.size I) (hIx : ∀ c, OwnFrom w.heap.size (Ix c)) (h0 : I [] w) (Ax : α → Act → World → Prop) (hAx : ∀ x a', OwnFrom w.heap.size (fun (_ : Unit) W => Ax x a' W))
    (hassign : ∀ (l : Nat) (pre : List α) (x : α) (W : World) (K : Act → World → Prop), I pre W → (∀ a' W', KeepsFrom w.heap.size W W' → Kp W W' → I pre W' → Ax x a' W' → K a' W') →
      assign.wpIn (Fence.wide.inRound l) 7 P (Exit.then K (fun _ _ _ => False)) { tmps := (ps.zip (encs x)).foldl (fun t (p, v) => t.setIfInBounds p v) a.tmps, defers := [] } W)
    (hbody : ∀ (l : Nat) (pre : List α) (x : α) (a' : Act) (W : World), w.heap.size ≤ l → (∃ r, W.heap[l]? = some (.loop r)) → I pre W → Ax x a' W → pre.length < N → body.wpIn (Fence.wide.inRound l) 7 P (ownPostG w.heap.size Kp I Ix (pre ++ [x]) W) a' W)
    (hdone : ∀ (D : Nat) (xs : List α) (W : World), w.heap.size ≤ D → S xs → I xs W → W.heap[D]? = some (.deferred (some [])) → Q .normal { a with defers := { target := .collected D, args := #[] } :: a.defers } W)
    (hstop : ∀ (D : Nat) (c : Code) (pre : List α) (W : World), w.heap.size ≤ D → Sp pre → Ix c pre W → W.heap[D]? = some (.deferred (some [])) → c.wp P Q { a with defers := { target := .collected D, args := #[] } :: a.defers } W) :
    (Code.rangeFunc g ps assign body).wp P Q a w :=
  (wpIn_wide (n := 9)).1 (wpIn_rangeFunc_ownH (F := Fence.wide) (n := 9) rfl (by omega) hg (wfn _) eg hseq (fun h k => hKt h k) (fun W l o o' hl _ _ _ => hKb W l o' hl) (Below.refl _ _) hps I Ix hI hIx h0 Ax hAx hassign hbody hdone
    (fun D c pre W h1 h2 h3 h4 => wpIn_wide.2 (hstop D c pre W h1 h2 h3 h4)))

theorem flows_stops (A bb ib : Nat) (w0 : World) (B : Bay) (v : Value) (i : Nat) (w : World) (hb : BoxB w bb v) (hib : ib < w.heap.size) (hi : w.cell? ⟨ib, 0, none⟩ = some (.int .i64 i)) (hv : BayAt w0 v B)
    (hw0 : Below w0.heap.size w0 w) (hA : A = w0.heap.size) (hval : validP B) (hin : i < B.Share.length) :
    SeqStopsK Fence.wide 8 Try.prog 98 #[.pointer (some ⟨bb, 0, none⟩), .pointer (some ⟨ib, 0, none⟩)] (fun x : Fl B i => #[.agg #[.int .i64 x.1.1, .int .i64 x.1.2]]) (KeepS (S3 A bb ib))
      (fun xs => xs.map (·.1) = flowsL B i) (fun _ => True) 5 w := by
  intro l J Jx W hW hJ hJx hY h0
  have hJg : ∀ pre W1 W', J pre W1 → W1.grownBy W' none → J pre W' := fun pre W1 W' hj hg => hJ _ _ _ _ hj hg (fun r e => by cases e)
  have hb' := hb.below (Nat.le_refl _) hW
  have hi' : W.cell? ⟨ib, 0, none⟩ = some (.int .i64 i) := (hW.cell (p := ⟨ib, 0, none⟩) hib).trans hi
  have hw0' : Below w0.heap.size w0 W := hw0.trans (hW.mono hw0.size)
  have hlen : B.Land.length = B.Share.length := by have := hval.2.2.1; have := hval.2.2.2.1; omega
  cases hland : B.Land.getD i false with
  | true =>
    refine (flows1_land 8 l A bb ib w0 B v i J Jx (by omega) hY W hb' hi' hv hw0' (by omega) h0 hland).mono ?_
    rintro e W' ⟨hv, ⟨xs, h1, h2⟩ | ⟨pre, h⟩⟩
    · exact ⟨hv, .inl ⟨xs, h1, h2⟩⟩
    · exact ⟨hv, .inr ⟨pre, trivial, h⟩⟩
  | false =>
    refine (flows1_water 8 l A bb ib w0 B v i J Jx (by omega) hY hJg W hb' (Nat.lt_of_lt_of_le hib hW.size) hi' hv hw0' hA hval hin h0 hland).mono ?_
    rintro e W' ⟨hv, ⟨xs, h1, h2⟩ | ⟨pre, h⟩⟩
    · exact ⟨hv, .inl ⟨xs, h1, h2⟩⟩
    · exact ⟨hv, .inr ⟨pre, trivial, h⟩⟩

/-- A slick in memory made since base. -/
def SlkNew (base : Nat) (w : World) (v : Value) (s : Slk) : Prop :=
  ∃ ao c, v = .agg #[.int .i64 s.K, .slice ao s.Oil.length c, .int .i64 s.Away] ∧ IntsAt w ao s.Oil ∧ s.Oil.length < 1152921504606846976 ∧ ∀ a, ao = some a → base ≤ a.block
theorem SlkNew.at {base : Nat} {w : World} {v : Value} {s : Slk} (h : SlkNew base w v s) : SlkAt w v s := by obtain ⟨ao, c, h1, h2, h3, _⟩ := h; exact ⟨ao, c, h1, h2, h3⟩
theorem CellsAt.setCell {w : World} {ao : Option Addr} {cs : List Value} (h : CellsAt w ao cs) {p : Addr} (hne : ∀ a, ao = some a → a.block ≠ p.block) (v : Value) : CellsAt (w.setCell p v) ao cs := by
  intro hc
  obtain ⟨b, off, rfl, hlt, hh⟩ := h hc
  refine ⟨b, off, rfl, by simpa [World.setCell] using hlt, fun i hi => ?_⟩
  rw [World.cell?_of_block (w := w) (a := ⟨b, off + i, none⟩) (Below.heap_setCell _ _ _ _ (hne ⟨b, off, none⟩ rfl))]; exact hh i hi
theorem IntsAt.setCell {w : World} {ao : Option Addr} {l : List Int} (h : IntsAt w ao l) {p : Addr} (hne : ∀ a, ao = some a → a.block ≠ p.block) (v : Value) : IntsAt (w.setCell p v) ao l := CellsAt.setCell h hne v

/-! ### The plain law of a move -/
def stepF (oil : Int) (st : List Int × Int) (x : Int × Int) : List Int × Int :=
  if x.1 = -1 then (st.1, st.2 + oil * x.2) else (st.1.set x.1.toNat (st.1.getD x.1.toNat 0 + oil * x.2), st.2)
def rowF (B : Bay) (oil : List Int) (st : List Int × Int) (i : Nat) : List Int × Int := (flowsL B i).foldl (stepF (oil.getD i 0)) st
def mvUp (B : Bay) (s : Slk) (k : Nat) : List Int × Int := (List.range k).foldl (rowF B s.Oil) (List.replicate s.Oil.length 0, 16 * s.Away)
def mv (B : Bay) (s : Slk) : Slk := ⟨s.K + 1, (mvUp B s s.Oil.length).1, (mvUp B s s.Oil.length).2⟩
theorem mvUp_succ (B : Bay) (s : Slk) (k : Nat) : mvUp B s (k + 1) = rowF B s.Oil (mvUp B s k) k := by
  unfold mvUp; rw [List.range_succ, List.foldl_append]; rfl
theorem stepF_len (oil : Int) (st : List Int × Int) (x : Int × Int) : (stepF oil st x).1.length = st.1.length := by
  unfold stepF; split <;> simp
theorem foldF_len (oil : Int) : ∀ (xs : List (Int × Int)) (st : List Int × Int), (xs.foldl (stepF oil) st).1.length = st.1.length
  | [], _ => rfl
  | x :: xs, st => by rw [List.foldl_cons, foldF_len oil xs, stepF_len]
theorem mvUp_len (B : Bay) (s : Slk) (k : Nat) : (mvUp B s k).1.length = s.Oil.length := by
  induction k with
  | zero => simp [mvUp]
  | succ k ih => rw [mvUp_succ]; unfold rowF; rw [foldF_len, ih]

/-- The flows of a cell go to cells, or away. -/
theorem flow_bd {B : Bay} {i : Nat} (hval : validP B) (hin : i < B.Share.length) : ∀ x ∈ flowsL B i, (x.1 = -1 ∨ ∃ t : Nat, x.1 = t ∧ t < B.Share.length) ∧ 0 ≤ x.2 ∧ x.2 ≤ 16 := by
  intro x hx
  unfold flowsL at hx
  split at hx
  · simp only [List.mem_singleton] at hx
    subst hx
    exact ⟨.inr ⟨i, rfl, hin⟩, by simp, by simp⟩
  · unfold waterUp at hx
    obtain ⟨k, hk, hx⟩ := List.mem_filterMap.1 hx
    have hk5 : k < 5 := List.mem_range.1 hk
    by_cases hp : 0 < flowPart B i k
    · rw [if_pos hp] at hx
      simp only [Option.some.injEq] at hx
      subst hx
      have hr := (hval.2.2.2.2 i hin).1
      have hp16 : flowPart B i k ≤ 16 := by
        have h6 : k = 0 ∨ k = 1 ∨ k = 2 ∨ k = 3 ∨ k = 4 := by omega
        unfold flowPart
        rcases h6 with rfl | rfl | rfl | rfl | rfl
        · exact hr.1.2
        · exact hr.2.1.2
        · exact hr.2.2.1.2
        · exact hr.2.2.2.1.2
        · exact hr.2.2.2.2.2
      refine ⟨?_, by show 0 ≤ flowPart B i k; omega, hp16⟩
      show flowTo B i k = -1 ∨ ∃ t : Nat, flowTo B i k = t ∧ t < B.Share.length
      unfold flowTo
      split
      · rename_i hins
        right
        unfold insideB at hins
        rw [Bool.and_eq_true] at hins
        simp only [betwB, decide_eq_true_eq] at hins
        obtain ⟨⟨a1, a2⟩, b1, b2⟩ := hins
        have hW := hval.1
        have e := Int.emod_add_mul_ediv (i : Int) B.W
        have hS := hval.2.2.2.1
        generalize (i : Int) % B.W = x at *
        generalize (i : Int) / B.W = y at *
        generalize dxs.getD k 0 = dx at *
        generalize dys.getD k 0 = dy at *
        have e2 : (i : Int) + dx + dy * B.W = (x + dx) + B.W * (y + dy) := by rw [← e, Int.mul_add, Int.mul_comm dy]; omega
        have h0 : 0 ≤ B.W * (y + dy) := Int.mul_nonneg (by omega) b1
        have h1 : B.W * (y + dy) ≤ B.W * (B.H - 1) := Int.mul_le_mul_of_nonneg_left b2 (by omega)
        rw [Int.mul_sub, Int.mul_one] at h1
        refine ⟨((i : Int) + dx + dy * B.W).toNat, by omega, by omega⟩
      · exact .inl rfl
    · rw [if_neg hp] at hx; cases hx
/-- Rough bounds. -/
def bdd (M : Int) (st : List Int × Int) (c : Nat) : Prop := (∀ j, 0 ≤ st.1.getD j 0 ∧ st.1.getD j 0 ≤ c * (16 * M)) ∧ 0 ≤ st.2 ∧ st.2 ≤ (c + 1) * (16 * M)
theorem bdd_step {M oil : Int} {st : List Int × Int} {c : Nat} {x : Int × Int} (h : bdd M st c) (h0 : 0 ≤ oil) (h1 : oil ≤ M) (hx : 0 ≤ x.2 ∧ x.2 ≤ 16) : bdd M (stepF oil st x) (c + 1) := by
  have ha : 0 ≤ oil * x.2 := Int.mul_nonneg h0 hx.1
  have hb : oil * x.2 ≤ 16 * M := by
    have h2 : oil * x.2 ≤ oil * 16 := Int.mul_le_mul_of_nonneg_left hx.2 h0
    omega
  have hc : ((c + 1 : Nat) : Int) * (16 * M) = c * (16 * M) + 16 * M := by simp only [Int.natCast_add, Int.add_mul]; omega
  have hd : (((c + 1 : Nat) : Int) + 1) * (16 * M) = (c + 1) * (16 * M) + 16 * M := by simp only [Int.natCast_add, Int.add_mul]; omega
  have hM : 0 ≤ 16 * M := by omega
  obtain ⟨h2, h3, h4⟩ := h
  unfold stepF
  split
  · refine ⟨fun j => ?_, ?_, ?_⟩
    · have := h2 j; show 0 ≤ st.1.getD j 0 ∧ st.1.getD j 0 ≤ _; rw [hc]; omega
    · show 0 ≤ st.2 + oil * x.2; omega
    · show st.2 + oil * x.2 ≤ _; rw [hd]; omega
  · refine ⟨fun j => ?_, ?_, ?_⟩
    · show 0 ≤ (st.1.set x.1.toNat (st.1.getD x.1.toNat 0 + oil * x.2)).getD j 0 ∧ _
      rw [hc]
      have hj := h2 j
      have ht := h2 x.1.toNat
      by_cases e : x.1.toNat = j
      · by_cases hl : j < st.1.length
        · have : (st.1.set x.1.toNat (st.1.getD x.1.toNat 0 + oil * x.2)).getD j 0 = st.1.getD x.1.toNat 0 + oil * x.2 := by
            rw [List.getD_eq_getElem?_getD, List.getElem?_set, if_pos e, if_pos (by omega)]; rfl
          rw [this]; omega
        · have : (st.1.set x.1.toNat (st.1.getD x.1.toNat 0 + oil * x.2)).getD j 0 = 0 := by
            rw [List.getD_eq_getElem?_getD, List.getElem?_eq_none (by simp; omega)]; rfl
          rw [this]; omega
      · have : (st.1.set x.1.toNat (st.1.getD x.1.toNat 0 + oil * x.2)).getD j 0 = st.1.getD j 0 := by
          rw [List.getD_eq_getElem?_getD, List.getElem?_set, if_neg e, ← List.getD_eq_getElem?_getD]
        rw [this]; omega
    · exact h3
    · show st.2 ≤ _; rw [hd]; omega
theorem bdd_fold {M oil : Int} (h0 : 0 ≤ oil) (h1 : oil ≤ M) : ∀ (xs : List (Int × Int)) {st : List Int × Int} {c : Nat}, bdd M st c → (∀ x ∈ xs, 0 ≤ x.2 ∧ x.2 ≤ 16) → bdd M (xs.foldl (stepF oil) st) (c + xs.length)
  | [], _, _, h, _ => h
  | x :: xs, st, c, h, hx => by
    have := bdd_fold h0 h1 xs (bdd_step h h0 h1 (hx x (by simp))) (fun y hy => hx y (by simp [hy]))
    rw [List.foldl_cons, List.length_cons]
    rwa [show c + (xs.length + 1) = c + 1 + xs.length from by omega]

theorem flowsL_len (B : Bay) (i : Nat) : (flowsL B i).length ≤ 5 := by
  unfold flowsL; split
  · simp
  · exact waterUp_len B i 5
theorem bdd_mono {M : Int} {st : List Int × Int} {c c' : Nat} (h : bdd M st c) (hM : 0 ≤ M) (hc : c ≤ c') : bdd M st c' := by
  have h1 : (c : Int) * (16 * M) ≤ c' * (16 * M) := Int.mul_le_mul_of_nonneg_right (by omega) (by omega)
  obtain ⟨a, b, d⟩ := h
  refine ⟨fun j => ⟨(a j).1, by have := (a j).2; omega⟩, b, ?_⟩
  rw [Int.add_mul] at d ⊢; omega
theorem mvUp_bd {B : Bay} {s : Slk} {M : Int} (hM : 0 ≤ M) (hval : validP B) (hlen : s.Oil.length = B.Share.length) (hO : ∀ k, k < s.Oil.length → 0 ≤ s.Oil.getD k 0 ∧ s.Oil.getD k 0 ≤ M) (hA : 0 ≤ s.Away ∧ s.Away ≤ M) :
    ∀ k, k ≤ s.Oil.length → bdd M (mvUp B s k) (5 * k) := by
  intro k
  induction k with
  | zero =>
    intro _
    refine ⟨fun j => ?_, ?_, ?_⟩
    · have : (List.replicate s.Oil.length (0 : Int)).getD j 0 = 0 := by
        rw [List.getD_eq_getElem?_getD, List.getElem?_replicate]; split <;> rfl
      show 0 ≤ (List.replicate s.Oil.length (0 : Int)).getD j 0 ∧ (List.replicate s.Oil.length (0 : Int)).getD j 0 ≤ _
      rw [this]; simp
    · show 0 ≤ 16 * s.Away; omega
    · show 16 * s.Away ≤ _; simp; omega
  | succ k ih =>
    intro hk
    rw [mvUp_succ]
    have h := hO k (by omega)
    exact bdd_mono (bdd_fold h.1 h.2 (flowsL B k) (ih (by omega)) (fun x hx => (flow_bd hval (by omega) x hx).2)) hM (by have := flowsL_len B k; omega)
end Go.Proofs.Ytnafllhgjidbkaa
