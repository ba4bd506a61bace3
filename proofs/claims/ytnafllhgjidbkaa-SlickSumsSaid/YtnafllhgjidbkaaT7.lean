import Derived.Test.YtnafllhgjidbkaaT6
namespace Go.Proofs.Ytnafllhgjidbkaa
open Go.RowKit Go.Shelf
attribute [local go_sem] Oper.semAt_some
set_option linter.unusedVariables false

/-! ### Blocks known whole -/
theorem cell_of_heap {W : World} {b : Nat} {c : Array Value} {t : TypeId} {f : Nat × Nat} (h : W.heap[b]? = some (.cells c t f)) (i : Nat) : W.cell? ⟨b, i, none⟩ = c[i]? := by
  simp [World.cell?, h]
theorem free_of_heap {W : World} {b : Nat} {c : Array Value} {t : TypeId} (h : W.heap[b]? = some (.cells c t (0, 0))) (i : Nat) : W.frozen? ⟨b, i, none⟩ = false := by
  simp [World.frozen?, h]
theorem heap_lt {W : World} {b : Nat} {o : Obj} (h : W.heap[b]? = some o) : b < W.heap.size := (Array.getElem?_eq_some_iff.1 h).1
theorem heap_setCell_same {W : World} {b i : Nat} {c : Array Value} {t : TypeId} {f : Nat × Nat} (h : W.heap[b]? = some (.cells c t f)) (v : Value) : (W.setCell ⟨b, i, none⟩ v).heap[b]? = some (.cells (c.setIfInBounds i v) t f) := by
  simp [World.setCell, Array.getElem?_modify, h]
theorem heap_setCell_other {W : World} {b : Nat} {p : Addr} (hne : b ≠ p.block) (v : Value) : (W.setCell p v).heap[b]? = W.heap[b]? := Below.heap_setCell _ _ _ _ hne
theorem heap_alloc_old {W : World} {b : Nat} {o : Obj} (h : W.heap[b]? = some o) (o' : Obj) : (W.alloc o').heap[b]? = some o := (Below.heap_alloc _ _ _ (heap_lt h)).trans h

/-- Below B nothing has turned but the blocks of T. -/
structure Upto (B : Nat) (T : Nat → Prop) (w w' : World) : Prop where
  os : w'.os = w.os
  tape : w'.tape = w.tape
  output : w'.output = w.output
  size : w.heap.size ≤ w'.heap.size
  block : ∀ k, k < B → ¬ T k → w'.heap[k]? = w.heap[k]?
theorem Upto.refl (B : Nat) (T : Nat → Prop) (w : World) : Upto B T w w := ⟨rfl, rfl, rfl, Nat.le_refl _, fun _ _ _ => rfl⟩
theorem Upto.trans {B : Nat} {T : Nat → Prop} {a b c : World} (h : Upto B T a b) (k : Upto B T b c) : Upto B T a c :=
  ⟨k.os.trans h.os, k.tape.trans h.tape, k.output.trans h.output, Nat.le_trans h.size k.size, fun i hi ht => (k.block i hi ht).trans (h.block i hi ht)⟩
theorem Upto.alloc {B : Nat} {T : Nat → Prop} {a w : World} (h : Upto B T a w) (hB : B ≤ w.heap.size) (o : Obj) : Upto B T a (w.alloc o) :=
  h.trans ⟨rfl, rfl, rfl, by simp, fun k hk _ => Below.heap_alloc _ _ _ (by omega)⟩
theorem Upto.setCell {B : Nat} {T : Nat → Prop} {a w : World} (h : Upto B T a w) {p : Addr} (hp : B ≤ p.block ∨ T p.block) (u : Value) : Upto B T a (w.setCell p u) :=
  h.trans ⟨rfl, rfl, rfl, by simp [World.setCell], fun k hk ht => Below.heap_setCell _ _ _ _ (by rintro rfl; rcases hp with hp | hp; omega; exact ht hp)⟩
theorem Upto.drew {B : Nat} {T : Nat → Prop} {a w : World} (h : Upto B T a w) : Upto B T a w.drew := ⟨h.os, h.tape, h.output, h.size, h.block⟩
theorem Upto.putObj {B : Nat} {T : Nat → Prop} {a w : World} (h : Upto B T a w) {l : Nat} (hl : B ≤ l) (o : Obj) : Upto B T a (w.putObj l o) :=
  h.trans ⟨rfl, rfl, rfl, by simp, fun k hk _ => World.putObj_heap_other (by omega)⟩
theorem Upto.below {B A : Nat} {T : Nat → Prop} {a w : World} (h : Upto B T a w) (hA : A ≤ B) (hT : ∀ k, T k → A ≤ k) : Below A a w :=
  ⟨h.os, h.tape, h.output, h.size, fun k hk => h.block k (by omega) (fun ht => by have := hT k ht; omega)⟩
theorem Upto.mono {B B' : Nat} {T T' : Nat → Prop} {a w : World} (h : Upto B T a w) (hB : B' ≤ B) (hT : ∀ k, k < B' → T k → T' k) : Upto B' T' a w :=
  ⟨h.os, h.tape, h.output, h.size, fun k hk ht => h.block k (by omega) (fun hh => ht (hT k hk hh))⟩
theorem Below.upto {B : Nat} {T : Nat → Prop} {a w : World} (h : Below B a w) : Upto B T a w := ⟨h.os, h.tape, h.output, h.size, fun k hk _ => h.block k hk⟩
theorem Upto.keepS {B : Nat} {T S : Nat → Prop} {a w : World} (h : Upto B T a w) (hS : ∀ k, S k → k < B ∧ ¬ T k) : KeepS S a w := ⟨h.size, fun k hk => h.block k (hS k hk).1 (hS k hk).2⟩

/-! ### What a loop over an iterator asks of the caller's word -/
theorem own_upto {β : Type} {B : Nat} {T : Nat → Prop} {a : World} (hB : B ≤ a.heap.size) : OwnFrom B (fun (_ : β) W => Upto B T a W) := by
  intro s W W' row hs hg hr
  exact hs.trans ⟨hg.os, hg.tape, hg.output, hg.size, fun k hk _ => hg.block k (by have := hs.size; omega) (fun e => by have := (hr k e.symm).1; omega)⟩
theorem own_cells {β : Type} {B : Nat} (b : Nat) (c : β → Array Value) (t : TypeId) (f : Nat × Nat) : OwnFrom B (fun (s : β) W => W.heap[b]? = some (.cells (c s) t f)) := by
  intro s W W' row hs hg hr
  refine (hg.block b (heap_lt hs) (fun e => ?_)).trans hs
  obtain ⟨_, o, ho, hc⟩ := hr b e.symm
  rw [hs] at ho; cases ho; cases hc
theorem own_pure {β : Type} {B : Nat} (p : β → Prop) : OwnFrom B (fun (s : β) (_ : World) => p s) := fun _ _ _ _ hs _ _ => hs

/-! ### The marks of the loops over iterators, at the function's end -/
def Marks (B : Nat) (W : World) : List Deferred → Prop
  | [] => True
  | d :: ds => (∃ D, d = { target := .collected D, args := #[] } ∧ B ≤ D ∧ W.heap[D]? = some (.deferred (some [])) ∧ ∀ d' ∈ ds, d'.target ≠ .collected D) ∧ Marks B W ds
theorem Marks.keep {B : Nat} {W W' : World} : ∀ {ds : List Deferred}, Marks B W ds → (∀ D, W.heap[D]? = some (.deferred (some [])) → (∃ d ∈ ds, d.target = .collected D) → W'.heap[D]? = some (.deferred (some []))) → Marks B W' ds
  | [], _, _ => trivial
  | d :: ds, ⟨⟨D, hd, hB, hD, hn⟩, hm⟩, h => ⟨⟨D, hd, hB, h D hD ⟨d, by simp, by rw [hd]⟩, hn⟩, Marks.keep hm (fun D' hD' ⟨d', hd', he⟩ => h D' hD' ⟨d', by simp [hd'], he⟩)⟩
theorem Marks.mem {B : Nat} {W : World} : ∀ {ds : List Deferred}, Marks B W ds → ∀ d ∈ ds, ∃ D, d.target = .collected D ∧ B ≤ D ∧ D < W.heap.size
  | d :: ds, ⟨⟨D, hd, hB, hD, hn⟩, hm⟩, d', hd' => by
    rcases List.mem_cons.1 hd' with rfl | hd'
    · exact ⟨D, by rw [hd], hB, heap_lt hD⟩
    · exact Marks.mem hm d' hd'
theorem Marks.cons {B : Nat} {W W' : World} {ds : List Deferred} (h : Marks B W ds) {D : Nat} (hD : W.heap.size ≤ D) (hB : B ≤ D) (hd : W'.heap[D]? = some (.deferred (some [])))
    (hk : ∀ k, k < W.heap.size → W.heap[k]? = some (.deferred (some [])) → W'.heap[k]? = some (.deferred (some []))) : Marks B W' ({ target := .collected D, args := #[] } :: ds) :=
  ⟨⟨D, rfl, hB, hd, fun d' hd' e => by obtain ⟨D', h1, _, h3⟩ := h.mem d' hd'; rw [h1] at e; cases e; omega⟩, h.keep (fun k hk' _ => hk k (heap_lt hk') hk')⟩

/-- The way out past the marks: the marks' blocks are shut; all cells are as they were. -/
theorem leaves_marks {F : Fence} {n : Nat} {P : Program} {fn : Func} {tmps : Array Value} {R : Ending → World → Prop} {B : Nat} : ∀ {ds : List Deferred} {W : World}, Marks B W ds →
    (∀ W', Upto B (fun _ => False) W W' → (∀ (b : Nat) (c : Array Value) (t : TypeId) (f : Nat × Nat), W.heap[b]? = some (Obj.cells c t f) → W'.heap[b]? = some (Obj.cells c t f)) → ∃ v, (results fn tmps).run P W' = .ok v W' ∧ R (.returned v) W') →
    LeavesInM F n P fn tmps R ds .returning W
  | [], W, _, h => by
    obtain ⟨v, h1, h2⟩ := h W (Upto.refl _ _ _) (fun _ _ _ _ h => h)
    exact ⟨v, h1, h2⟩
  | d :: ds, W, ⟨⟨D, hd, hB, hD, hn⟩, hm⟩, h => by
    subst hd
    refine ⟨by simp, .inl ⟨D, _, rfl, run_takeDeferred hD, ?_⟩⟩
    refine leaves_marks (B := B) (hm.keep (fun D' hD' ⟨d', hd', he⟩ => ?_)) (fun W' hU hC => ?_)
    · exact (World.putObj_heap_other (by rintro rfl; exact hn d' hd' he)).trans hD'
    · refine h W' ((Upto.putObj (Upto.refl _ _ _) hB _).trans hU) (fun b c t f hb => hC b c t f ((World.putObj_heap_other (by rintro rfl; rw [hD] at hb; cases hb)).trans hb))


theorem cells_of_heap {W : World} {b : Nat} {cs : List Value} {t : TypeId} {f : Nat × Nat} (h : W.heap[b]? = some (.cells cs.toArray t f)) : CellsAt W (some ⟨b, 0, none⟩) cs := by
  intro _
  refine ⟨b, 0, rfl, heap_lt h, fun i hi => ?_⟩
  rw [Nat.zero_add, cell_of_heap h i]
  simp [List.getD_eq_getElem?_getD, List.getElem?_eq_getElem hi]
theorem ints_of_heap {W : World} {b : Nat} {l : List Int} {t : TypeId} {f : Nat × Nat} (h : W.heap[b]? = some (.cells (l.map (Value.int .i64)).toArray t f)) : IntsAt W (some ⟨b, 0, none⟩) l := cells_of_heap h
theorem bools_of_heap {W : World} {b : Nat} {l : List Bool} {t : TypeId} {f : Nat × Nat} (h : W.heap[b]? = some (.cells (l.map Value.bool).toArray t f)) : BoolsAt W (some ⟨b, 0, none⟩) l := cells_of_heap h

/-! ### make -/
def zeros (n : Nat) : Array Value := (List.replicate n (Value.int .i64 0)).toArray
theorem info3 : (Try.prog.info? 3).map (fun i => (i.zero, i.size, i.bytes)) = some (some (.int .i64 0), 1, 8) := by kernel_rfl
theorem made_zeros (n : Nat) : madeCells (Value.int .i64 0).cells n = zeros n := by
  apply Array.toList_inj.1
  show (madeCells #[Value.int .i64 0] n).toList = _
  rw [toList_madeCells_one]; simp [zeros]
theorem make26 (n : Nat) (hn : n ≤ 1000000) (W : World) : (Instr.makeSlice 26 (.int .i64 n) (.int .i64 n)).run Try.prog W = .ok (.slice (some ⟨W.heap.size, 0, none⟩) n n) (W.alloc (.cells (zeros n) 3)) := by
  obtain ⟨i0, hi, hz0, hz1, hz2⟩ := info_parts info3
  rw [run_make W 26 3 i0 (.int .i64 0) Try.underlying26 hi hz0 .i64 .i64 n n (by omega) (by omega) (by rw [hz2]; omega) (by omega), hz1, Int.toNat_natCast, Nat.mul_one, made_zeros]

end Go.Proofs.Ytnafllhgjidbkaa
