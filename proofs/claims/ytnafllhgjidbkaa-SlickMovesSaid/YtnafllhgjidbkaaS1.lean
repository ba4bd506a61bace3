/- A small calculus for walks: a frame's slots and the memory that a call owns or reads, as lists of symbols; what an operation asks and leaves is computed. -/
import Derived.WalkKit
import Derived.Below
import Derived.Laws.OwnMore
import Derived.Maps.AppendAt
import Derived.Laws.IdiomCopy
import Derived.Laws.CopyRow
import Derived.IntWalk
import Derived.StillTail
import Derived.Scope
namespace Go.Proofs.Ytnafllhgjidbkaa
open Go.RowKit
set_option linter.unusedVariables false
set_option linter.unusedSimpArgs false

/-- What a cell holds, as a symbol. -/
inductive C where
  | int (k : IntKind) (n : Int)
  | tt
  | ff
  | bool (b : Bool)
  | ptr (lab off : Nat)
  | sl (lab len : Nat)
  | nil
  | fn (f : FuncId) (caps : List (Nat × Nat))
  | v (x : Value)
inductive A where
  | c (x : C)
  | agg (l : List C)
inductive V where
  | a (x : A)
  | tup (l : List A)
/-- Where a label lies, and the room of the slice that begins there. -/
abbrev Env := Nat → Option Addr × Nat
def ptrD (ρ : Env) (p : Nat × Nat) : Value := .pointer ((ρ p.1).1.map (·.add p.2))
def C.den (ρ : Env) : C → Value
  | .int k n => .int k n
  | .tt => .bool true
  | .ff => .bool false
  | .bool b => .bool b
  | .ptr l o => ptrD ρ (l, o)
  | .sl l n => .slice (ρ l).1 n (ρ l).2
  | .nil => .slice none 0 0
  | .fn f caps => .func (.func f) #[] (caps.map (ptrD ρ)).toArray
  | .v x => x
def A.den (ρ : Env) : A → Value
  | .c x => x.den ρ
  | .agg l => .agg (l.map (C.den ρ)).toArray
def V.den (ρ : Env) : V → Value
  | .a x => x.den ρ
  | .tup l => .tuple (l.map (A.den ρ)).toArray
def C.wf (n : Nat) : C → Prop
  | .ptr l _ => l < n
  | .sl l _ => l < n
  | .fn _ caps => ∀ p ∈ caps, p.1 < n
  | .v x => x.oneCell' = true
  | _ => True
def A.wf (n : Nat) : A → Prop
  | .c x => x.wf n
  | .agg l => ∀ c ∈ l, c.wf n
def V.wf (n : Nat) : V → Prop
  | .a x => x.wf n
  | .tup l => ∀ c ∈ l, c.wf n
def A.cells : A → List C
  | .c x => [x]
  | .agg l => l
@[reducible] def V.c (x : C) : V := .a (.c x)
@[reducible] def V.i (n : Int) : V := .a (.c (.int .i64 n))
@[reducible] def V.agg (l : List C) : V := .a (.agg l)
@[reducible] def C.i (n : Int) : C := .int .i64 n
def Agr (nx nx' : Nat) (ρ ρ' : Env) : Prop := ∀ l, ¬ (nx ≤ l ∧ l < nx') → ρ' l = ρ l
def AgrLt (nx : Nat) (ρ ρ' : Env) : Prop := ∀ l, l < nx → ρ' l = ρ l
theorem Agr.lt {nx nx' : Nat} {ρ ρ' : Env} (h : Agr nx nx' ρ ρ') : AgrLt nx ρ ρ' := fun l hl => h l (by omega)
theorem Agr.refl (nx : Nat) (ρ : Env) : Agr nx nx ρ ρ := fun _ _ => rfl
theorem AgrLt.refl (nx : Nat) (ρ : Env) : AgrLt nx ρ ρ := fun _ _ => rfl
theorem AgrLt.trans {nx nx' : Nat} {a b c : Env} (h : AgrLt nx a b) (h' : AgrLt nx' b c) (hl : nx ≤ nx') : AgrLt nx a c := fun l hh => (h' l (by omega)).trans (h l hh)

theorem C.den_agr {nx : Nat} {ρ ρ' : Env} (h : AgrLt nx ρ ρ') {c : C} (hc : c.wf nx) : c.den ρ' = c.den ρ := by
  cases c <;> simp only [C.den, ptrD, C.wf] at *
  case ptr l o => rw [h l hc]
  case sl l n => rw [h l hc]
  case fn f caps =>
    congr 2
    exact List.map_congr_left fun p hp => by simp only [ptrD]; rw [h p.1 (hc p hp)]
theorem cells_agr {nx : Nat} {ρ ρ' : Env} (h : AgrLt nx ρ ρ') {l : List C} (hc : ∀ c ∈ l, c.wf nx) : l.map (C.den ρ') = l.map (C.den ρ) :=
  List.map_congr_left fun c hm => C.den_agr h (hc c hm)
theorem A.den_agr {nx : Nat} {ρ ρ' : Env} (h : AgrLt nx ρ ρ') {c : A} (hc : c.wf nx) : c.den ρ' = c.den ρ := by
  cases c with
  | c x => exact C.den_agr h hc
  | agg l => simp only [A.den]; rw [cells_agr h hc]
theorem V.den_agr {nx : Nat} {ρ ρ' : Env} (h : AgrLt nx ρ ρ') {c : V} (hc : c.wf nx) : c.den ρ' = c.den ρ := by
  cases c with
  | a x => exact A.den_agr h hc
  | tup l => simp only [V.den]; rw [List.map_congr_left fun c hm => A.den_agr h (hc c hm)]
theorem C.wf_mono {n m : Nat} (h : n ≤ m) {c : C} (hc : c.wf n) : c.wf m := by
  cases c <;> simp only [C.wf] at *
  case ptr l o => omega
  case sl l k => omega
  case fn f caps => exact fun p hp => Nat.lt_of_lt_of_le (hc p hp) h
  case v x => exact hc
theorem A.wf_mono {n m : Nat} (h : n ≤ m) {c : A} (hc : c.wf n) : c.wf m := by
  cases c with
  | c x => exact C.wf_mono h hc
  | agg l => exact fun c hm => C.wf_mono h (hc c hm)
theorem V.wf_mono {n m : Nat} (h : n ≤ m) {c : V} (hc : c.wf n) : c.wf m := by
  cases c with
  | a x => exact A.wf_mono h hc
  | tup l => exact fun c hm => A.wf_mono h (hc c hm)
theorem C.one {n : Nat} {c : C} (hc : c.wf n) (ρ : Env) : (c.den ρ).oneCell' = true := by
  cases c <;> first | rfl | exact hc
theorem C.cells_den {n : Nat} {c : C} (hc : c.wf n) (ρ : Env) : (c.den ρ).cells = #[c.den ρ] := by
  have := C.one hc ρ
  generalize c.den ρ = x at this
  cases x <;> first | rfl | (simp [Value.oneCell'] at this)
theorem A.cells_den {n : Nat} {c : A} (hc : c.wf n) (ρ : Env) : (c.den ρ).cells = (c.cells.map (C.den ρ)).toArray := by
  cases c with
  | c x => simp only [A.den, A.cells, List.map_cons, List.map_nil]; exact C.cells_den hc ρ
  | agg l => rfl
theorem A.cells_wf {n : Nat} {c : A} (hc : c.wf n) : ∀ x ∈ c.cells, x.wf n := by
  cases c with
  | c x => intro y hy; simp only [A.cells, List.mem_singleton] at hy; subst hy; exact hc
  | agg l => exact hc

/-- What lies at a label: cells that are read alone, a variable, or a row that the call owns. -/
inductive Kd where
  | ro (z : Nat)
  | own (t : TypeId)
  | vec (e : TypeId) (z : Nat)
def Kd.z : Kd → Option Nat
  | .ro 0 => none
  | .ro (k + 1) => some (k + 1)
  | .vec _ z => some z
  | .own _ => none
structure E where
  lab : Nat
  kd : Kd
  cs : List C
/-- The cells that begin at an address. -/
def RoAt (w : World) (ao : Option Addr) (cs : List Value) : Prop :=
  cs ≠ [] → ∃ b off, ao = some ⟨b, off, none⟩ ∧ b < w.heap.size ∧ ∀ i, i < cs.length → w.cell? ⟨b, off + i, none⟩ = some (cs.getD i undef)
def EOK (n0 : Nat) (ρ : Env) (w : World) (e : E) : Prop :=
  match e.kd with
  | .ro z => RoAt w (ρ e.lab).1 (e.cs.map (C.den ρ)) ∧ (z = 0 ∨ e.cs.length ≤ (ρ e.lab).2 * z)
  | .own t => ∃ b, (ρ e.lab).1 = some ⟨b, 0, none⟩ ∧ n0 ≤ b ∧ w.heap[b]? = some (.cells (e.cs.map (C.den ρ)).toArray t (0, 0))
  | .vec t z => ∃ n, w.ownsRow n0 t z (.slice (ρ e.lab).1 n (ρ e.lab).2) n (e.cs.map (C.den ρ))
def blk (ρ : Env) (l : Nat) : Option Nat := (ρ l).1.map (·.block)
def Kd.isRo : Kd → Bool
  | .ro _ => true
  | _ => false
/-- The entry's block must not be another's. -/
def Apart (ρ : Env) (e e' : E) : Prop := e.kd.isRo = false → e'.lab ≠ e.lab → (e'.kd.isRo = true → e'.cs ≠ []) → ∀ b, blk ρ e.lab = some b → blk ρ e'.lab ≠ some b
structure Hp (n0 : Nat) (ρ : Env) (w : World) (L : List E) (nx : Nat) : Prop where
  base : n0 ≤ w.heap.size
  ok : ∀ e ∈ L, EOK n0 ρ w e
  wf : ∀ e ∈ L, e.lab < nx ∧ ∀ c ∈ e.cs, c.wf nx
  fn : ∀ e ∈ L, ∀ e' ∈ L, e'.lab = e.lab → e' = e
  apart : ∀ e ∈ L, ∀ e' ∈ L, Apart ρ e e'
def find (L : List E) (l : Nat) : Option E :=
  match L with
  | [] => none
  | ⟨lab, kd, cs⟩ :: r => bif Nat.beq lab l then some ⟨lab, kd, cs⟩ else find r l
theorem find_mem {L : List E} {l : Nat} {e : E} (h : find L l = some e) : e ∈ L ∧ e.lab = l := by
  induction L with
  | nil => simp [find] at h
  | cons x r ih =>
    obtain ⟨xl, xk, xc⟩ := x
    simp only [find] at h
    cases hb : Nat.beq xl l with
    | true => rw [hb] at h; cases h; exact ⟨by simp, Nat.eq_of_beq_eq_true hb⟩
    | false => rw [hb] at h; obtain ⟨a, b⟩ := ih h; exact ⟨by simp [a], b⟩
/-- A block that an entry names is there. -/
theorem EOK.lt {n0 : Nat} {ρ : Env} {w : World} {e : E} (h : EOK n0 ρ w e) (hr : e.kd.isRo = true → e.cs ≠ []) {b : Nat} (hb : blk ρ e.lab = some b) : b < w.heap.size := by
  obtain ⟨lab, kd, cs⟩ := e
  cases kd with
  | ro z =>
    obtain ⟨b', o, e1, e2, _⟩ := h.1 (by simpa using hr rfl)
    simp only [blk, e1, Option.map_some, Option.some.injEq] at hb
    omega
  | own t =>
    obtain ⟨b', e1, _, e3⟩ := h
    simp only [blk, e1, Option.map_some, Option.some.injEq] at hb
    rw [← hb]; exact (Array.getElem?_eq_some_iff.1 e3).1
  | vec t z =>
    obtain ⟨n, hw⟩ := h
    simp only [blk] at hb
    obtain ⟨a, ha, hab⟩ := Option.map_eq_some_iff.1 hb
    exact (hw.lt b (by simp only [ha, Value.ownBlock, hab])).2
theorem RoAt.below {w w' : World} {ao : Option Addr} {cs : List Value} (h : RoAt w ao cs) (hb : Below w.heap.size w w') : RoAt w' ao cs := by
  intro hne
  obtain ⟨b, off, rfl, hlt, hc⟩ := h hne
  exact ⟨b, off, rfl, Nat.lt_of_lt_of_le hlt hb.size, fun i hi => (hb.cell (p := ⟨b, off + i, none⟩) hlt).trans (hc i hi)⟩
/-- What a call that turns nothing leaves. -/
theorem EOK.below {n0 : Nat} {ρ ρ' : Env} {w w' : World} {e : E} {nx : Nat} (h : EOK n0 ρ w e) (hw : e.lab < nx ∧ ∀ c ∈ e.cs, c.wf nx) (ha : AgrLt nx ρ ρ') (hb : Below w.heap.size w w') : EOK n0 ρ' w' e := by
  obtain ⟨lab, kd, cs⟩ := e
  simp only at hw
  cases kd with
  | ro z => simp only [EOK] at h ⊢; rw [ha lab hw.1, cells_agr ha hw.2]; exact ⟨h.1.below hb, h.2⟩
  | own t =>
    simp only [EOK] at h ⊢; rw [ha lab hw.1, cells_agr ha hw.2]
    obtain ⟨b, e1, e2, e3⟩ := h
    exact ⟨b, e1, e2, (hb.block b (Array.getElem?_eq_some_iff.1 e3).1).trans e3⟩
  | vec t z =>
    simp only [EOK] at h ⊢; rw [ha lab hw.1, cells_agr ha hw.2]
    obtain ⟨n, h1, h2⟩ := h
    refine ⟨n, h1, h2.imp id ?_⟩
    rintro ⟨g, cap, cur, f1, f2, f3, f4⟩
    exact ⟨g, cap, cur, f1, f2, (hb.block g (Array.getElem?_eq_some_iff.1 f3).1).trans f3, f4⟩
/-- The new entries that an operation leaves. -/
structure News (n0 : Nat) (L : List E) (ρ ρ' : Env) (w w' : World) (nx nx' : Nat) (new : List E) : Prop where
  ok : ∀ e ∈ new, EOK n0 ρ' w' e
  wf : ∀ e ∈ new, (nx ≤ e.lab ∧ e.lab < nx') ∧ ∀ c ∈ e.cs, c.wf nx'
  fn : ∀ e ∈ new, ∀ e' ∈ new, e'.lab = e.lab → e' = e
  apart : ∀ e ∈ new, ∀ e' ∈ new, Apart ρ' e e'
  place : ∀ e ∈ new, (∀ b, blk ρ' e.lab = some b → w.heap.size ≤ b) ∨ (e.kd.isRo = true ∧ (e.cs = [] ∨ ∃ e0 ∈ L, e0.kd.isRo = true ∧ e0.cs ≠ [] ∧ blk ρ' e.lab = blk ρ e0.lab))
theorem News.nil {n0 : Nat} {L : List E} {ρ : Env} {w w' : World} {nx : Nat} : News n0 L ρ ρ w w' nx nx [] :=
  ⟨by simp, by simp, by simp, by simp, by simp⟩
theorem Hp.mono {n0 : Nat} {ρ : Env} {w : World} {L L' : List E} {nx nx' : Nat} (h : Hp n0 ρ w L nx) (hs : ∀ e ∈ L', e ∈ L) (hx : nx ≤ nx') : Hp n0 ρ w L' nx' :=
  ⟨h.base, fun e he => h.ok e (hs e he), fun e he => ⟨Nat.lt_of_lt_of_le (h.wf e (hs e he)).1 hx, fun c hc => C.wf_mono hx ((h.wf e (hs e he)).2 c hc)⟩,
   fun e he e' he' => h.fn e (hs e he) e' (hs e' he'), fun e he e' he' => h.apart e (hs e he) e' (hs e' he')⟩
/-- Old entries and new ones, behind an operation that turns nothing. 'Lc' is what the operation was told of; 'ny': beyond all labels. -/
theorem Hp.news {n0 : Nat} {Lc L : List E} {ρ ρ' : Env} {w w' : World} {nx nx' ny : Nat} {new : List E} (h : Hp n0 ρ w L ny) (hLc : ∀ e ∈ Lc, e ∈ L) (hn : News n0 Lc ρ ρ' w w' nx nx' new) (hb : Below w.heap.size w w')
    (ha : Agr nx nx' ρ ρ') (hL : ∀ e ∈ L, (¬ (nx ≤ e.lab ∧ e.lab < nx')) ∧ ∀ c ∈ e.cs, c.den ρ' = c.den ρ) (hny : nx' ≤ ny) : Hp n0 ρ' w' (new ++ L) ny := by
  have hok : ∀ e ∈ L, EOK n0 ρ' w' e := fun e he => by
    have h1 := h.ok e he
    have hl : ρ' e.lab = ρ e.lab := ha _ (hL e he).1
    have hm : e.cs.map (C.den ρ') = e.cs.map (C.den ρ) := List.map_congr_left (hL e he).2
    obtain ⟨lab, kd, cs⟩ := e
    cases kd with
    | ro z => simp only [EOK] at h1 ⊢; rw [hl, hm]; exact ⟨h1.1.below hb, h1.2⟩
    | own t =>
      simp only [EOK] at h1 ⊢; rw [hl, hm]
      obtain ⟨b, e1, e2, e3⟩ := h1
      exact ⟨b, e1, e2, (hb.block b (Array.getElem?_eq_some_iff.1 e3).1).trans e3⟩
    | vec t z =>
      simp only [EOK] at h1 ⊢; rw [hl, hm]
      obtain ⟨n, h2, h3⟩ := h1
      refine ⟨n, h2, h3.imp id ?_⟩
      rintro ⟨g, cap, cur, f1, f2, f3, f4⟩
      exact ⟨g, cap, cur, f1, f2, (hb.block g (Array.getElem?_eq_some_iff.1 f3).1).trans f3, f4⟩
  have hblk : ∀ e ∈ L, blk ρ' e.lab = blk ρ e.lab := fun e he => by simp only [blk]; rw [ha _ (hL e he).1]
  refine ⟨Nat.le_trans h.base hb.size, ?_, ?_, ?_, ?_⟩
  · intro e he
    rcases List.mem_append.1 he with he | he
    · exact hn.ok e he
    · exact hok e he
  · intro e he
    rcases List.mem_append.1 he with he | he
    · exact ⟨Nat.lt_of_lt_of_le (hn.wf e he).1.2 hny, fun c hc => C.wf_mono hny ((hn.wf e he).2 c hc)⟩
    · exact h.wf e he
  · intro e he e' he' hee
    rcases List.mem_append.1 he with he | he <;> rcases List.mem_append.1 he' with he' | he'
    · exact hn.fn e he e' he' hee
    · exact absurd (hee ▸ (hn.wf e he).1) (hL e' he').1
    · exact absurd (hee ▸ (hn.wf e' he').1) (hL e he).1
    · exact h.fn e he e' he' hee
  · intro e he e' he'
    rcases List.mem_append.1 he with he | he <;> rcases List.mem_append.1 he' with he' | he'
    · exact hn.apart e he e' he'
    · intro hro hne hcs b hb1 hb2
      rw [hblk e' he'] at hb2
      have := EOK.lt (h.ok e' he') hcs hb2
      rcases hn.place e he with hp | ⟨hp, _⟩
      · have := hp b hb1; omega
      · rw [hp] at hro; cases hro
    · intro hro hne hcs b hb1 hb2
      rw [hblk e he] at hb1
      have := EOK.lt (h.ok e he) (fun hr => by rw [hr] at hro; cases hro) hb1
      rcases hn.place e' he' with hp | ⟨hp, hp2 | ⟨e0, he0, hr0, hc0, hb0⟩⟩
      · have := hp b hb2; omega
      · exact hcs hp hp2
      · rw [hb0] at hb2
        by_cases h0 : e0.lab = e.lab
        · have := h.fn e he e0 (hLc e0 he0) h0
          rw [this, hro] at hr0; cases hr0
        · exact h.apart e he e0 (hLc e0 he0) hro h0 (fun _ => hc0) b hb1 hb2
    · intro hro hne hcs b hb1
      rw [hblk e he] at hb1
      rw [hblk e' he']
      exact h.apart e he e' he' hro hne hcs b hb1
/-- The plain case: all labels lie below. -/
theorem Hp.news' {n0 : Nat} {L : List E} {ρ ρ' : Env} {w w' : World} {nx nx' : Nat} {new : List E} (h : Hp n0 ρ w L nx) (hn : News n0 L ρ ρ' w w' nx nx' new) (hb : Below w.heap.size w w')
    (ha : Agr nx nx' ρ ρ') (hx : nx ≤ nx') : Hp n0 ρ' w' (new ++ L) nx' :=
  (h.mono (fun _ he => he) hx).news (fun _ he => he) hn hb ha (fun e he => ⟨by have := (h.wf e he).1; omega, fun c hc => C.den_agr ha.lt ((h.wf e he).2 c hc)⟩) (Nat.le_refl _)
/-- Reading a cell. -/
theorem EOK.read {n0 : Nat} {ρ : Env} {w : World} {e : E} (h : EOK n0 ρ w e) {o : Nat} {c : C} (hc : e.cs[o]? = some c) :
    ∃ b off, (ρ e.lab).1 = some ⟨b, off, none⟩ ∧ b < w.heap.size ∧ w.cell? ⟨b, off + o, none⟩ = some (c.den ρ) := by
  have hlt : o < e.cs.length := (List.getElem?_eq_some_iff.1 hc).1
  obtain ⟨lab, kd, cs⟩ := e
  cases kd with
  | ro z =>
    obtain ⟨b, off, e1, e2, e3⟩ := h.1 (by intro hn; have := congrArg List.length hn; simp at this; subst this; simp at hlt)
    refine ⟨b, off, e1, e2, (e3 o (by simpa using hlt)).trans ?_⟩
    simp only at hc
    simp [List.getD_eq_getElem?_getD, hc]
  | own t =>
    obtain ⟨b, e1, e2, e3⟩ := h
    refine ⟨b, 0, e1, (Array.getElem?_eq_some_iff.1 e3).1, ?_⟩
    simp only at hc
    rw [Nat.zero_add, cell_of_row w b o _ t (0, 0) e3]
    simp [hc]
  | vec t z =>
    obtain ⟨n, hw⟩ := h
    simp only at hc hlt
    have hl : o < n * z := by rw [← hw.1]; simpa using hlt
    rcases hw.2 with ⟨h1, h2⟩ | ⟨g, cap, cur, h1, h2, h3, _⟩
    · subst h2; simp at hl
    · have hw' := hw
      rw [h1] at hw'
      have hg : (ρ lab).1 = some ⟨g, 0, none⟩ := by injection h1
      refine ⟨g, 0, hg, (Array.getElem?_eq_some_iff.1 h3).1, ?_⟩
      rw [Nat.zero_add, hw'.cellAt o hl]
      simp [hc]
end Go.Proofs.Ytnafllhgjidbkaa
