/- Texts of the proof, part 1: SA. -/
import Derived.WalkKit
import Derived.Below
import Derived.Laws.OwnMore
import Derived.Maps.AppendAt
import Derived.Laws.IdiomCopy
import Derived.Laws.CopyRow
import Derived.IntWalk
import Derived.StillTail
import Derived.Scope
import Derived.ChangeKeysEq
import Derived.Laws.Small
import Derived.OrdersIn
import Derived.TacticsIn
import Derived.OwnWalkIn
import Derived.RangeFuncNested
import Derived.RangeFuncLeaves
import Derived.RangeFuncRecord
import Derived.Maps.Keyed
import Derived.Maps.RangeRun
import Derived.DeepKeys4
/- A calculus for walks, first half: symbols for slots and memory, and what each operation asks and leaves. -/
namespace Go.Proofs.Ytjijjncddjkdlaa
open Go.RowKit
set_option linter.unusedVariables false
set_option linter.unusedSimpArgs false
/-! A small calculus for walks: a frame's slots and the memory that a call owns or reads, as lists of symbols; what an operation asks and leaves is computed. -/

/-- What a cell holds, as a symbol. -/
inductive C where
  | int (k : IntKind) (n : Int)
  | tt
  | ff
  | bool (b : Bool)
  | ptr (lab off : Nat)
  | sl (lab len : Nat)
  | sub (lab off len k : Nat)
  | nil
  | fn (f : FuncId) (caps : List (Nat × Nat))
  | mp (lab : Nat)
  | v (x : Value)
inductive A where
  | c (x : C)
  | agg (l : List C)
inductive V where
  | a (x : A)
  | tup (l : List A)
/-- Where a label lies, and the room of the slice that begins there. -/
abbrev Env := Nat → Option Addr × Nat
def ptrD (ρ : Env) (p : Nat × Nat) : Value := .pointer ((ρ p.1).1.map (·.add p.2))
def C.den (ρ : Env) : C → Value
  | .int k n => .int k n
  | .tt => .bool true
  | .ff => .bool false
  | .bool b => .bool b
  | .ptr l o => ptrD ρ (l, o)
  | .sl l n => .slice (ρ l).1 n (ρ l).2
  | .sub l o n k => .slice ((ρ l).1.map (·.add o)) n ((ρ l).2 - k)
  | .nil => .slice none 0 0
  | .fn f caps => .func (.func f) #[] (caps.map (ptrD ρ)).toArray
  | .mp l => .map ((ρ l).1.map (·.block))
  | .v x => x
def A.den (ρ : Env) : A → Value
  | .c x => x.den ρ
  | .agg l => .agg (l.map (C.den ρ)).toArray
def V.den (ρ : Env) : V → Value
  | .a x => x.den ρ
  | .tup l => .tuple (l.map (A.den ρ)).toArray
def C.wf (n : Nat) : C → Prop
  | .ptr l _ => l < n
  | .sl l _ => l < n
  | .sub l _ _ _ => l < n
  | .fn _ caps => ∀ p ∈ caps, p.1 < n
  | .mp l => l < n
  | .v x => x.oneCell' = true
  | _ => True
def A.wf (n : Nat) : A → Prop
  | .c x => x.wf n
  | .agg l => ∀ c ∈ l, c.wf n
def V.wf (n : Nat) : V → Prop
  | .a x => x.wf n
  | .tup l => ∀ c ∈ l, c.wf n
def A.cells : A → List C
  | .c x => [x]
  | .agg l => l
@[reducible] def V.c (x : C) : V := .a (.c x)
@[reducible] def V.i (n : Int) : V := .a (.c (.int .i64 n))
@[reducible] def V.agg (l : List C) : V := .a (.agg l)
@[reducible] def C.i (n : Int) : C := .int .i64 n
def Agr (nx nx' : Nat) (ρ ρ' : Env) : Prop := ∀ l, ¬ (nx ≤ l ∧ l < nx') → ρ' l = ρ l
def AgrLt (nx : Nat) (ρ ρ' : Env) : Prop := ∀ l, l < nx → ρ' l = ρ l
theorem Agr.lt {nx nx' : Nat} {ρ ρ' : Env} (h : Agr nx nx' ρ ρ') : AgrLt nx ρ ρ' := fun l hl => h l (by omega)
theorem Agr.refl (nx : Nat) (ρ : Env) : Agr nx nx ρ ρ := fun _ _ => rfl
theorem AgrLt.refl (nx : Nat) (ρ : Env) : AgrLt nx ρ ρ := fun _ _ => rfl
theorem AgrLt.trans {nx nx' : Nat} {a b c : Env} (h : AgrLt nx a b) (h' : AgrLt nx' b c) (hl : nx ≤ nx') : AgrLt nx a c := fun l hh => (h' l (by omega)).trans (h l hh)

theorem C.den_agr {nx : Nat} {ρ ρ' : Env} (h : AgrLt nx ρ ρ') {c : C} (hc : c.wf nx) : c.den ρ' = c.den ρ := by
  cases c <;> simp only [C.den, ptrD, C.wf] at *
  case ptr l o => rw [h l hc]
  case sl l n => rw [h l hc]
  case mp l => rw [h l hc]
  case sub l o n k => rw [h l hc]
  case fn f caps =>
    congr 2
    exact List.map_congr_left fun p hp => by simp only [ptrD]; rw [h p.1 (hc p hp)]
theorem cells_agr {nx : Nat} {ρ ρ' : Env} (h : AgrLt nx ρ ρ') {l : List C} (hc : ∀ c ∈ l, c.wf nx) : l.map (C.den ρ') = l.map (C.den ρ) :=
  List.map_congr_left fun c hm => C.den_agr h (hc c hm)
theorem A.den_agr {nx : Nat} {ρ ρ' : Env} (h : AgrLt nx ρ ρ') {c : A} (hc : c.wf nx) : c.den ρ' = c.den ρ := by
  cases c with
  | c x => exact C.den_agr h hc
  | agg l => simp only [A.den]; rw [cells_agr h hc]
theorem V.den_agr {nx : Nat} {ρ ρ' : Env} (h : AgrLt nx ρ ρ') {c : V} (hc : c.wf nx) : c.den ρ' = c.den ρ := by
  cases c with
  | a x => exact A.den_agr h hc
  | tup l => simp only [V.den]; rw [List.map_congr_left fun c hm => A.den_agr h (hc c hm)]
theorem C.wf_mono {n m : Nat} (h : n ≤ m) {c : C} (hc : c.wf n) : c.wf m := by
  cases c <;> simp only [C.wf] at *
  case ptr l o => omega
  case sl l k => omega
  case mp l => omega
  case sub l o m k => omega
  case fn f caps => exact fun p hp => Nat.lt_of_lt_of_le (hc p hp) h
  case v x => exact hc
theorem A.wf_mono {n m : Nat} (h : n ≤ m) {c : A} (hc : c.wf n) : c.wf m := by
  cases c with
  | c x => exact C.wf_mono h hc
  | agg l => exact fun c hm => C.wf_mono h (hc c hm)
theorem V.wf_mono {n m : Nat} (h : n ≤ m) {c : V} (hc : c.wf n) : c.wf m := by
  cases c with
  | a x => exact A.wf_mono h hc
  | tup l => exact fun c hm => A.wf_mono h (hc c hm)
theorem C.one {n : Nat} {c : C} (hc : c.wf n) (ρ : Env) : (c.den ρ).oneCell' = true := by
  cases c <;> first | rfl | exact hc
theorem C.cells_den {n : Nat} {c : C} (hc : c.wf n) (ρ : Env) : (c.den ρ).cells = #[c.den ρ] := by
  have := C.one hc ρ
  generalize c.den ρ = x at this
  cases x <;> first | rfl | (simp [Value.oneCell'] at this)
theorem A.cells_den {n : Nat} {c : A} (hc : c.wf n) (ρ : Env) : (c.den ρ).cells = (c.cells.map (C.den ρ)).toArray := by
  cases c with
  | c x => simp only [A.den, A.cells, List.map_cons, List.map_nil]; exact C.cells_den hc ρ
  | agg l => rfl
theorem A.cells_wf {n : Nat} {c : A} (hc : c.wf n) : ∀ x ∈ c.cells, x.wf n := by
  cases c with
  | c x => intro y hy; simp only [A.cells, List.mem_singleton] at hy; subst hy; exact hc
  | agg l => exact hc

/-- A map's keys: integers, or arrays of so many. -/
inductive KS where
  | int
  | arr (n : Nat)
/-- A map's elements: integers, bools, structs of integers. -/
inductive MV where
  | i (n : Int)
  | b (x : Bool)
  | w (l : List Int)
abbrev MF := List Int → Option MV
def MV.den : MV → Value
  | .i n => .int .i64 n
  | .b x => .bool x
  | .w l => .agg (l.map (Value.int .i64)).toArray
def keyD : KS → List Int → Value
  | .int, l => .int .i64 (l.headD 0)
  | .arr _, l => .agg (l.map (Value.int .i64)).toArray
def okK (ks : KS) (l : List Int) : Prop := (match ks with | .int => l.length = 1 | .arr n => l.length = n) ∧ ∀ x ∈ l, -9223372036854775808 ≤ x ∧ x ≤ 9223372036854775807
/-- What a map's entries say. -/
structure MapIs (ks : KS) (f : MF) (es : Array MapEntry) (clock : Nat) : Prop where
  val : ∀ x ∈ es.toList, ∃ k v, okK ks k ∧ x.key = keyD ks k ∧ f k = some v ∧ x.val = v.den
  has : ∀ k v, f k = some v → okK ks k ∧ ∃ x ∈ es.toList, x.key = keyD ks k
  st : Go.MapKept.Stamped es clock
/-- What lies at a label: cells that are read alone, a variable, or a row that the call owns, or a map (own: it may be turned). -/
inductive Kd where
  | ro (z : Nat)
  | own (t : TypeId)
  | vec (e : TypeId) (z : Nat)
  | obj (o : Obj)
  | mp (own : Bool) (ks : KS) (f : MF)
def Kd.z : Kd → Option Nat
  | .ro 0 => none
  | .ro (k + 1) => some (k + 1)
  | .vec _ z => some z
  | .own _ => none
  | .obj _ => none
  | .mp _ _ _ => none
structure E where
  lab : Nat
  kd : Kd
  cs : List C
/-- The cells that begin at an address. -/
def RoAt (w : World) (ao : Option Addr) (cs : List Value) : Prop :=
  cs ≠ [] → ∃ b off, ao = some ⟨b, off, none⟩ ∧ b < w.heap.size ∧ ∀ i, i < cs.length → w.cell? ⟨b, off + i, none⟩ = some (cs.getD i undef)
/-- A row of the call's own, from some place of its block on. -/
def rowO (w : World) (base : Nat) (e : TypeId) (size : Nat) (v : Value) (n : Nat) (xs : List Value) : Prop :=
  xs.length = n * size ∧
  ((v = .slice none 0 0 ∧ n = 0) ∨
   ∃ g off cap cur, v = .slice (some ⟨g, off, none⟩) n cap ∧ base ≤ g ∧ w.heap[g]? = some (.cells cur e (0, 0)) ∧ n ≤ cap ∧ cap ≤ maxLen ∧ off + cap * size ≤ cur.size ∧ (cur.toList.drop off).take (n * size) = xs)
section
variable {w : World} {base : Nat} {e : TypeId} {size : Nat} {v : Value} {n : Nat} {xs : List Value}
theorem rowO.of (h : w.ownsRow base e size v n xs) : rowO w base e size v n xs :=
  ⟨h.1, h.2.imp id fun ⟨g, cap, cur, a, b, c, d, e', f, i⟩ => ⟨g, 0, cap, cur, a, b, c, d, e', by omega, by simpa using i⟩⟩
theorem rowO_nil (w : World) (base : Nat) (e : TypeId) (size : Nat) : rowO w base e size (.slice none 0 0) 0 [] := ⟨by simp, .inl ⟨rfl, rfl⟩⟩
theorem rowO.lt (h : rowO w base e size v n xs) : ∀ k, v.ownBlock = some k → base ≤ k ∧ k < w.heap.size := by
  intro k hk
  rcases h.2 with ⟨rfl, _⟩ | ⟨g, off, cap, cur, rfl, hb, hg, _⟩
  · simp [Value.ownBlock] at hk
  · simp [Value.ownBlock] at hk
    subst hk
    exact ⟨hb, (Array.getElem?_eq_some_iff.1 hg).1⟩
theorem rowO.kept {w' : World} {row : Option Nat} (h : rowO w base e size v n xs) (hg : w.grownBy w' row) (hne : v.ownBlock = none ∨ v.ownBlock ≠ row) : rowO w' base e size v n xs := by
  refine ⟨h.1, ?_⟩
  rcases h.2 with hn | ⟨g, off, cap, cur, rfl, hb, hgg, rest⟩
  · exact .inl hn
  · refine .inr ⟨g, off, cap, cur, rfl, hb, ?_, rest⟩
    rw [hg.block g (Array.getElem?_eq_some_iff.1 hgg).1 (by simpa [Value.ownBlock] using hne)]
    exact hgg
variable {g off cap : Nat}
theorem rowO.cellAt (h : rowO w base e size (.slice (some ⟨g, off, none⟩) n cap) n xs) (j : Nat) (hj : j < n * size) : w.cell? ⟨g, off + j, none⟩ = xs[j]? := by
  rcases h.2 with ⟨h', _⟩ | ⟨g', off', cap', cur, h', _, hg, _, _, _, htake⟩
  · simp at h'
  · simp only [Value.slice.injEq, Option.some.injEq, Addr.mk.injEq, and_true, true_and] at h'
    obtain ⟨⟨rfl, rfl⟩, rfl⟩ := h'
    rw [cell_of_row w g (off + j) cur e (0, 0) hg, ← htake, List.getElem?_take, if_pos hj, List.getElem?_drop]
    simp
theorem rowO.frozenAt (h : rowO w base e size (.slice (some ⟨g, off, none⟩) n cap) n xs) (j : Nat) : w.frozen? ⟨g, j, none⟩ = false := by
  rcases h.2 with ⟨h', _⟩ | ⟨g', off', cap', cur, h', _, hg, _⟩
  · simp at h'
  · simp only [Value.slice.injEq, Option.some.injEq, Addr.mk.injEq, and_true, true_and] at h'
    obtain ⟨⟨rfl, rfl⟩, rfl⟩ := h'
    exact frozen_of_row w g j cur e hg
theorem drop_set_at {α : Type} (l : List α) (o j : Nat) (u : α) : (l.set (o + j) u).drop o = (l.drop o).set j u := by
  rw [List.drop_set, if_neg (by omega)]; congr 1; omega
theorem rowO.stored (h : rowO w base e size (.slice (some ⟨g, off, none⟩) n cap) n xs) (j : Nat) (u : Value) :
    rowO (w.setCell ⟨g, off + j, none⟩ u) base e size (.slice (some ⟨g, off, none⟩) n cap) n (xs.set j u) ∧ w.grownBy (w.setCell ⟨g, off + j, none⟩ u) (some g) := by
  rcases h.2 with ⟨h', _⟩ | ⟨g', off', cap', cur, h', hb, hg, hnc, hcm, hcs, htake⟩
  · simp at h'
  · simp only [Value.slice.injEq, Option.some.injEq, Addr.mk.injEq, and_true, true_and] at h'
    obtain ⟨⟨rfl, rfl⟩, rfl⟩ := h'
    refine ⟨⟨by simpa using h.1, .inr ⟨g, off, cap, cur.setIfInBounds (off + j) u, rfl, hb, heap_setCell_same w g (off + j) cur e u hg, hnc, hcm, by simpa using hcs, ?_⟩⟩,
      ⟨rfl, rfl, rfl, by simp, fun k hk hne => heap_setCell_other w ⟨g, off + j, none⟩ k u (fun e => hne (by simp [e]))⟩⟩
    rw [Array.toList_setIfInBounds, ← htake, drop_set_at, List.take_set]
/-- The row from some element on. -/
theorem rowO.cut (h : rowO w base e size v n xs) {ao : Option Addr} {c l : Nat} (hv : v = .slice ao n c) (hl : l ≤ n) :
    rowO w base e size (.slice (if c = l then ao else ao.map (·.add (l * size))) (n - l) (c - l)) (n - l) (xs.drop (l * size)) := by
  have hlen : (xs.drop (l * size)).length = (n - l) * size := by rw [List.length_drop, h.1, Nat.sub_mul]
  refine ⟨hlen, ?_⟩
  rcases h.2 with ⟨h1, h2⟩ | ⟨g, off, cap, cur, h1, h2, h3, h4, h5, h6, h7⟩
  · rw [hv] at h1
    cases h1
    left
    have : l = 0 := by omega
    subst this
    exact ⟨by simp, by omega⟩
  · rw [hv] at h1
    cases h1
    right
    have hmul : n * size ≤ c * size := Nat.mul_le_mul_right _ h4
    have hml : l * size ≤ n * size := Nat.mul_le_mul_right _ hl
    by_cases hc : c = l
    · have hz : c - l = 0 := by omega
      have hz2 : n - l = 0 := by omega
      refine ⟨g, off, 0, cur, by rw [if_pos hc, hz, hz2], h2, h3, by omega, by omega, by omega, ?_⟩
      rw [hz2] at hlen ⊢
      have : (xs.drop (l * size)) = [] := List.eq_nil_of_length_eq_zero (by simpa using hlen)
      rw [this]; simp
    · refine ⟨g, off + l * size, c - l, cur, ?_, h2, h3, by omega, by omega, ?_, ?_⟩
      · rw [if_neg hc, Option.map_some]
        congr 2
        unfold Addr.add; split <;> simp_all
      · rw [Nat.sub_mul]
        omega
      · rw [← h7, List.drop_take, List.drop_drop, Nat.sub_mul]
/-- Its first elements. -/
theorem rowO.cutHi (h : rowO w base e size v n xs) {ao : Option Addr} {c l : Nat} (hv : v = .slice ao n c) (hl : l ≤ n) : rowO w base e size (.slice ao l c) l (xs.take (l * size)) := by
  have hml : l * size ≤ n * size := Nat.mul_le_mul_right _ hl
  refine ⟨by rw [List.length_take, h.1]; omega, ?_⟩
  rcases h.2 with ⟨h1, h2⟩ | ⟨g, off, cap, cur, h1, h2, h3, h4, h5, h6, h7⟩
  · rw [hv] at h1; cases h1
    exact .inl ⟨by rw [show l = 0 by omega], by omega⟩
  · rw [hv] at h1; cases h1
    refine .inr ⟨g, off, c, cur, rfl, h2, h3, by omega, h5, h6, ?_⟩
    rw [← h7, List.take_take]; congr 1; omega
theorem rowO.cells (h : rowO w base e size (.slice (some ⟨g, off, none⟩) n cap) n xs) : ∀ j u, xs[j]? = some u → w.cell? ((⟨g, off, none⟩ : Addr).add j) = some u := by
  intro j u hu
  have hj : j < n * size := by rw [← h.1]; exact (List.getElem?_eq_some_iff.1 hu).1
  have : (⟨g, off, none⟩ : Addr).add j = ⟨g, off + j, none⟩ := by unfold Addr.add; split <;> simp_all
  rw [this, h.cellAt j hj]; exact hu
end
def EOK (n0 : Nat) (ρ : Env) (w : World) (e : E) : Prop :=
  match e.kd with
  | .ro z => RoAt w (ρ e.lab).1 (e.cs.map (C.den ρ)) ∧ (z = 0 ∨ e.cs.length ≤ (ρ e.lab).2 * z)
  | .own t => ∃ b, (ρ e.lab).1 = some ⟨b, 0, none⟩ ∧ n0 ≤ b ∧ w.heap[b]? = some (.cells (e.cs.map (C.den ρ)).toArray t (0, 0))
  | .vec t z => ∃ n, rowO w n0 t z (.slice (ρ e.lab).1 n (ρ e.lab).2) n (e.cs.map (C.den ρ))
  | .obj o => ∃ b, (ρ e.lab).1 = some ⟨b, 0, none⟩ ∧ n0 ≤ b ∧ w.heap[b]? = some o ∧ (∃ r, o = .loop r) ∧ e.cs = []
  | .mp own ks f => ∃ b es clock, (ρ e.lab).1 = some ⟨b, 0, none⟩ ∧ (own = true → n0 ≤ b) ∧ w.heap[b]? = some (.map es clock) ∧ MapIs ks f es clock ∧ e.cs = []
def blk (ρ : Env) (l : Nat) : Option Nat := (ρ l).1.map (·.block)
def Kd.isRo : Kd → Bool
  | .ro _ => true
  | .mp b _ _ => !b
  | _ => false
def Kd.isFl : Kd → Bool
  | .ro _ => true
  | _ => false
theorem Kd.fl_ro {k : Kd} (h : k.isFl = true) : k.isRo = true := by cases k <;> first | rfl | cases h
theorem Kd.ro_fl {k : Kd} (h : k.isRo = false) (h2 : k.isFl = true) : False := by rw [Kd.fl_ro h2] at h; cases h
/-- The entry's block must not be another's. -/
def Apart (ρ : Env) (e e' : E) : Prop := e.kd.isRo = false → e'.lab ≠ e.lab → (e'.kd.isFl = true → e'.cs ≠ []) → ∀ b, blk ρ e.lab = some b → blk ρ e'.lab ≠ some b
structure Hp (n0 : Nat) (ρ : Env) (w : World) (L : List E) (nx : Nat) : Prop where
  base : n0 ≤ w.heap.size
  ok : ∀ e ∈ L, EOK n0 ρ w e
  wf : ∀ e ∈ L, e.lab < nx ∧ ∀ c ∈ e.cs, c.wf nx
  fn : ∀ e ∈ L, ∀ e' ∈ L, e'.lab = e.lab → e' = e
  apart : ∀ e ∈ L, ∀ e' ∈ L, Apart ρ e e'
def find (L : List E) (l : Nat) : Option E :=
  match L with
  | [] => none
  | ⟨lab, kd, cs⟩ :: r => bif Nat.beq lab l then some ⟨lab, kd, cs⟩ else find r l
theorem find_mem {L : List E} {l : Nat} {e : E} (h : find L l = some e) : e ∈ L ∧ e.lab = l := by
  induction L with
  | nil => simp [find] at h
  | cons x r ih =>
    obtain ⟨xl, xk, xc⟩ := x
    simp only [find] at h
    cases hb : Nat.beq xl l with
    | true => rw [hb] at h; cases h; exact ⟨by simp, Nat.eq_of_beq_eq_true hb⟩
    | false => rw [hb] at h; obtain ⟨a, b⟩ := ih h; exact ⟨by simp [a], b⟩
/-- A block that an entry names is there. -/
theorem EOK.lt {n0 : Nat} {ρ : Env} {w : World} {e : E} (h : EOK n0 ρ w e) (hr : e.kd.isFl = true → e.cs ≠ []) {b : Nat} (hb : blk ρ e.lab = some b) : b < w.heap.size := by
  obtain ⟨lab, kd, cs⟩ := e
  cases kd with
  | ro z =>
    obtain ⟨b', o, e1, e2, _⟩ := h.1 (by simpa using hr rfl)
    simp only [blk, e1, Option.map_some, Option.some.injEq] at hb
    omega
  | own t =>
    obtain ⟨b', e1, _, e3⟩ := h
    simp only [blk, e1, Option.map_some, Option.some.injEq] at hb
    rw [← hb]; exact (Array.getElem?_eq_some_iff.1 e3).1
  | vec t z =>
    obtain ⟨n, hw⟩ := h
    simp only [blk] at hb
    obtain ⟨a, ha, hab⟩ := Option.map_eq_some_iff.1 hb
    exact (hw.lt b (by simp only [ha, Value.ownBlock, hab])).2
  | obj o =>
    obtain ⟨b', e1, _, e3, _⟩ := h
    simp only [blk, e1, Option.map_some, Option.some.injEq] at hb
    rw [← hb]; exact (Array.getElem?_eq_some_iff.1 e3).1
  | mp own ks f =>
    obtain ⟨b', es, ck, e1, _, e3, _⟩ := h
    simp only [blk, e1, Option.map_some, Option.some.injEq] at hb
    rw [← hb]; exact (Array.getElem?_eq_some_iff.1 e3).1
theorem RoAt.below {w w' : World} {ao : Option Addr} {cs : List Value} (h : RoAt w ao cs) (hb : Below w.heap.size w w') : RoAt w' ao cs := by
  intro hne
  obtain ⟨b, off, rfl, hlt, hc⟩ := h hne
  exact ⟨b, off, rfl, Nat.lt_of_lt_of_le hlt hb.size, fun i hi => (hb.cell (p := ⟨b, off + i, none⟩) hlt).trans (hc i hi)⟩
/-- What a call that turns nothing leaves. -/
theorem EOK.below {n0 : Nat} {ρ ρ' : Env} {w w' : World} {e : E} {nx : Nat} (h : EOK n0 ρ w e) (hw : e.lab < nx ∧ ∀ c ∈ e.cs, c.wf nx) (ha : AgrLt nx ρ ρ') (hb : Below w.heap.size w w') : EOK n0 ρ' w' e := by
  obtain ⟨lab, kd, cs⟩ := e
  simp only at hw
  cases kd with
  | ro z => simp only [EOK] at h ⊢; rw [ha lab hw.1, cells_agr ha hw.2]; exact ⟨h.1.below hb, h.2⟩
  | own t =>
    simp only [EOK] at h ⊢; rw [ha lab hw.1, cells_agr ha hw.2]
    obtain ⟨b, e1, e2, e3⟩ := h
    exact ⟨b, e1, e2, (hb.block b (Array.getElem?_eq_some_iff.1 e3).1).trans e3⟩
  | vec t z =>
    simp only [EOK] at h ⊢; rw [ha lab hw.1, cells_agr ha hw.2]
    obtain ⟨n, h1, h2⟩ := h
    refine ⟨n, h1, h2.imp id ?_⟩
    rintro ⟨g, off, cap, cur, f1, f2, f3, f4⟩
    exact ⟨g, off, cap, cur, f1, f2, (hb.block g (Array.getElem?_eq_some_iff.1 f3).1).trans f3, f4⟩
  | obj o =>
    simp only [EOK] at h ⊢; rw [ha lab hw.1]
    obtain ⟨b, e1, e2, e3, e4⟩ := h
    exact ⟨b, e1, e2, (hb.block b (Array.getElem?_eq_some_iff.1 e3).1).trans e3, e4⟩
  | mp own ks f =>
    simp only [EOK] at h ⊢; rw [ha lab hw.1]
    obtain ⟨b, es, ck, e1, e2, e3, e4⟩ := h
    exact ⟨b, es, ck, e1, e2, (hb.block b (Array.getElem?_eq_some_iff.1 e3).1).trans e3, e4⟩
/-- The new entries that an operation leaves. -/
structure News (n0 : Nat) (L : List E) (ρ ρ' : Env) (w w' : World) (nx nx' : Nat) (new : List E) : Prop where
  ok : ∀ e ∈ new, EOK n0 ρ' w' e
  wf : ∀ e ∈ new, (nx ≤ e.lab ∧ e.lab < nx') ∧ ∀ c ∈ e.cs, c.wf nx'
  fn : ∀ e ∈ new, ∀ e' ∈ new, e'.lab = e.lab → e' = e
  apart : ∀ e ∈ new, ∀ e' ∈ new, Apart ρ' e e'
  place : ∀ e ∈ new, (∀ b, blk ρ' e.lab = some b → w.heap.size ≤ b) ∨ (e.kd.isFl = true ∧ (e.cs = [] ∨ ∃ e0 ∈ L, e0.kd.isRo = true ∧ (e0.kd.isFl = true → e0.cs ≠ []) ∧ blk ρ' e.lab = blk ρ e0.lab))
theorem News.nil {n0 : Nat} {L : List E} {ρ : Env} {w w' : World} {nx : Nat} : News n0 L ρ ρ w w' nx nx [] :=
  ⟨by simp, by simp, by simp, by simp, by simp⟩
theorem Hp.mono {n0 : Nat} {ρ : Env} {w : World} {L L' : List E} {nx nx' : Nat} (h : Hp n0 ρ w L nx) (hs : ∀ e ∈ L', e ∈ L) (hx : nx ≤ nx') : Hp n0 ρ w L' nx' :=
  ⟨h.base, fun e he => h.ok e (hs e he), fun e he => ⟨Nat.lt_of_lt_of_le (h.wf e (hs e he)).1 hx, fun c hc => C.wf_mono hx ((h.wf e (hs e he)).2 c hc)⟩,
   fun e he e' he' => h.fn e (hs e he) e' (hs e' he'), fun e he e' he' => h.apart e (hs e he) e' (hs e' he')⟩
/-- Old entries and new ones, behind an operation that turns nothing. 'Lc' is what the operation was told of; 'ny': beyond all labels. -/
theorem Hp.news {n0 : Nat} {Lc L : List E} {ρ ρ' : Env} {w w' : World} {nx nx' ny : Nat} {new : List E} (h : Hp n0 ρ w L ny) (hLc : ∀ e ∈ Lc, e ∈ L) (hn : News n0 Lc ρ ρ' w w' nx nx' new) (hb : Below w.heap.size w w')
    (ha : Agr nx nx' ρ ρ') (hL : ∀ e ∈ L, (¬ (nx ≤ e.lab ∧ e.lab < nx')) ∧ ∀ c ∈ e.cs, c.den ρ' = c.den ρ) (hny : nx' ≤ ny) : Hp n0 ρ' w' (new ++ L) ny := by
  have hok : ∀ e ∈ L, EOK n0 ρ' w' e := fun e he => by
    have h1 := h.ok e he
    have hl : ρ' e.lab = ρ e.lab := ha _ (hL e he).1
    have hm : e.cs.map (C.den ρ') = e.cs.map (C.den ρ) := List.map_congr_left (hL e he).2
    obtain ⟨lab, kd, cs⟩ := e
    cases kd with
    | ro z => simp only [EOK] at h1 ⊢; rw [hl, hm]; exact ⟨h1.1.below hb, h1.2⟩
    | own t =>
      simp only [EOK] at h1 ⊢; rw [hl, hm]
      obtain ⟨b, e1, e2, e3⟩ := h1
      exact ⟨b, e1, e2, (hb.block b (Array.getElem?_eq_some_iff.1 e3).1).trans e3⟩
    | vec t z =>
      simp only [EOK] at h1 ⊢; rw [hl, hm]
      obtain ⟨n, h2, h3⟩ := h1
      refine ⟨n, h2, h3.imp id ?_⟩
      rintro ⟨g, off, cap, cur, f1, f2, f3, f4⟩
      exact ⟨g, off, cap, cur, f1, f2, (hb.block g (Array.getElem?_eq_some_iff.1 f3).1).trans f3, f4⟩
    | obj o =>
      simp only [EOK] at h1 ⊢; rw [hl]
      obtain ⟨b, e1, e2, e3, e4⟩ := h1
      exact ⟨b, e1, e2, (hb.block b (Array.getElem?_eq_some_iff.1 e3).1).trans e3, e4⟩
    | mp own ks f =>
      simp only [EOK] at h1 ⊢; rw [hl]
      obtain ⟨b, es, ck, e1, e2, e3, e4⟩ := h1
      exact ⟨b, es, ck, e1, e2, (hb.block b (Array.getElem?_eq_some_iff.1 e3).1).trans e3, e4⟩
  have hblk : ∀ e ∈ L, blk ρ' e.lab = blk ρ e.lab := fun e he => by simp only [blk]; rw [ha _ (hL e he).1]
  refine ⟨Nat.le_trans h.base hb.size, ?_, ?_, ?_, ?_⟩
  · intro e he
    rcases List.mem_append.1 he with he | he
    · exact hn.ok e he
    · exact hok e he
  · intro e he
    rcases List.mem_append.1 he with he | he
    · exact ⟨Nat.lt_of_lt_of_le (hn.wf e he).1.2 hny, fun c hc => C.wf_mono hny ((hn.wf e he).2 c hc)⟩
    · exact h.wf e he
  · intro e he e' he' hee
    rcases List.mem_append.1 he with he | he <;> rcases List.mem_append.1 he' with he' | he'
    · exact hn.fn e he e' he' hee
    · exact absurd (hee ▸ (hn.wf e he).1) (hL e' he').1
    · exact absurd (hee ▸ (hn.wf e' he').1) (hL e he).1
    · exact h.fn e he e' he' hee
  · intro e he e' he'
    rcases List.mem_append.1 he with he | he <;> rcases List.mem_append.1 he' with he' | he'
    · exact hn.apart e he e' he'
    · intro hro hne hcs b hb1 hb2
      rw [hblk e' he'] at hb2
      have := EOK.lt (h.ok e' he') hcs hb2
      rcases hn.place e he with hp | ⟨hp, _⟩
      · have := hp b hb1; omega
      · exact (Kd.ro_fl hro hp).elim
    · intro hro hne hcs b hb1 hb2
      rw [hblk e he] at hb1
      have := EOK.lt (h.ok e he) (fun hr => (Kd.ro_fl hro hr).elim) hb1
      rcases hn.place e' he' with hp | ⟨hp, hp2 | ⟨e0, he0, hr0, hc0, hb0⟩⟩
      · have := hp b hb2; omega
      · exact hcs hp hp2
      · rw [hb0] at hb2
        by_cases h0 : e0.lab = e.lab
        · have := h.fn e he e0 (hLc e0 he0) h0
          rw [this, hro] at hr0; cases hr0
        · exact h.apart e he e0 (hLc e0 he0) hro h0 hc0 b hb1 hb2
    · intro hro hne hcs b hb1
      rw [hblk e he] at hb1
      rw [hblk e' he']
      exact h.apart e he e' he' hro hne hcs b hb1
/-- The plain case: all labels lie below. -/
theorem Hp.news' {n0 : Nat} {L : List E} {ρ ρ' : Env} {w w' : World} {nx nx' : Nat} {new : List E} (h : Hp n0 ρ w L nx) (hn : News n0 L ρ ρ' w w' nx nx' new) (hb : Below w.heap.size w w')
    (ha : Agr nx nx' ρ ρ') (hx : nx ≤ nx') : Hp n0 ρ' w' (new ++ L) nx' :=
  (h.mono (fun _ he => he) hx).news (fun _ he => he) hn hb ha (fun e he => ⟨by have := (h.wf e he).1; omega, fun c hc => C.den_agr ha.lt ((h.wf e he).2 c hc)⟩) (Nat.le_refl _)
/-- Reading a cell. -/
theorem EOK.read {n0 : Nat} {ρ : Env} {w : World} {e : E} (h : EOK n0 ρ w e) {o : Nat} {c : C} (hc : e.cs[o]? = some c) :
    ∃ b off, (ρ e.lab).1 = some ⟨b, off, none⟩ ∧ b < w.heap.size ∧ w.cell? ⟨b, off + o, none⟩ = some (c.den ρ) := by
  have hlt : o < e.cs.length := (List.getElem?_eq_some_iff.1 hc).1
  obtain ⟨lab, kd, cs⟩ := e
  cases kd with
  | ro z =>
    obtain ⟨b, off, e1, e2, e3⟩ := h.1 (by intro hn; have := congrArg List.length hn; simp at this; subst this; simp at hlt)
    refine ⟨b, off, e1, e2, (e3 o (by simpa using hlt)).trans ?_⟩
    simp only at hc
    simp [List.getD_eq_getElem?_getD, hc]
  | own t =>
    obtain ⟨b, e1, e2, e3⟩ := h
    refine ⟨b, 0, e1, (Array.getElem?_eq_some_iff.1 e3).1, ?_⟩
    simp only at hc
    rw [Nat.zero_add, cell_of_row w b o _ t (0, 0) e3]
    simp [hc]
  | vec t z =>
    obtain ⟨n, hw⟩ := h
    simp only at hc hlt
    have hl : o < n * z := by rw [← hw.1]; simpa using hlt
    rcases hw.2 with ⟨h1, h2⟩ | ⟨g, off, cap, cur, h1, h2, h3, _⟩
    · subst h2; simp at hl
    · have hw' := hw
      rw [h1] at hw'
      have hg : (ρ lab).1 = some ⟨g, off, none⟩ := by injection h1
      refine ⟨g, off, hg, (Array.getElem?_eq_some_iff.1 h3).1, ?_⟩
      rw [hw'.cellAt o hl]
      simp [hc]
  | obj o' =>
    obtain ⟨b, _, _, _, _, e5⟩ := h
    simp only at e5 hlt
    subst e5
    simp at hlt
  | mp own ks f =>
    obtain ⟨b, es, ck, _, _, _, _, e5⟩ := h
    simp only at e5 hlt
    subst e5
    simp at hlt
/-- Where a walk stands: the blocks that it may turn though they are no cells (records of loops to which it yields), the loop whose round it is, and the names that stay. -/
structure Cx where
  x : Nat → Prop := fun _ => False
  rd : Option Nat := none
  nb : Nat := 0
  ρ0 : Env := fun _ => (none, 0)
  lo : Nat := 0
def Cx.top : Cx := {}
def isDefO : Obj → Bool
  | .deferred _ => true
  | _ => false
/-- What is neither cells nor a map. -/
def isStO : Obj → Bool
  | .deferred _ => true
  | .loop _ => true
  | _ => false
/-- What a walk leaves as it was. -/
structure Keep (n0 : Nat) (cx : Cx) (w w' : World) : Prop where
  bel : Below n0 w w'
  stay : ∀ k o, w.heap[k]? = some o → isStO o = true → (¬ cx.x k ∨ isDefO o = true) → w'.heap[k]? = some o
theorem Keep.refl {n0 : Nat} {cx : Cx} (w : World) : Keep n0 cx w w := ⟨Below.refl _ _, fun _ _ h _ _ => h⟩
theorem Keep.trans {n0 : Nat} {cx : Cx} {a b c : World} (h : Keep n0 cx a b) (h' : Keep n0 cx b c) : Keep n0 cx a c :=
  ⟨h.bel.trans h'.bel, fun k o h1 h2 h3 => h'.stay k o (h.stay k o h1 h2 h3) h2 h3⟩
theorem Keep.of {n0 : Nat} {cx : Cx} {w w' : World} (h : Below w.heap.size w w') (h0 : n0 ≤ w.heap.size) : Keep n0 cx w w' :=
  ⟨h.mono h0, fun k o h1 _ _ => (h.block k (Array.getElem?_eq_some_iff.1 h1).1).trans h1⟩
theorem Keep.top {n0 : Nat} {cx : Cx} {w w' : World} (h : Keep n0 Cx.top w w') : Keep n0 cx w w' :=
  ⟨h.bel, fun k o h1 h2 _ => h.stay k o h1 h2 (.inl (fun h => h))⟩
theorem Keep.row {n0 : Nat} {cx : Cx} {w w' : World} {ob : Option Nat} (hg : w.grownBy w' ob) (hb : ∀ b, ob = some b → n0 ≤ b ∧ ∀ o, w.heap[b]? = some o → isStO o = false) (h0 : n0 ≤ w.heap.size) : Keep n0 cx w w' :=
  ⟨⟨hg.os, hg.tape, hg.output, hg.size, fun k hk => hg.block k (by omega) (fun e => by have := (hb k e.symm).1; omega)⟩,
   fun k o h1 h2 _ => (hg.block k (Array.getElem?_eq_some_iff.1 h1).1 (fun e => by rw [(hb k e.symm).2 o h1] at h2; cases h2)).trans h1⟩
/-- What a walk leans on besides. -/
structure Inv (cx : Cx) (na : Nat) (ρ : Env) (w : World) (ds : List Deferred) : Prop where
  le : cx.nb ≤ na
  agr : AgrLt cx.nb cx.ρ0 ρ
  df : ∀ d ∈ ds, ∃ D, d = { target := .collected D, args := #[] } ∧ cx.lo ≤ D ∧ w.heap[D]? = some (.deferred (some []))
  nd : ds.Nodup
  lo : cx.lo ≤ w.heap.size
  rd : ∀ l, cx.rd = some l → (∃ r, w.heap[l]? = some (.loop r)) ∧ ¬ cx.x l
  lt : ∀ k, cx.x k → k < w.heap.size
theorem Inv.keep {cx : Cx} {n0 na : Nat} {ρ ρ' : Env} {w w' : World} {ds : List Deferred} (h : Inv cx na ρ w ds) (ha : AgrLt na ρ ρ') (hk : Keep n0 cx w w') : Inv cx na ρ' w' ds :=
  ⟨h.le, fun l hl => (ha l (Nat.lt_of_lt_of_le hl h.le)).trans (h.agr l hl), fun d hd => let ⟨D, h1, h0, h2⟩ := h.df d hd; ⟨D, h1, h0, hk.stay D _ h2 rfl (.inr rfl)⟩, h.nd, Nat.le_trans h.lo hk.bel.size,
   fun l hl => let ⟨⟨r, h1⟩, h2⟩ := h.rd l hl; ⟨⟨r, hk.stay l _ h1 rfl (.inl h2)⟩, h2⟩, fun k hk' => Nat.lt_of_lt_of_le (h.lt k hk') hk.bel.size⟩
/-- Where a function begins. -/
def Cx.at (n : Nat) : Cx := { lo := n }
theorem Inv.at {na : Nat} {ρ : Env} {w : World} : Inv (Cx.at w.heap.size) na ρ w [] :=
  ⟨Nat.zero_le _, fun l hl => absurd hl (Nat.not_lt_zero _), fun d hd => (by cases hd), List.nodup_nil, Nat.le_refl _, fun l hl => (by cases hl), fun k hk => hk.elim⟩
theorem Inv.na {cx : Cx} {na na' : Nat} {ρ : Env} {w : World} {ds : List Deferred} (h : Inv cx na ρ w ds) (hl : na ≤ na') : Inv cx na' ρ w ds := ⟨Nat.le_trans h.le hl, h.agr, h.df, h.nd, h.lo, h.rd, h.lt⟩
theorem put_defers (a : Act) (d : Option Tmp) (v : Value) : (a.put d v).defers = a.defers := by cases d <;> rfl
/-- The fence of a walk: all functions, in a round or not. -/
def FR (rd : Option Nat) : Fence := { Fence.wide with round := rd }

/- What an operation that turns no memory asks and yields, computed over symbols. -/

abbrev S := List (Nat × V)
inductive TK where
  | int (k : IntKind)
  | bool
  | one
  | str (fs : List (Nat × Nat))
  | arr (n e : Nat)
  | sl (e : Nat)
  | map (k e : Nat) (ks : KS) (z : MV)
structure TD where
  size : Nat
  bytes : Nat
  zero : List C
  kd : TK
def TK.agg : TK → Bool
  | .str _ => true
  | .arr _ _ => true
  | _ => false
def lookT (T : List (Nat × TD)) (t : Nat) : Option TD :=
  match T with
  | [] => none
  | (k, d) :: r => bif Nat.beq k t then some d else lookT r t
def TKOK (P : Program) (t : Nat) : TK → Prop
  | .int k => P.underlying t = some (.int k)
  | .bool => P.underlying t = some .bool
  | .one => ∃ u, P.underlying t = some u ∧ (match u with | .struct _ | .array _ _ => true | _ => false) = false
  | .str fs => ∃ F, P.underlying t = some (.struct F) ∧ F.toList.map (fun f => (f.offset, f.type)) = fs ∧ P.stoodInHeld t = false ∧ F.toList.all (fun f => f.name != "_") = true
  | .arr n e => P.underlying t = some (.array n e)
  | .sl e => P.underlying t = some (.slice e)
  | .map k e ks z => P.underlying t = some (.map k e) ∧ Go.Maps.Keyed P k ∧ (∀ l, okK ks l → ∃ x, keyOf P k (keyD ks l) = some x) ∧ ∃ i, P.info? e = some i ∧ i.zero = some z.den
def TDOK (P : Program) (t : Nat) (d : TD) : Prop :=
  ∃ i z, P.info? t = some i ∧ i.size = d.size ∧ i.bytes = d.bytes ∧ i.zero = some z ∧ (∀ ρ, z.cells = (d.zero.map (C.den ρ)).toArray) ∧ d.zero.length = d.size ∧ (∀ c ∈ d.zero, c.wf 0) ∧ TKOK P t d.kd
def TOK (P : Program) (T : List (Nat × TD)) : Prop := ∀ p ∈ T, TDOK P p.1 p.2
theorem lookT_ok {P : Program} {T : List (Nat × TD)} (h : TOK P T) {t : Nat} {d : TD} (hl : lookT T t = some d) : TDOK P t d := by
  induction T with
  | nil => simp [lookT] at hl
  | cons p r ih =>
    obtain ⟨k, v⟩ := p
    simp only [lookT] at hl
    cases hb : Nat.beq k t with
    | true => rw [hb] at hl; cases hl; rw [← Nat.eq_of_beq_eq_true hb]; exact h _ (List.mem_cons_self)
    | false => rw [hb] at hl; exact ih (fun q hq => h q (by simp [hq])) hl
theorem TDOK.isAgg {P : Program} {t : Nat} {d : TD} (h : TDOK P t d) : ∃ u, P.underlying t = some u ∧ (match u with | .struct _ | .array _ _ => true | _ => false) = d.kd.agg := by
  obtain ⟨i, z, _, _, _, _, _, _, _, hk⟩ := h
  cases hd : d.kd <;> rw [hd] at hk <;> simp only [TKOK] at hk
  case int k => exact ⟨_, hk, rfl⟩
  case bool => exact ⟨_, hk, rfl⟩
  case one => obtain ⟨u, h1, h2⟩ := hk; exact ⟨u, h1, h2⟩
  case str fs => obtain ⟨F, h1, h2⟩ := hk; exact ⟨_, h1, rfl⟩
  case arr n e => exact ⟨_, hk, rfl⟩
  case sl e => exact ⟨_, hk, rfl⟩
  case map k e ks z => exact ⟨_, hk.1, rfl⟩

def look (s : S) (t : Nat) : Option V :=
  match s with
  | [] => none
  | (k, v) :: r => bif Nat.beq k t then some v else look r t
def onV {α : Type} (o : Option α) (k : α → Prop) : Prop :=
  match o with
  | some x => k x
  | none => False
theorem onV_iff {α : Type} {o : Option α} {k : α → Prop} (h : onV o k) : ∃ x, o = some x ∧ k x := by
  cases o with
  | none => exact h.elim
  | some x => exact ⟨x, rfl, h⟩
def C.ofV : Value → Option C
  | .int k n => some (.int k n)
  | .bool true => some .tt
  | .bool false => some .ff
  | .slice none 0 0 => some .nil
  | .agg _ => none
  | .tuple _ => none
  | x => some (.v x)
theorem C.ofV_ok {x : Value} {c : C} (h : C.ofV x = some c) (ρ : Env) (n : Nat) : c.den ρ = x ∧ c.wf n := by
  unfold C.ofV at h
  split at h <;> first | cases h; done | (cases h; exact ⟨rfl, trivial⟩) | skip
  cases h
  refine ⟨rfl, ?_⟩
  simp only [C.wf]
  cases x <;> first | rfl | (exfalso; simp_all)
def seqO {α : Type} : List (Option α) → Option (List α)
  | [] => some []
  | none :: _ => none
  | some x :: r => match seqO r with
    | some l => some (x :: l)
    | none => none
theorem seqO_ok {α β : Type} {f : β → Option α} : ∀ {l : List β} {m : List α}, seqO (l.map f) = some m → l.length = m.length ∧ ∀ i (h : i < l.length) (h' : i < m.length), f l[i] = some m[i]
  | [], m, h => by simp [seqO] at h; subst h; simp
  | x :: l, m, h => by
    simp only [List.map_cons] at h
    cases hx : f x with
    | none => rw [hx] at h; simp [seqO] at h
    | some y =>
      rw [hx] at h
      simp only [seqO] at h
      cases hr : seqO (l.map f) with
      | none => rw [hr] at h; cases h
      | some k =>
        rw [hr] at h
        cases h
        obtain ⟨h1, h2⟩ := seqO_ok hr
        refine ⟨by simp [h1], fun i hi hi' => ?_⟩
        cases i with
        | zero => exact hx
        | succ i => exact h2 i (by simpa using hi) (by simpa using hi')
def V.ofV : Value → Option V
  | .agg cs => (match seqO (cs.toList.map C.ofV) with | some l => some (.agg l) | none => none)
  | .tuple vs => (match vs.toList with | [] => some (.tup []) | _ => none)
  | x => (match C.ofV x with | some c => some (V.c c) | none => none)
theorem V.ofV_ok {x : Value} {c : V} (h : V.ofV x = some c) (ρ : Env) (n : Nat) : c.den ρ = x ∧ c.wf n := by
  unfold V.ofV at h
  split at h
  · rename_i cs
    split at h
    · rename_i l hl
      cases h
      obtain ⟨h1, h2⟩ := seqO_ok hl
      constructor
      · simp only [V.den, A.den, Value.agg.injEq]
        apply Array.ext'
        apply List.ext_getElem
        · simpa using h1.symm
        · intro i hi hi'
          have h3 := h2 i hi' (by simpa using hi)
          simpa using (C.ofV_ok h3 ρ n).1
      · intro c hc
        obtain ⟨i, hi, rfl⟩ := List.mem_iff_getElem.1 hc
        exact (C.ofV_ok (h2 i (by omega) hi) ρ n).2
    · cases h
  · rename_i vs
    split at h
    · rename_i hv
      cases h
      refine ⟨?_, by simp [V.wf]⟩
      simp only [V.den, List.map_nil]
      congr 1
      apply Array.ext'
      simp [hv]
    · cases h
  · split at h
    · rename_i c' hc
      cases h
      exact C.ofV_ok hc ρ n
    · cases h
def ev (s : S) : Operand → Option V
  | .tmp t => look s t
  | .const v => V.ofV v
  | .func f => some (V.c (.fn f []))
  | .global _ => none
def evs (s : S) (l : List Operand) : Option (List V) := seqO (l.map (ev s))
/-- The operands hold what the symbols say. -/
def EvOK (ρ : Env) (a : Act) (s : S) (nx : Nat) (l : List Operand) : Prop := ∀ x ∈ l, ∀ v, ev s x = some v → a.eval x = v.den ρ ∧ v.wf nx

def inK (k : IntKind) (n : Int) : Prop :=
  match k with
  | .i64 => -9223372036854775808 ≤ n ∧ n ≤ 9223372036854775807
  | .u64 => 0 ≤ n ∧ n ≤ 18446744073709551615
  | .i32 => -2147483648 ≤ n ∧ n ≤ 2147483647
  | .u8 => 0 ≤ n ∧ n ≤ 255
  | _ => False
theorem inK_wrap {k : IntKind} {n : Int} (h : inK k n) : k.wrap n = n := by
  cases k <;> simp only [inK] at h
  case i64 => exact IntWalk.i64_in n h
  case u64 => simp [IntKind.wrap, IntKind.bits, IntKind.signed]; omega
  case i32 => exact IntWalk.i32_in n h
  case u8 => exact IntWalk.u8_in n h
def C.toB : C → Option Bool
  | .tt => some true
  | .ff => some false
  | .bool b => some b
  | _ => none
theorem C.toB_den {c : C} {b : Bool} (h : c.toB = some b) (ρ : Env) : c.den ρ = .bool b := by
  cases c <;> simp only [C.toB] at h <;> cases h <;> rfl
/-- The same kind of integers. -/
def sameK (k k' : IntKind) (p : Prop) : Prop :=
  match k, k' with
  | .i64, .i64 => p
  | .u8, .u8 => p
  | .u64, .u64 => p
  | .i32, .i32 => p
  | _, _ => False
theorem sameK_iff {k k' : IntKind} {p : Prop} (h : sameK k k' p) : k = k' ∧ p := by
  unfold sameK at h
  split at h <;> first | exact ⟨rfl, h⟩ | exact h.elim
/-- The bits of two integers, taken together. -/
def bitI (op : BinOp) (k : IntKind) (x y : Int) : Int :=
  match op with
  | .and => k.wrap (BitVec.ofInt k.bits x &&& BitVec.ofInt k.bits y).toNat
  | .or => k.wrap (BitVec.ofInt k.bits x ||| BitVec.ofInt k.bits y).toNat
  | .xor => k.wrap (BitVec.ofInt k.bits x ^^^ BitVec.ofInt k.bits y).toNat
  | .andNot => k.wrap (BitVec.ofInt k.bits x &&& ~~~BitVec.ofInt k.bits y).toNat
  | _ => 0
def shrI (k : IntKind) (x y : Int) : Int := x.fdiv (2 ^ (min y.toNat k.bits))
def binI (op : BinOp) (k k' : IntKind) (x y : Int) (K : C → Prop) : Prop :=
  match op with
  | .add => sameK k k' (inK k (x + y) ∧ K (.int k (x + y)))
  | .sub => sameK k k' (inK k (x - y) ∧ K (.int k (x - y)))
  | .mul => sameK k k' (inK k (x * y) ∧ K (.int k (x * y)))
  | .quo => sameK k k' ((0 ≤ x ∧ 0 < y ∧ inK k (x / y)) ∧ K (.int k (x / y)))
  | .rem => sameK k k' ((0 ≤ x ∧ 0 < y) ∧ K (.int k (x % y)))
  | .shl => (match k with
    | .i64 => (0 ≤ y ∧ y < 64 ∧ inK .i64 (x * 2 ^ y.toNat)) ∧ K (.int .i64 (x * 2 ^ y.toNat))
    | .u64 => (0 ≤ y ∧ y < 64 ∧ inK .u64 (x * 2 ^ y.toNat)) ∧ K (.int .u64 (x * 2 ^ y.toNat))
    | _ => False)
  | .shr => 0 ≤ y ∧ K (.int k (shrI k x y))
  | .and => sameK k k' (K (.int k (bitI .and k x y)))
  | .or => sameK k k' (K (.int k (bitI .or k x y)))
  | .xor => sameK k k' (K (.int k (bitI .xor k x y)))
  | .andNot => sameK k k' (K (.int k (bitI .andNot k x y)))
  | .eql => sameK k k' (K (.bool (decide (x = y))))
  | .neq => sameK k k' (K (.bool (decide (x ≠ y))))
  | .lss => sameK k k' (K (.bool (decide (x < y))))
  | .leq => sameK k k' (K (.bool (decide (x ≤ y))))
  | .gtr => sameK k k' (K (.bool (decide (x > y))))
  | .geq => sameK k k' (K (.bool (decide (x ≥ y))))
def rdBin (T : List (Nat × TD)) (t : Nat) (op : BinOp) (x y : Option V) (K : C → Prop) : Prop :=
  match x, y with
  | some (.a (.c (.int k x))), some (.a (.c (.int k' y))) => binI op k k' x y K
  | some (.a (.c x)), some (.a (.c y)) => onV x.toB fun p => onV y.toB fun q => onV (lookT T t) fun d => match d.kd, op with
    | .bool, .eql => K (.bool (p == q))
    | .bool, .neq => K (.bool (p != q))
    | _, _ => False
  | _, _ => False
section
variable {P : Program} {w : World}
theorem binI_ok {op : BinOp} {k k' : IntKind} {x y : Int} {K : C → Prop} (t : TypeId) (h : binI op k k' x y K) (ρ : Env) : ∃ c, K c ∧ (∀ n, c.wf n) ∧ (binOp op t (.int k x) (.int k' y)).run P w = .ok (c.den ρ) w := by
  cases op <;> simp only [binI] at h
  case add => obtain ⟨rfl, h1, h2⟩ := sameK_iff h; exact ⟨_, h2, fun _ => trivial, by simp [binOp, Op.intArith, C.den, inK_wrap h1]⟩
  case sub => obtain ⟨rfl, h1, h2⟩ := sameK_iff h; exact ⟨_, h2, fun _ => trivial, by simp [binOp, Op.intArith, C.den, inK_wrap h1]⟩
  case mul => obtain ⟨rfl, h1, h2⟩ := sameK_iff h; exact ⟨_, h2, fun _ => trivial, by simp [binOp, Op.intArith, C.den, inK_wrap h1]⟩
  case quo =>
    obtain ⟨rfl, ⟨h1, h3, h4⟩, h2⟩ := sameK_iff h
    refine ⟨_, h2, fun _ => trivial, ?_⟩
    have : y ≠ 0 := by omega
    simp [binOp, Op.intDiv, C.den, this, Int.tdiv_eq_ediv_of_nonneg h1, inK_wrap h4]
  case rem =>
    obtain ⟨rfl, ⟨h1, h3⟩, h2⟩ := sameK_iff h
    refine ⟨_, h2, fun _ => trivial, ?_⟩
    have : y ≠ 0 := by omega
    simp [binOp, Op.intDiv, C.den, this, Int.tmod_eq_emod_of_nonneg h1]
  case shl =>
    split at h
    · obtain ⟨⟨h1, h3, h4⟩, h2⟩ := h
      refine ⟨_, h2, fun _ => trivial, ?_⟩
      have hy : ¬ y < 0 := by omega
      have hk : min y.toNat IntKind.i64.bits = y.toNat := by simp [IntKind.bits]; omega
      simp [binOp, Op.shift, C.den, hy, hk, inK_wrap h4]
    · obtain ⟨⟨h1, h3, h4⟩, h2⟩ := h
      refine ⟨_, h2, fun _ => trivial, ?_⟩
      have hy : ¬ y < 0 := by omega
      have hk : min y.toNat IntKind.u64.bits = y.toNat := by simp [IntKind.bits]; omega
      simp [binOp, Op.shift, C.den, hy, hk, inK_wrap h4]
    · exact h.elim
  case shr =>
    obtain ⟨h1, h2⟩ := h
    refine ⟨_, h2, fun _ => trivial, ?_⟩
    have hy : ¬ y < 0 := by omega
    simp [binOp, Op.shift, C.den, hy, shrI]
  case and => obtain ⟨rfl, h2⟩ := sameK_iff h; exact ⟨_, h2, fun _ => trivial, by simp [binOp, Op.intBits, C.den, bitI]⟩
  case or => obtain ⟨rfl, h2⟩ := sameK_iff h; exact ⟨_, h2, fun _ => trivial, by simp [binOp, Op.intBits, C.den, bitI]⟩
  case xor => obtain ⟨rfl, h2⟩ := sameK_iff h; exact ⟨_, h2, fun _ => trivial, by simp [binOp, Op.intBits, C.den, bitI]⟩
  case andNot => obtain ⟨rfl, h2⟩ := sameK_iff h; exact ⟨_, h2, fun _ => trivial, by simp [binOp, Op.intBits, C.den, bitI]⟩
  case eql => obtain ⟨rfl, h2⟩ := sameK_iff h; exact ⟨_, h2, fun _ => trivial, by simp [binOp, Op.intCmp, C.den]; rw [Bool.eq_iff_iff]; simp⟩
  case neq => obtain ⟨rfl, h2⟩ := sameK_iff h; exact ⟨_, h2, fun _ => trivial, by simp [binOp, Op.intCmp, C.den]; rw [Bool.eq_iff_iff]; simp⟩
  case lss => obtain ⟨rfl, h2⟩ := sameK_iff h; exact ⟨_, h2, fun _ => trivial, by simp [binOp, Op.intCmp, C.den]⟩
  case leq => obtain ⟨rfl, h2⟩ := sameK_iff h; exact ⟨_, h2, fun _ => trivial, by simp [binOp, Op.intCmp, C.den]⟩
  case gtr => obtain ⟨rfl, h2⟩ := sameK_iff h; exact ⟨_, h2, fun _ => trivial, by simp [binOp, Op.intCmp, C.den]⟩
  case geq => obtain ⟨rfl, h2⟩ := sameK_iff h; exact ⟨_, h2, fun _ => trivial, by simp [binOp, Op.intCmp, C.den]⟩
end

/- What an operation that turns no memory asks and yields (2). -/

def takeC (cs : List C) (o : Nat) : Nat → Option (List C)
  | 0 => some []
  | n + 1 => match cs[o]? with
    | some c => (match takeC cs (o + 1) n with | some l => some (c :: l) | none => none)
    | none => none
theorem takeC_ok {cs : List C} : ∀ {n o : Nat} {l : List C}, takeC cs o n = some l → l.length = n ∧ ∀ i, i < n → cs[o + i]? = l[i]?
  | 0, o, l, h => by cases h; simp
  | n + 1, o, l, h => by
    simp only [takeC] at h
    cases hc : cs[o]? with
    | none => rw [hc] at h; cases h
    | some c =>
      rw [hc] at h
      simp only at h
      cases ht : takeC cs (o + 1) n with
      | none => rw [ht] at h; cases h
      | some r =>
        rw [ht] at h
        cases h
        obtain ⟨h1, h2⟩ := takeC_ok ht
        refine ⟨by simp [h1], fun i hi => ?_⟩
        cases i with
        | zero => simpa using hc
        | succ i => have := h2 i (by omega); rw [show o + (i + 1) = o + 1 + i by omega, this]; simp
theorem takeC_mem {cs l : List C} {o n : Nat} (h : takeC cs o n = some l) : ∀ c ∈ l, c ∈ cs := by
  obtain ⟨h1, h2⟩ := takeC_ok h
  intro c hc
  obtain ⟨i, hi, rfl⟩ := List.mem_iff_getElem.1 hc
  have := h2 i (by omega)
  rw [List.getElem?_eq_getElem hi] at this
  exact List.mem_of_getElem? this
def mulS (n z : Nat) : Nat :=
  match z with
  | 1 => n
  | _ => n * z
theorem mulS_eq (n z : Nat) : mulS n z = n * z := by unfold mulS; split <;> simp
def addO (o j : Nat) : Nat :=
  match o with
  | 0 => j
  | k + 1 => match j with
    | 0 => k + 1
    | m + 1 => (k + 1) + (m + 1)
theorem addO_eq (o j : Nat) : addO o j = o + j := by unfold addO; split <;> (try split) <;> simp
theorem add_addr (a : Addr) (i j : Nat) : (a.add i).add j = a.add (i + j) := by
  unfold Addr.add
  by_cases hi : i = 0 <;> by_cases hj : j = 0 <;> simp [hi, hj, Nat.add_assoc]
theorem none_add (b o i : Nat) : (⟨b, o, none⟩ : Addr).add i = ⟨b, o + i, none⟩ := by unfold Addr.add; split <;> simp_all

def rdLoad (L : List E) (d : TD) (x : Option V) (K : V → Prop) : Prop :=
  match x with
  | some (.a (.c (.ptr l o))) => onV (find L l) fun e =>
    match d.kd.agg with
    | false => ∃ c, e.cs[o]? = some c ∧ K (V.c c)
    | true => ∃ cs, takeC e.cs o d.size = some cs ∧ (bif Nat.blt 0 d.size then K (V.agg cs) else False)
  | _ => False
def rdIdxA (T : List (Nat × TD)) (L : List E) (t : Nat) (x i : Option V) (K : V → Prop) : Prop :=
  onV (lookT T t) fun d =>
  match i with
  | some (.a (.c (.int _ n))) =>
    (match x, d.kd with
    | some (.a (.c (.sl l len))), .sl e => onV (lookT T e) fun de => onV (find L l) fun en => (0 ≤ n ∧ n < len ∧ 0 < en.cs.length) ∧ K (V.c (.ptr l (mulS n.toNat de.size)))
    | some (.a (.c (.sub l o len k))), .sl e => onV (lookT T e) fun de => onV (find L l) fun en => (0 ≤ n ∧ n < len ∧ 0 < en.cs.length) ∧ K (V.c (.ptr l (addO o (mulS n.toNat de.size))))
    | some (.a (.c (.ptr l o))), .arr m e => onV (lookT T e) fun de => onV (find L l) fun en => (0 ≤ n ∧ n < m ∧ 0 < en.cs.length) ∧ K (V.c (.ptr l (addO o (mulS n.toNat de.size))))
    | _, _ => False)
  | _ => False
def rdFldA (T : List (Nat × TD)) (L : List E) (t : Nat) (x : Option V) (f : Nat) (K : V → Prop) : Prop :=
  onV (lookT T t) fun d =>
  match x, d.kd with
  | some (.a (.c (.ptr l o))), .str fs => onV (find L l) fun en => onV (fs[f]?) fun p => onV (lookT T p.2) fun fd =>
    (match fd.size with
    | 0 => False
    | _ + 1 => 0 < en.cs.length ∧ K (V.c (.ptr l (addO o p.1))))
  | _, _ => False
def rdPart (T : List (Nat × TD)) (ft : Nat) (l : List C) (off : Nat) (K : V → Prop) : Prop :=
  onV (lookT T ft) fun fd =>
  match fd.kd.agg with
  | false => ∃ c, l[off]? = some c ∧ K (V.c c)
  | true => ∃ cs, takeC l off fd.size = some cs ∧ K (V.agg cs)
def rdFld (T : List (Nat × TD)) (t : Nat) (x : Option V) (f : Nat) (K : V → Prop) : Prop :=
  onV (lookT T t) fun d =>
  match x, d.kd with
  | some (.a (.agg l)), .str fs => onV (fs[f]?) fun p => rdPart T p.2 l p.1 K
  | _, _ => False
def rdIdx (T : List (Nat × TD)) (t : Nat) (x i : Option V) (K : V → Prop) : Prop :=
  onV (lookT T t) fun d =>
  match i with
  | some (.a (.c (.int _ n))) =>
    (match x, d.kd with
    | some (.a (.agg l)), .arr m e => onV (lookT T e) fun de => (0 ≤ n ∧ n < m) ∧ rdPart T e l (mulS n.toNat de.size) K
    | _, _ => False)
  | _ => False
def rdUn (op : UnOp) (x : Option V) (K : V → Prop) : Prop :=
  match op, x with
  | .not, some (.a (.c .tt)) => K (V.c .ff)
  | .not, some (.a (.c .ff)) => K (V.c .tt)
  | .not, some (.a (.c (.bool b))) => K (V.c (.bool (!b)))
  | .neg, some (.a (.c (.int k n))) => inK k (-n) ∧ K (V.c (.int k (-n)))
  | _, _ => False
def rdConv (T : List (Nat × TD)) (src dst : Nat) (x : Option V) (K : V → Prop) : Prop :=
  onV (lookT T src) fun _ => onV (lookT T dst) fun d =>
  match d.kd, x with
  | .int k, some (.a (.c (.int k' n))) => inK k n ∧ K (V.c (.int k n))
  | _, _ => False
def capsOf : List V → Option (List (Nat × Nat))
  | [] => some []
  | .a (.c (.ptr l o)) :: r => (match capsOf r with | some m => some ((l, o) :: m) | none => none)
  | _ :: _ => none
theorem capsOf_ok (ρ : Env) {nx : Nat} : ∀ {l : List V} {m : List (Nat × Nat)}, capsOf l = some m → (∀ v ∈ l, v.wf nx) → l.map (V.den ρ) = m.map (ptrD ρ) ∧ ∀ p ∈ m, p.1 < nx
  | [], m, h, _ => by cases h; simp
  | .a (.c (.ptr l o)) :: r, m, h, hw => by
    simp only [capsOf] at h
    cases hr : capsOf r with
    | none => rw [hr] at h; cases h
    | some m' =>
      rw [hr] at h
      cases h
      obtain ⟨h1, h2⟩ := capsOf_ok ρ (nx := nx) hr (fun v hv => hw v (by simp [hv]))
      have h0 := hw (.a (.c (.ptr l o))) (by simp)
      refine ⟨by simp [h1, V.den, A.den, C.den, ptrD], ?_⟩
      intro p hp
      rcases List.mem_cons.1 hp with rfl | hp
      · exact h0
      · exact h2 p hp
  | .tup _ :: r, m, h, hw => by simp [capsOf] at h
  | .a (.agg _) :: r, m, h, hw => by simp [capsOf] at h
  | .a (.c .tt) :: r, m, h, hw => by simp [capsOf] at h
  | .a (.c .ff) :: r, m, h, hw => by simp [capsOf] at h
  | .a (.c .nil) :: r, m, h, hw => by simp [capsOf] at h
  | .a (.c (.int _ _)) :: r, m, h, hw => by simp [capsOf] at h
  | .a (.c (.bool _)) :: r, m, h, hw => by simp [capsOf] at h
  | .a (.c (.sl _ _)) :: r, m, h, hw => by simp [capsOf] at h
  | .a (.c (.fn _ _)) :: r, m, h, hw => by simp [capsOf] at h
  | .a (.c (.v _)) :: r, m, h, hw => by simp [capsOf] at h
  | .a (.c (.mp _)) :: r, m, h, hw => by simp [capsOf] at h
def ptrV (p : Nat × Nat) : V := V.c (.ptr p.1 p.2)

section
variable {P : Program} {T : List (Nat × TD)} {w : World} {n0 : Nat} {ρ : Env} {L : List E} {nx : Nat}
theorem run_und {t : TypeId} {d : TypeDesc} (h : P.underlying t = some d) : (underlying t).run P w = .ok d w := by simp [underlying, h]
theorem run_size {t : TypeId} {d : TD} (h : TDOK P t d) : (sizeOf t).run P w = .ok d.size w := by
  obtain ⟨i, z, h1, h2, _⟩ := h
  simp [sizeOf, typeInfo, h1, h2]
theorem run_agg {t : TypeId} {d : TD} (h : TDOK P t d) : (isAgg t).run P w = .ok d.kd.agg w := by
  obtain ⟨u, h1, h2⟩ := h.isAgg
  unfold isAgg
  rw [Sem.run_bind, run_und h1, ← h2]
  cases u <;> rfl
theorem run_zero {t : TypeId} {d : TD} (h : TDOK P t d) : ∃ z, (zeroValue t).run P w = .ok z w ∧ (∀ ρ, z.cells = (d.zero.map (C.den ρ)).toArray) := by
  obtain ⟨i, z, h1, _, _, h2, h3, _⟩ := h
  exact ⟨z, by simp [zeroValue, typeInfo, h1, h2], h3⟩
theorem Hp.entry (hp : Hp n0 ρ w L nx) {l : Nat} {e : E} (h : find L l = some e) : EOK n0 ρ w e ∧ e.lab = l ∧ e ∈ L := ⟨hp.ok e (find_mem h).1, (find_mem h).2, (find_mem h).1⟩
theorem rdLoad_ok (hp : Hp n0 ρ w L nx) {t : TypeId} {d : TD} (hd : TDOK P t d) {x : Option V} {K : V → Prop} (h : rdLoad L d x K) : ∃ v u, x = some u ∧ K v ∧ v.wf nx ∧ (Instr.loadAt t (u.den ρ)).run P w = .ok (v.den ρ) w := by
  unfold rdLoad at h
  split at h
  · rename_i l o
    obtain ⟨e, he, h⟩ := onV_iff h
    obtain ⟨hok, hl, hm⟩ := hp.entry he
    split at h
    · rename_i hagg
      obtain ⟨c, hc, hK⟩ := h
      obtain ⟨b, off, e1, e2, e3⟩ := hok.read hc
      refine ⟨_, _, rfl, hK, (hp.wf e hm).2 c (List.mem_of_getElem? hc), ?_⟩
      simp only [V.den, A.den, C.den, ptrD, ← hl, e1, Option.map_some, Instr.loadAt, Instr.sureAddr, none_add, loadVar, Sem.run_bind, Sem.run_pure, Result.andThen, run_agg hd, hagg]
      simp [e3]; rfl
    · rename_i hagg
      obtain ⟨cs, hc, hq⟩ := h
      have hb : 0 < d.size ∧ K (V.agg cs) := by
        cases hb : Nat.blt 0 d.size with
        | false => rw [hb] at hq; exact hq.elim
        | true => rw [hb] at hq; exact ⟨Nat.le_of_ble_eq_true hb, hq⟩
      obtain ⟨h0, hK⟩ := hb
      obtain ⟨hlen, hcs⟩ := takeC_ok hc
      refine ⟨_, _, rfl, hK, fun c hc' => (hp.wf e hm).2 c (takeC_mem hc c hc'), ?_⟩
      obtain ⟨b, off, e1, _, _⟩ := hok.read (show e.cs[o]? = some cs[0] by rw [← List.getElem?_eq_getElem, ← hcs 0 h0]; rfl)
      have hcells : ∀ j v, (cs.map (C.den ρ))[j]? = some v → w.cell? ((⟨b, off + o, none⟩ : Addr).add j) = some v := by
        intro j v hv
        rw [List.getElem?_map] at hv
        obtain ⟨c, hc1, rfl⟩ := Option.map_eq_some_iff.1 hv
        have hj : j < d.size := by rw [← hlen]; exact (List.getElem?_eq_some_iff.1 hc1).1
        obtain ⟨b', off', f1, _, f3⟩ := hok.read ((hcs j hj).trans hc1)
        rw [e1] at f1
        cases f1
        rw [none_add, Nat.add_assoc]; exact f3
      have hl2 := run_loadCells_list (P := P) w ⟨b, off + o, none⟩ (cs.map (C.den ρ)) hcells
      rw [List.length_map, hlen] at hl2
      simp only [V.den, A.den, C.den, ptrD, ← hl, e1, Option.map_some, Instr.loadAt, Instr.sureAddr, none_add, loadVar, Sem.run_bind, Sem.run_pure, Result.andThen, run_agg hd, hagg, run_size hd, hl2, if_true]
  · exact h.elim
theorem EOK.addr {e : E} (h : EOK n0 ρ w e) (hc : 0 < e.cs.length) : ∃ b off, (ρ e.lab).1 = some ⟨b, off, none⟩ := by
  obtain ⟨b, off, h1, _⟩ := h.read (List.getElem?_eq_getElem hc)
  exact ⟨b, off, h1⟩
theorem rdIdxA_okA (hT : TOK P T) (hadr : ∀ e ∈ L, 0 < e.cs.length → ∃ b off, (ρ e.lab).1 = some ⟨b, off, none⟩) {t : TypeId} {x i : Option V} {K : V → Prop} (h : rdIdxA T L t x i K) : ∃ v u j, x = some u ∧ i = some j ∧ K v ∧ (u.wf nx → v.wf nx) ∧ (Instr.indexAt t (u.den ρ) (j.den ρ)).run P w = .ok (v.den ρ) w := by
  obtain ⟨d, hd, hh⟩ := onV_iff h
  clear h
  have hd' := lookT_ok hT hd
  split at hh
  · rename_i kd n
    split at hh
    · rename_i l len e hk
      obtain ⟨de, hde, h⟩ := onV_iff hh
      obtain ⟨en, hen, ⟨h0, h1, h2⟩, hK⟩ := onV_iff h
      obtain ⟨hm, hl⟩ := find_mem hen
      obtain ⟨b, off, ha⟩ := hadr en hm h2
      rw [hl] at ha
      obtain ⟨i, z, _, _, _, _, _, _, _, hkd⟩ := hd'
      rw [hk] at hkd
      refine ⟨_, _, _, rfl, rfl, hK, fun hw => hw, ?_⟩
      have h3 : 0 ≤ n ∧ n < (len : Int) := ⟨h0, h1⟩
      simp only [V.den, A.den, C.den, ptrD, ha, Option.map_some, Instr.indexAt, asIntOf, Sem.run_bind, Sem.run_pure, Result.andThen, run_und hkd, h3, if_true, run_size (lookT_ok hT hde), mulS_eq, and_self, Sem.run_ite, true_and]
    · rename_i l o len k e hk
      obtain ⟨de, hde, h⟩ := onV_iff hh
      obtain ⟨en, hen, ⟨h0, h1, h2⟩, hK⟩ := onV_iff h
      obtain ⟨hm, hl⟩ := find_mem hen
      obtain ⟨b, off, ha⟩ := hadr en hm h2
      rw [hl] at ha
      obtain ⟨i, z, _, _, _, _, _, _, _, hkd⟩ := hd'
      rw [hk] at hkd
      refine ⟨_, _, _, rfl, rfl, hK, fun hw => hw, ?_⟩
      have h3 : 0 ≤ n ∧ n < (len : Int) := ⟨h0, h1⟩
      simp only [V.den, A.den, C.den, ptrD, ha, Option.map_some, Instr.indexAt, asIntOf, Sem.run_bind, Sem.run_pure, Result.andThen, run_und hkd, h3, if_true, run_size (lookT_ok hT hde), mulS_eq, addO_eq, and_self, Sem.run_ite, true_and, add_addr]
    · rename_i l o m e hk
      obtain ⟨de, hde, h⟩ := onV_iff hh
      obtain ⟨en, hen, ⟨h0, h1, h2⟩, hK⟩ := onV_iff h
      obtain ⟨hm, hl⟩ := find_mem hen
      obtain ⟨b, off, ha⟩ := hadr en hm h2
      rw [hl] at ha
      obtain ⟨i, z, _, _, _, _, _, _, _, hkd⟩ := hd'
      rw [hk] at hkd
      refine ⟨_, _, _, rfl, rfl, hK, fun hw => hw, ?_⟩
      have h3 : 0 ≤ n ∧ n < (m : Int) := ⟨h0, h1⟩
      simp only [V.den, A.den, C.den, ptrD, ha, Option.map_some, Instr.indexAt, Instr.sureAddr, asIntOf, Sem.run_bind, Sem.run_pure, Result.andThen, run_und hkd, h3, if_true, run_size (lookT_ok hT hde), mulS_eq, addO_eq, and_self, Sem.run_ite, true_and, add_addr]
    · exact hh.elim
  · exact hh.elim
theorem rdIdxA_ok (hT : TOK P T) (hp : Hp n0 ρ w L nx) {t : TypeId} {x i : Option V} {K : V → Prop} (h : rdIdxA T L t x i K) : ∃ v u j, x = some u ∧ i = some j ∧ K v ∧ (u.wf nx → v.wf nx) ∧ (Instr.indexAt t (u.den ρ) (j.den ρ)).run P w = .ok (v.den ρ) w :=
  rdIdxA_okA hT (fun e he hc => (hp.ok e he).addr hc) h
theorem rdFldA_ok (hT : TOK P T) (hp : Hp n0 ρ w L nx) {t : TypeId} {x : Option V} {f : Nat} {K : V → Prop} (h : rdFldA T L t x f K) : ∃ v u, x = some u ∧ K v ∧ (u.wf nx → v.wf nx) ∧ (Instr.fieldAt t (u.den ρ) f).run P w = .ok (v.den ρ) w := by
  obtain ⟨d, hd, hh⟩ := onV_iff h
  clear h
  have hd' := lookT_ok hT hd
  split at hh
  · rename_i l o fs hk
    obtain ⟨en, hen, h1⟩ := onV_iff hh
    obtain ⟨p, hpf, h2⟩ := onV_iff h1
    obtain ⟨fd, hfd, h3⟩ := onV_iff h2
    clear hh h1 h2
    split at h3
    · exact h3.elim
    · rename_i m hm
      obtain ⟨hc, hK⟩ := h3
      obtain ⟨hok, hl, hmem⟩ := hp.entry hen
      obtain ⟨b, off, ha⟩ := hok.addr hc
      rw [hl] at ha
      obtain ⟨i, z, _, _, _, _, _, _, _, hkd⟩ := hd'
      rw [hk] at hkd
      obtain ⟨F, hF, hFs, _⟩ := hkd
      refine ⟨_, _, rfl, hK, fun hw => hw, ?_⟩
      have hff : ∃ g, F[f]? = some g ∧ g.offset = p.1 ∧ g.type = p.2 := by
        rw [← hFs] at hpf
        simp only [List.getElem?_map, Array.getElem?_toList] at hpf
        obtain ⟨g, hg, hgp⟩ := Option.map_eq_some_iff.1 hpf
        exact ⟨g, hg, by rw [← hgp], by rw [← hgp]⟩
      obtain ⟨g, hg, hg1, hg2⟩ := hff
      have hsz : (sizeOf g.type).run P w = .ok (m + 1) w := by rw [hg2, run_size (lookT_ok hT hfd), hm]
      have h0 : m + 1 ≠ 0 := by omega
      simp only [V.den, A.den, C.den, ptrD, ha, Option.map_some, Instr.fieldAt, Instr.sureAddr, fieldPlace, Sem.run_bind, Sem.run_pure, Result.andThen, run_und hF, hg, hsz, h0, if_false, hg1, addO_eq, add_addr]
  · exact hh.elim
theorem rdPart_ok (hT : TOK P T) {ft : Nat} {l : List C} {off : Nat} {K : V → Prop} (hw : ∀ c ∈ l, c.wf nx) (h : rdPart T ft l off K) : ∃ v, K v ∧ v.wf nx ∧ (part ft (l.map (C.den ρ)).toArray off).run P w = .ok (v.den ρ) w := by
  obtain ⟨d, hd, hh⟩ := onV_iff h
  clear h
  have hd' := lookT_ok hT hd
  split at hh
  · rename_i hagg
    obtain ⟨c, hc, hK⟩ := hh
    refine ⟨_, hK, hw c (List.mem_of_getElem? hc), ?_⟩
    simp [part, run_agg hd', hagg, hc]
    rfl
  · rename_i hagg
    obtain ⟨cs, hc, hK⟩ := hh
    obtain ⟨h1, h2⟩ := takeC_ok hc
    refine ⟨_, hK, fun c hcm => hw c (takeC_mem hc c hcm), ?_⟩
    simp only [part, Sem.run_bind, Result.andThen, run_agg hd', hagg, if_true, run_size hd', Sem.run_pure, V.den, A.den]
    congr 2
    apply Array.ext'
    apply List.ext_getElem?
    intro i
    by_cases hi : i < d.size
    · have := h2 i hi
      simp [hi, List.getElem?_take, List.getElem?_drop, this]
    · have : cs.length ≤ i := by omega
      simp [hi, List.getElem?_take, this]
theorem rdFld_ok (hT : TOK P T) {t : TypeId} {x : Option V} {f : Nat} {K : V → Prop} (hw : ∀ u, x = some u → u.wf nx) (h : rdFld T t x f K) : ∃ v u, x = some u ∧ K v ∧ v.wf nx ∧ (Instr.field t (u.den ρ) f).run P w = .ok (v.den ρ) w := by
  obtain ⟨d, hd, hh⟩ := onV_iff h
  clear h
  have hd' := lookT_ok hT hd
  split at hh
  · rename_i l fs hk
    obtain ⟨p, hpf, h1⟩ := onV_iff hh
    obtain ⟨v, hK, hv, hr⟩ := rdPart_ok (ρ := ρ) (w := w) hT (hw _ rfl) h1
    obtain ⟨i, z, _, _, _, _, _, _, _, hkd⟩ := hd'
    rw [hk] at hkd
    obtain ⟨F, hF, hFs, _⟩ := hkd
    have hff : ∃ g, F[f]? = some g ∧ g.offset = p.1 ∧ g.type = p.2 := by
      rw [← hFs] at hpf
      simp only [List.getElem?_map, Array.getElem?_toList] at hpf
      obtain ⟨g, hg, hgp⟩ := Option.map_eq_some_iff.1 hpf
      exact ⟨g, hg, by rw [← hgp], by rw [← hgp]⟩
    obtain ⟨g, hg, hg1, hg2⟩ := hff
    refine ⟨v, _, rfl, hK, hv, ?_⟩
    simp only [V.den, A.den, Instr.field, Sem.run_bind, Result.andThen, run_und hF, hg, asAgg, Sem.run_pure, hg1, hg2]
    exact hr
  · exact hh.elim
theorem rdIdx_ok (hT : TOK P T) {t : TypeId} {x i : Option V} {K : V → Prop} (hw : ∀ u, x = some u → u.wf nx) (h : rdIdx T t x i K) : ∃ v u j, x = some u ∧ i = some j ∧ K v ∧ v.wf nx ∧ (Instr.index t (u.den ρ) (j.den ρ)).run P w = .ok (v.den ρ) w := by
  obtain ⟨d, hd, hh⟩ := onV_iff h
  clear h
  have hd' := lookT_ok hT hd
  split at hh
  · rename_i kd n
    split at hh
    · rename_i l m e hk
      obtain ⟨de, hde, ⟨h0, h1⟩, h2⟩ := onV_iff hh
      obtain ⟨v, hK, hv, hr⟩ := rdPart_ok (ρ := ρ) (w := w) hT (hw _ rfl) h2
      obtain ⟨i, z, _, _, _, _, _, _, _, hkd⟩ := hd'
      rw [hk] at hkd
      have h3 : 0 ≤ n ∧ n < (m : Int) := ⟨h0, h1⟩
      rw [mulS_eq] at hr
      refine ⟨v, _, _, rfl, rfl, hK, hv, ?_⟩
      simp only [V.den, A.den, C.den, Instr.index, asIntOf, Sem.run_bind, Sem.run_pure, Result.andThen, run_und hkd, h3, and_self, if_true, run_size (lookT_ok hT hde), Sem.run_ite]
      exact hr
    · exact hh.elim
  · exact hh.elim
theorem rdUn_ok {op : UnOp} {x : Option V} {K : V → Prop} (h : rdUn op x K) : ∃ v u, x = some u ∧ K v ∧ v.wf nx ∧ (Op.unary op (u.den ρ)).run P w = .ok (v.den ρ) w := by
  unfold rdUn at h
  split at h
  · exact ⟨_, _, rfl, h, trivial, by simp [Op.unary, V.den, A.den, C.den]⟩
  · exact ⟨_, _, rfl, h, trivial, by simp [Op.unary, V.den, A.den, C.den]⟩
  · exact ⟨_, _, rfl, h, trivial, by simp [Op.unary, V.den, A.den, C.den]⟩
  · exact ⟨_, _, rfl, h.2, trivial, by simp [Op.unary, Op.intArith, V.den, A.den, C.den, inK_wrap h.1]⟩
  · exact h.elim
theorem rdConv_ok (hT : TOK P T) {src dst : TypeId} {x : Option V} {K : V → Prop} (h : rdConv T src dst x K) : ∃ v u, x = some u ∧ K v ∧ v.wf nx ∧ (convert src dst (u.den ρ)).run P w = .ok (v.den ρ) w := by
  obtain ⟨ds, hds, h1⟩ := onV_iff h
  obtain ⟨d, hd, hh⟩ := onV_iff h1
  clear h h1
  obtain ⟨us, hus, _⟩ := (lookT_ok hT hds).isAgg
  obtain ⟨i, z, _, _, _, _, _, _, _, hkd⟩ := lookT_ok hT hd
  split at hh
  · rename_i k k' n hk
    rw [hk] at hkd
    obtain ⟨h1, hK⟩ := hh
    refine ⟨_, _, rfl, hK, trivial, ?_⟩
    simp [convert, run_und hus, run_und hkd, V.den, A.den, C.den, Conv.intToInt, inK_wrap h1]
  · exact hh.elim
theorem equalIn_bool {t : TypeId} (h : P.underlying t = some .bool) (d : Nat) (p q : Bool) : (Op.equalIn (d + 1) t (.bool p) (.bool q)).run P w = .ok (p == q) w := by
  unfold Op.equalIn
  simp [run_und h]
theorem equal_bool {t : TypeId} (h : P.underlying t = some .bool) (p q : Bool) : (Op.equal t (.bool p) (.bool q)).run P w = .ok (p == q) w := by
  unfold Op.equal
  have e : Op.maxDepth = 9999 + 1 := rfl
  rw [e]
  exact equalIn_bool h 9999 p q
theorem rdBin_ok (hT : TOK P T) {op : BinOp} {t : TypeId} {x y : Option V} {K : C → Prop} (h : rdBin T t op x y K) : ∃ c u v, x = some u ∧ y = some v ∧ K c ∧ (∀ n, c.wf n) ∧ (binOp op t (u.den ρ) (v.den ρ)).run P w = .ok (c.den ρ) w ∧ (∀ s s', (eqGuard op t s s' (u.den ρ) (v.den ρ)).run P w = .ok () w) := by
  unfold rdBin at h
  split at h
  · obtain ⟨c, h1, h2, h3⟩ := binI_ok (P := P) (w := w) t h ρ
    refine ⟨c, _, _, rfl, rfl, h1, h2, h3, fun s s' => ?_⟩
    simp only [V.den, A.den, C.den, eqGuard]
    split <;> rfl
  · rename_i a b _
    obtain ⟨p, hp, h1⟩ := onV_iff h
    obtain ⟨q, hq, h2⟩ := onV_iff h1
    obtain ⟨d, hd, h3⟩ := onV_iff h2
    clear h h1 h2
    have e1 := C.toB_den hp ρ
    have e2 := C.toB_den hq ρ
    obtain ⟨i, z, _, _, _, _, _, _, _, hkd⟩ := lookT_ok hT hd
    split at h3
    · rename_i hk
      rw [hk] at hkd
      refine ⟨_, _, _, rfl, rfl, h3, fun _ => trivial, ?_, fun s s' => ?_⟩
      · simp only [V.den, A.den, e1, e2, binOp, Sem.run_bind, equal_bool hkd, Result.andThen, Sem.run_pure]; rfl
      · simp only [V.den, A.den, e1, e2, eqGuard]
        rfl
    · rename_i hk
      rw [hk] at hkd
      refine ⟨_, _, _, rfl, rfl, h3, fun _ => trivial, ?_, fun s s' => ?_⟩
      · simp only [V.den, A.den, e1, e2, binOp, Sem.run_bind, equal_bool hkd, Result.andThen, Sem.run_pure]; rfl
      · simp only [V.den, A.den, e1, e2, eqGuard]
        rfl
    · exact h3.elim
  · exact h.elim
/-- Whether two lists of ints are the same. -/
def eqI : List C → List C → Option Bool
  | [], [] => some true
  | .int .i64 a :: r, .int .i64 b :: s => (match eqI r s with
    | some p => some (decide (a = b) && p)
    | none => none)
  | _, _ => none
/-- Fields that are ints, one after the other. -/
def strI (T : List (Nat × TD)) (n : Nat) : List (Nat × Nat) → Nat → Bool
  | [], o => Nat.beq n o
  | p :: r, o => Nat.beq p.1 o && (match lookT T p.2 with
    | some d => (match d.kd with
      | .int .i64 => Nat.beq d.size 1
      | _ => false)
    | none => false) && strI T n r (o + 1)
/-- A comparison that asks what lies in memory, or is of arrays or structs of ints. -/
def rdBinL (T : List (Nat × TD)) (L : List E) (t : Nat) (op : BinOp) (x y : Option V) (K : C → Prop) : Prop :=
  match x, y with
  | some (.a (.c (.sl l n))), some (.a (.c .nil)) => onV (lookT T t) fun d => onV (find L l) fun en => (match d.kd, op with
    | .sl _, .eql => 0 < en.cs.length ∧ K .ff
    | .sl _, .neq => 0 < en.cs.length ∧ K .tt
    | _, _ => False)
  | some (.a (.agg xs)), some (.a (.agg ys)) => onV (lookT T t) fun d => (match d.kd with
    | .arr m e => onV (lookT T e) fun de => (match de.kd with
      | .int .i64 => onV (eqI xs ys) fun b => (match Nat.beq xs.length m && Nat.beq de.size 1, op with
        | true, .eql => K (.bool b)
        | true, .neq => K (.bool (!b))
        | _, _ => False)
      | _ => False)
    | .str fs => onV (eqI xs ys) fun b => (match strI T xs.length fs 0, op with
        | true, .eql => K (.bool b)
        | true, .neq => K (.bool (!b))
        | _, _ => False)
    | _ => False)
  | x, y => rdBin T t op x y K
theorem eqI_run {e : TypeId} {de : TD} (he : TDOK P e de) (hk : de.kd = .int .i64) (hzc1 : de.size = 1) (d : Nat) : ∀ {xs ys : List C} {b : Bool}, eqI xs ys = some b → ∀ (X Y : List Value) (o : Nat), X.drop o = xs.map (C.den ρ) → Y.drop o = ys.map (C.den ρ) →
    (Op.eqItems (d + 1) e (P.cellsOf e) X.toArray Y.toArray (List.range' o xs.length)).run P w = .ok b w := by
  obtain ⟨i, z, hi, hsz, _, hz, hzc, hzl, hzw, hkd⟩ := he
  rw [hk] at hkd
  have hu : P.underlying e = some (.int .i64) := hkd
  have hpl : P.plainKey e = true := by unfold Program.plainKey; simp [hu]
  have hc : P.cellsOf e = 1 := by simp [Program.cellsOf, hi, hsz, hzc1]
  rw [hc]
  intro xs
  induction xs with
  | nil =>
    intro ys b h X Y o _ _
    cases ys with
    | nil => cases h; simp [Op.eqItems]
    | cons y s => simp [eqI] at h
  | cons x r ih =>
    intro ys b h X Y o hX hY
    cases ys with
    | nil => cases x <;> simp [eqI] at h
    | cons y s =>
      unfold eqI at h
      split at h
      · rename_i h1 h2; cases h1
      · rename_i a r' b' s' h1 h2
        cases h1; cases h2
        cases hp : eqI r s with
        | none => rw [hp] at h; cases h
        | some p =>
          rw [hp] at h
          cases h
          have hXo : X[o]? = some (.int .i64 a) := by have := congrArg (fun l => l[0]?) hX; simpa [C.den] using this
          have hYo : Y[o]? = some (.int .i64 b') := by have := congrArg (fun l => l[0]?) hY; simpa [C.den] using this
          have hX' : X.drop (o + 1) = r.map (C.den ρ) := by rw [← List.drop_drop, hX]; rfl
          have hY' : Y.drop (o + 1) = s.map (C.den ρ) := by rw [← List.drop_drop, hY]; rfl
          have hr := ih hp X Y (o + 1) hX' hY'
          have p1 := run_part_plain (w := w) hpl (xs := X.toArray) (off := o * 1) (v := .int .i64 a) (by simpa using hXo)
          have p2 := run_part_plain (w := w) hpl (xs := Y.toArray) (off := o * 1) (v := .int .i64 b') (by simpa using hYo)
          have p3 : (Op.equalIn (d + 1) e (.int .i64 a) (.int .i64 b')).run P w = .ok (a == b') w := by unfold Op.equalIn; simp [run_und hu]
          rw [List.length_cons, List.range'_succ]
          simp only [Op.eqItems, Sem.run_bind, p1, p2, p3, Result.andThen]
          by_cases hab : a = b'
          · subst hab; simp [hr]
          · have : (a == b') = false := by simpa using hab
            simp [this, hab]
      · cases h
theorem intField (hT : TOK P T) {e : TypeId} (h : (match lookT T e with
    | some d => (match d.kd with
      | .int .i64 => Nat.beq d.size 1
      | _ => false)
    | none => false) = true) : P.plainKey e = true ∧ P.underlying e = some (.int .i64) := by
  split at h
  case h_2 => cases h
  case h_1 d hd =>
    split at h
    case h_2 => cases h
    case h_1 hk =>
      obtain ⟨_, _, _, _, _, _, _, _, _, hkd⟩ := lookT_ok hT hd
      rw [hk] at hkd
      have hu : P.underlying e = some (.int .i64) := hkd
      exact ⟨by unfold Program.plainKey; simp [hu], hu⟩
theorem eqF_run (hT : TOK P T) (d n : Nat) : ∀ {F : List Field} {o : Nat} {xs ys : List C} {b : Bool}, strI T n (F.map fun f => (f.offset, f.type)) o = true → F.all (fun f => f.name != "_") = true → xs.length + o = n → eqI xs ys = some b → ∀ (X Y : List Value), X.drop o = xs.map (C.den ρ) → Y.drop o = ys.map (C.den ρ) →
    (Op.eqFields (d + 1) X.toArray Y.toArray F).run P w = .ok b w := by
  intro F
  induction F with
  | nil =>
    intro o xs ys b h1 _ h3 h4 X Y _ _
    have := Nat.eq_of_beq_eq_true h1
    have : xs = [] := List.length_eq_zero_iff.1 (by omega)
    subst this
    cases ys with
    | nil => cases h4; simp [Op.eqFields]
    | cons y s => simp [eqI] at h4
  | cons f F ih =>
    intro o xs ys b h1 h2 h3 h4 X Y hX hY
    simp only [List.map_cons, strI, Bool.and_eq_true] at h1
    simp only [List.all_cons, Bool.and_eq_true, bne_iff_ne] at h2
    have ho := Nat.eq_of_beq_eq_true h1.1.1
    obtain ⟨hpl, hu⟩ := intField hT h1.1.2
    unfold eqI at h4
    split at h4
    · have h5 : ∀ {fs : List (Nat × Nat)} {q : Nat}, strI T n fs q = true → q ≤ n := by
        intro fs
        induction fs with
        | nil => intro q h; exact Nat.le_of_eq (Nat.eq_of_beq_eq_true h).symm
        | cons p r ih => intro q h; simp only [strI, Bool.and_eq_true] at h; have := ih h.2; omega
      have := h5 h1.2
      simp at h3; omega
    · rename_i a r' b' s'
      cases hp : eqI r' s' with
      | none => rw [hp] at h4; cases h4
      | some p =>
        rw [hp] at h4
        cases h4
        have hXo : X[o]? = some (.int .i64 a) := by have := congrArg (fun l => l[0]?) hX; simpa [C.den] using this
        have hYo : Y[o]? = some (.int .i64 b') := by have := congrArg (fun l => l[0]?) hY; simpa [C.den] using this
        have hX' : X.drop (o + 1) = r'.map (C.den ρ) := by rw [← List.drop_drop, hX]; rfl
        have hY' : Y.drop (o + 1) = s'.map (C.den ρ) := by rw [← List.drop_drop, hY]; rfl
        have hr := ih h1.2 h2.2 (by simp at h3; omega) hp X Y hX' hY'
        have p1 := run_part_plain (w := w) hpl (xs := X.toArray) (off := f.offset) (v := .int .i64 a) (by rw [ho]; simpa using hXo)
        have p2 := run_part_plain (w := w) hpl (xs := Y.toArray) (off := f.offset) (v := .int .i64 b') (by rw [ho]; simpa using hYo)
        have p3 : (Op.equalIn (d + 1) f.type (.int .i64 a) (.int .i64 b')).run P w = .ok (a == b') w := by unfold Op.equalIn; simp [run_und hu]
        unfold Op.eqFields
        rw [if_pos h2.1]
        simp only [Sem.run_bind, p1, p2, p3, Result.andThen]
        by_cases hab : a = b'
        · subst hab; simp [hr]
        · have : (a == b') = false := by simpa using hab
          simp [this, hab]
    · cases h4
theorem rdBinL_ok (hT : TOK P T) {L : List E} {nx : Nat} (hp : Hp n0 ρ w L nx) {op : BinOp} {t : TypeId} {x y : Option V} {K : C → Prop} (h : rdBinL T L t op x y K) : ∃ c u v, x = some u ∧ y = some v ∧ K c ∧ (∀ n, c.wf n) ∧ (binOp op t (u.den ρ) (v.den ρ)).run P w = .ok (c.den ρ) w ∧ (∀ s s', (eqGuard op t s s' (u.den ρ) (v.den ρ)).run P w = .ok () w) := by
  unfold rdBinL at h
  split at h
  · rename_i l n
    obtain ⟨d, hd, h1⟩ := onV_iff h
    obtain ⟨en, hen, h2⟩ := onV_iff h1
    clear h h1
    obtain ⟨i, z, _, _, _, _, _, _, _, hkd⟩ := lookT_ok hT hd
    have hadr : 0 < en.cs.length → ∃ b off, (ρ l).1 = some ⟨b, off, none⟩ := fun hc => by
      obtain ⟨hok, hl, _⟩ := hp.entry hen
      rw [← hl]; exact hok.addr hc
    have heq : ∀ e, P.underlying t = some (.slice e) → 0 < en.cs.length → (Op.equal t ((V.c (.sl l n)).den ρ) ((V.c .nil).den ρ)).run P w = .ok false w := fun e hu hc => by
      obtain ⟨b, off, ha⟩ := hadr hc
      unfold Op.equal
      have e1 : Op.maxDepth = 9999 + 1 := rfl
      rw [e1]
      unfold Op.equalIn
      simp [run_und hu, V.den, A.den, C.den, ha]
    split at h2
    · rename_i e hk
      rw [hk] at hkd
      refine ⟨_, _, _, rfl, rfl, h2.2, fun _ => trivial, ?_, fun s s' => ?_⟩
      · have h4 := heq e hkd h2.1
        simp only [V.den, A.den, C.den] at h4 ⊢
        simp only [binOp, Sem.run_bind, h4, Result.andThen, Sem.run_pure]
      · simp only [V.den, A.den, C.den, eqGuard]; rfl
    · rename_i e hk
      rw [hk] at hkd
      refine ⟨_, _, _, rfl, rfl, h2.2, fun _ => trivial, ?_, fun s s' => ?_⟩
      · have h4 := heq e hkd h2.1
        simp only [V.den, A.den, C.den] at h4 ⊢
        simp only [binOp, Sem.run_bind, h4, Result.andThen, Sem.run_pure]; rfl
      · simp only [V.den, A.den, C.den, eqGuard]; rfl
    · exact h2.elim
  · rename_i xs ys
    obtain ⟨d, hd, h1⟩ := onV_iff h
    clear h
    have hdt := lookT_ok hT hd
    obtain ⟨i, z, _, _, _, _, _, _, _, hkd⟩ := hdt
    split at h1
    · rename_i m e hk
      rw [hk] at hkd
      obtain ⟨de, hde, h2⟩ := onV_iff h1
      have het := lookT_ok hT hde
      clear h1
      split at h2
      · rename_i hke
        obtain ⟨b, hb, h3⟩ := onV_iff h2
        clear h2
        have hu : P.underlying t = some (.array m e) := hkd
        have hue : P.underlying e = some (.int .i64) := by
          obtain ⟨_, _, _, _, _, _, _, _, _, hkd2⟩ := het
          rw [hke] at hkd2; exact hkd2
        have hie : ∃ ie, P.info? e = some ie := by obtain ⟨ie, _, h, _⟩ := het; exact ⟨ie, h⟩
        obtain ⟨ie, hie⟩ := hie
        have heq : xs.length = m → de.size = 1 → (Op.equalIn 10000 t (.agg (xs.map (C.den ρ)).toArray) (.agg (ys.map (C.den ρ)).toArray)).run P w = .ok b w := fun hm h1 => by
          rw [show (10000 : Nat) = 9999 + 1 from rfl, run_equalIn_array w 9999 _ _ hu hie, List.range_eq_range', ← hm]
          have := eqI_run (ρ := ρ) (w := w) het hke h1 9998 hb (xs.map (C.den ρ)) (ys.map (C.den ρ)) 0 rfl rfl
          exact this
        have hg : P.eqGuardType P.depth t = false := by
          unfold Program.depth
          simp only [Program.eqGuardType, hu, hue]
        split at h3
        · rename_i hbb
          simp only [Bool.and_eq_true] at hbb
          have h4 := heq (Nat.eq_of_beq_eq_true hbb.1) (Nat.eq_of_beq_eq_true hbb.2)
          refine ⟨_, _, _, rfl, rfl, h3, fun _ => trivial, ?_, fun s s' => run_eqGuard_agg w .eql t s s' _ _ hg⟩
          show (binOp .eql t (.agg _) (.agg _)).run P w = _
          rw [run_eql_struct, h4]; rfl
        · rename_i hbb
          simp only [Bool.and_eq_true] at hbb
          have h4 := heq (Nat.eq_of_beq_eq_true hbb.1) (Nat.eq_of_beq_eq_true hbb.2)
          refine ⟨_, _, _, rfl, rfl, h3, fun _ => trivial, ?_, fun s s' => run_eqGuard_agg w .neq t s s' _ _ hg⟩
          show (binOp .neq t (.agg _) (.agg _)).run P w = _
          rw [run_neq_struct, h4]; rfl
        · exact h3.elim
      · exact h2.elim
    · rename_i fs hk
      rw [hk] at hkd
      obtain ⟨F, hu, hFs, hst, hnm⟩ := hkd
      obtain ⟨b, hb, h3⟩ := onV_iff h1
      clear h1
      have hfo : P.fieldsOf t = F := by unfold Program.fieldsOf; rw [hu]
      have heq : strI T xs.length fs 0 = true → (Op.equalIn 10000 t (.agg (xs.map (C.den ρ)).toArray) (.agg (ys.map (C.den ρ)).toArray)).run P w = .ok b w := fun hm => by
        rw [show (10000 : Nat) = 9999 + 1 from rfl, run_equalIn_struct w 9999 t _ _ (by rw [hfo]; exact hu) hst, hfo]
        rw [← hFs] at hm
        exact eqF_run (ρ := ρ) (w := w) hT 9998 xs.length hm hnm rfl hb _ _ rfl rfl
      have hsub : ∀ {fs' : List (Nat × Nat)} {q : Nat}, strI T xs.length fs' q = true → ∀ p ∈ fs', P.underlying p.2 = some (.int .i64) := by
        intro fs'
        induction fs' with
        | nil => intro q _ p hp; cases hp
        | cons p r ih =>
          intro q h p' hp'
          simp only [strI, Bool.and_eq_true] at h
          rcases List.mem_cons.1 hp' with rfl | hp'
          · exact (intField hT h.1.2).2
          · exact ih h.2 p' hp'
      have hg : strI T xs.length fs 0 = true → P.eqGuardType P.depth t = false := fun hm => by
        have hall := hsub hm
        unfold Program.depth
        simp only [Program.eqGuardType, hu]
        rw [← Array.any_toList]
        refine List.any_eq_false.2 fun f hf => ?_
        have h9 := hall (f.offset, f.type) (by rw [← hFs]; exact List.mem_map.2 ⟨f, hf, rfl⟩)
        simp only at h9
        simp [h9]
      split at h3
      · rename_i hbb
        have h4 := heq hbb
        refine ⟨_, _, _, rfl, rfl, h3, fun _ => trivial, ?_, fun s s' => run_eqGuard_agg w .eql t s s' _ _ (hg hbb)⟩
        show (binOp .eql t (.agg _) (.agg _)).run P w = _
        rw [run_eql_struct, h4]; rfl
      · rename_i hbb
        have h4 := heq hbb
        refine ⟨_, _, _, rfl, rfl, h3, fun _ => trivial, ?_, fun s s' => run_eqGuard_agg w .neq t s s' _ _ (hg hbb)⟩
        show (binOp .neq t (.agg _) (.agg _)).run P w = _
        rw [run_neq_struct, h4]; rfl
      · exact h3.elim
    · exact h1.elim
  · exact rdBin_ok hT h
end

/- What an operation that makes memory asks and yields; calls; one operation. -/

def setL (cs : List C) (o : Nat) : List C → List C
  | [] => cs
  | v :: r => setL (cs.set o v) (o + 1) r
theorem setL_length : ∀ (vs cs : List C) (o : Nat), (setL cs o vs).length = cs.length
  | [], cs, o => rfl
  | v :: r, cs, o => by simp only [setL]; rw [setL_length]; simp
theorem setL_mem {n : Nat} : ∀ (vs cs : List C) (o : Nat), (∀ c ∈ cs, c.wf n) → (∀ c ∈ vs, c.wf n) → ∀ c ∈ setL cs o vs, c.wf n
  | [], cs, o, h, _ => h
  | v :: r, cs, o, h, h2 => by
    simp only [setL]
    refine setL_mem r _ _ (fun c hc => ?_) (fun c hc => h2 c (by simp [hc]))
    rcases List.mem_or_eq_of_mem_set hc with hc | rfl
    · exact h c hc
    · exact h2 _ (by simp)
def fillC (place : Nat → Option (Nat × Nat)) (cs : List C) : List (Nat × A) → Option (List C)
  | [] => some cs
  | p :: r => match place p.1 with
    | none => none
    | some q => bif (Nat.beq p.2.cells.length q.2 && Nat.ble (q.1 + q.2) cs.length) then fillC place (setL cs q.1 p.2.cells) r else none
theorem fold_setL (ρ : Env) : ∀ (vs cs : List C) (o k : Nat), ((vs.map (C.den ρ)).zipIdx k).foldl (fun (a : Array Value) (p : Value × Nat) => a.setIfInBounds (o + p.2) p.1) (cs.map (C.den ρ)).toArray = ((setL cs (o + k) vs).map (C.den ρ)).toArray
  | [], cs, o, k => rfl
  | v :: r, cs, o, k => by
    simp only [List.map_cons, List.zipIdx_cons, List.foldl_cons, setL]
    have h : (List.map (C.den ρ) cs).toArray.setIfInBounds (o + k) (C.den ρ v) = (List.map (C.den ρ) (cs.set (o + k) v)).toArray := by simp [List.map_set]
    rw [h, fold_setL ρ r _ o (k + 1), Nat.add_assoc]
theorem fillC_ok {n : Nat} (ρ : Env) {place : Nat → Option (Nat × Nat)} : ∀ {ps : List (Nat × A)} {cs out : List C}, fillC place cs ps = some out → (∀ p ∈ ps, p.2.wf n) → (∀ c ∈ cs, c.wf n) →
    Instr.fill place (cs.map (C.den ρ)).toArray (ps.map fun p => (p.1, p.2.den ρ)) = some (out.map (C.den ρ)).toArray ∧ (∀ c ∈ out, c.wf n) ∧ out.length = cs.length
  | [], cs, out, h, _, hc => by cases h; exact ⟨rfl, hc, rfl⟩
  | (i, v) :: r, cs, out, h, hp, hc => by
    simp only [fillC] at h
    cases hpl : place i with
    | none => rw [hpl] at h; cases h
    | some q =>
      obtain ⟨off, size⟩ := q
      rw [hpl] at h
      simp only at h
      cases hb : (Nat.beq v.cells.length size && Nat.ble (off + size) cs.length) with
      | false => rw [hb] at h; cases h
      | true =>
        rw [hb] at h
        simp only [Bool.and_eq_true] at hb
        have h1 := Nat.eq_of_beq_eq_true hb.1
        have h2 := Nat.le_of_ble_eq_true hb.2
        have hv := hp (i, v) (by simp)
        have hcw := A.cells_wf hv
        have ih := fillC_ok ρ h (fun p hp' => hp p (by simp [hp'])) (setL_mem _ _ off hc hcw)
        refine ⟨?_, ih.2.1, ih.2.2.trans (setL_length _ _ _)⟩
        rw [← ih.1]
        simp only [List.map_cons, Instr.fill, hpl, A.cells_den hv ρ, List.size_toArray, List.length_map, h1]
        have h3 : ¬ (off + size > cs.length) := by omega
        have := fold_setL ρ v.cells cs off 0
        simp only [Nat.add_zero] at this
        simp [h3, ← this, Array.zipIdx, Array.foldl_toList]
        rw [show List.mapIdx (fun i a => (a, i)) (List.map (C.den ρ) v.cells) = (List.map (C.den ρ) v.cells).zipIdx from by apply List.ext_getElem?; intro i; simp [List.getElem?_mapIdx, List.getElem?_zipIdx]]
def placesOf (T : List (Nat × TD)) (fs : List (Nat × Nat)) : Option (List (Nat × Nat)) :=
  seqO (fs.map fun p => match lookT T p.2 with | some d => some (p.1, d.size) | none => none)
def partsOf (s : S) : List (Nat × Operand) → Option (List (Nat × A))
  | [] => some []
  | p :: r => match ev s p.2 with
    | some (.a v) => (match partsOf s r with | some l => some ((p.1, v) :: l) | none => none)
    | _ => none
def repC (n : Nat) (z : List C) : List C :=
  match z with
  | [c] => List.replicate n c
  | _ => (List.replicate n z).flatten
def rdBuild (T : List (Nat × TD)) (s : S) (t : Nat) (parts : List (Nat × Operand)) (K : V → Prop) : Prop :=
  onV (lookT T t) fun d => onV (partsOf s parts) fun ps =>
  match d.kd with
  | .str fs => onV (placesOf T fs) fun pl => onV (fillC (fun i => pl[i]?) d.zero ps) fun out => K (V.agg out)
  | .arr n e => onV (lookT T e) fun de => onV (fillC (fun i => some (i * de.size, de.size)) d.zero ps) fun out => K (V.agg out)
  | _ => False
def rdBuildS (T : List (Nat × TD)) (s : S) (nx : Nat) (t n : Nat) (parts : List (Nat × Operand)) (K : V → List E → Nat → Prop) : Prop :=
  onV (lookT T t) fun d => onV (partsOf s parts) fun ps =>
  match d.kd with
  | .sl e => onV (lookT T e) fun de => onV (fillC (fun i => some (i * de.size, de.size)) (repC n de.zero) ps) fun out => (n * de.size ≤ 1000000 ∧ 0 < de.size) ∧ K (V.c (.sl nx n)) [⟨nx, .vec e de.size, out⟩] (nx + 1)
  | _ => False
def rdMake (T : List (Nat × TD)) (nx : Nat) (t : Nat) (n m : Option V) (K : V → List E → Nat → Prop) : Prop :=
  onV (lookT T t) fun d =>
  match d.kd, n, m with
  | .sl e, some (.a (.c (.int .i64 n))), some (.a (.c (.int .i64 m))) => onV (lookT T e) fun de => (0 ≤ n ∧ m = n ∧ n ≤ 1000000 ∧ de.bytes ≤ 1000000 ∧ 0 < de.size) ∧ K (V.c (.sl nx n.toNat)) [⟨nx, .vec e de.size, repC n.toNat de.zero⟩] (nx + 1)
  | _, _, _ => False
section
variable {P : Program} {T : List (Nat × TD)} {w : World} {n0 : Nat} {ρ : Env} {L : List E} {nx : Nat}
theorem News.one {ρ' : Env} {w' : World} {e : E} (hok : EOK n0 ρ' w' e) (hl : e.lab = nx) (hw : ∀ c ∈ e.cs, c.wf (nx + 1)) (hp : ∀ b, blk ρ' nx = some b → w.heap.size ≤ b) : News n0 L ρ ρ' w w' nx (nx + 1) [e] := by
  refine ⟨?_, ?_, ?_, ?_, ?_⟩
  · intro x hx; rw [List.mem_singleton.1 hx]; exact hok
  · intro x hx; rw [List.mem_singleton.1 hx]; exact ⟨by omega, hw⟩
  · intro x hx y hy _; rw [List.mem_singleton.1 hx, List.mem_singleton.1 hy]
  · intro x hx y hy _ hne; rw [List.mem_singleton.1 hx, List.mem_singleton.1 hy] at hne; exact absurd rfl hne
  · intro x hx; rw [List.mem_singleton.1 hx]; exact .inl (fun b hb => hp b (by rw [← hl]; exact hb))
/-- A label more. -/
def Env.put (ρ : Env) (l : Nat) (a : Option Addr) (c : Nat) : Env := fun k => if k = l then (a, c) else ρ k
theorem Env.put_same (ρ : Env) (l : Nat) (a : Option Addr) (c : Nat) : (ρ.put l a c) l = (a, c) := by simp [Env.put]
theorem Env.put_agr (ρ : Env) (l : Nat) (a : Option Addr) (c : Nat) : Agr l (l + 1) ρ (ρ.put l a c) := fun k hk => by
  have : k ≠ l := by omega
  simp [Env.put, this]
theorem run_newRow (t : TypeId) (cs : Array Value) : (newRow t cs).run P w = .ok ⟨w.heap.size, 0, none⟩ (w.alloc (.cells cs t)) := by
  unfold newRow; rw [Sem.run_bind, run_newObj]; rfl
theorem own_new (t : TypeId) {cs : List C} (hcs : ∀ c ∈ cs, c.wf nx) (hb : n0 ≤ w.heap.size) : News n0 L ρ (ρ.put nx (some ⟨w.heap.size, 0, none⟩) 0) w (w.alloc (.cells (cs.map (C.den ρ)).toArray t)) nx (nx + 1) [⟨nx, .own t, cs⟩] := by
  refine News.one ?_ rfl (fun c hc => C.wf_mono (by omega) (hcs c hc)) ?_
  · refine ⟨w.heap.size, by simp only [Env.put_same], hb, ?_⟩
    rw [cells_agr (Env.put_agr ρ nx _ _).lt hcs]
    exact heap_alloc_new _ _
  · intro b hb'
    simp only [blk, Env.put_same, Option.map_some, Option.some.injEq] at hb'
    omega
theorem vec_new (t : TypeId) (z n : Nat) {cs : List C} (hcs : ∀ c ∈ cs, c.wf nx) (hb : n0 ≤ w.heap.size) {w' : World} (hw : w'.ownsRow n0 t z (.slice (some ⟨w.heap.size, 0, none⟩) n n) n (cs.map (C.den ρ))) :
    News n0 L ρ (ρ.put nx (some ⟨w.heap.size, 0, none⟩) n) w w' nx (nx + 1) [⟨nx, .vec t z, cs⟩] := by
  refine News.one ?_ rfl (fun c hc => C.wf_mono (by omega) (hcs c hc)) ?_
  · refine ⟨n, ?_⟩
    rw [cells_agr (Env.put_agr ρ nx _ _).lt hcs]
    simp only [Env.put_same]
    exact rowO.of hw
  · intro b hb'
    simp only [blk, Env.put_same, Option.map_some, Option.some.injEq] at hb'
    omega
theorem Below.of_grown {w w' : World} (h : w.grownBy w' none) : Below w.heap.size w w' := ⟨h.os, h.tape, h.output, h.size, fun k hk => h.block k hk (by simp)⟩
theorem partsOf_ok {a : Act} {s : S} : ∀ {l : List (Nat × Operand)} {ps : List (Nat × A)}, (∀ p ∈ l, ∀ v, ev s p.2 = some v → a.eval p.2 = v.den ρ ∧ v.wf nx) → partsOf s l = some ps →
    l.map (fun p => (p.1, a.eval p.2)) = ps.map (fun p => (p.1, p.2.den ρ)) ∧ ∀ p ∈ ps, p.2.wf nx
  | [], ps, _, h => by cases h; simp
  | (i, x) :: r, ps, hev, h => by
    simp only [partsOf] at h
    cases hx : ev s x with
    | none => rw [hx] at h; cases h
    | some v =>
      cases v with
      | tup l => rw [hx] at h; cases h
      | a v =>
        rw [hx] at h
        simp only at h
        cases hr : partsOf s r with
        | none => rw [hr] at h; cases h
        | some l =>
          rw [hr] at h
          cases h
          obtain ⟨h1, h2⟩ := partsOf_ok (fun p hp => hev p (by simp [hp])) hr
          obtain ⟨h3, h4⟩ := hev (i, x) (by simp) _ hx
          refine ⟨by simp [h1, h3, V.den], fun p hp => ?_⟩
          rcases List.mem_cons.1 hp with rfl | hp
          · exact h4
          · exact h2 p hp
theorem places_run (hT : TOK P T) : ∀ {F : List Field} {pl : List (Nat × Nat)}, placesOf T (F.map fun f => (f.offset, f.type)) = some pl →
    (F.mapM (m := Sem) fun f => do pure (f.offset, ← sizeOf f.type)).run P w = .ok pl w
  | [], pl, h => by cases h; rfl
  | f :: r, pl, h => by
    simp only [placesOf, List.map_cons] at h
    cases hf : lookT T f.type with
    | none => rw [hf] at h; simp [seqO] at h
    | some d =>
      rw [hf] at h
      simp only [seqO] at h
      cases hr : seqO ((r.map fun f => (f.offset, f.type)).map fun p => match lookT T p.2 with | some d => some (p.1, d.size) | none => none) with
      | none => rw [hr] at h; cases h
      | some l =>
        rw [hr] at h
        cases h
        have ih := places_run hT (F := r) (pl := l) hr
        simp only [List.mapM_cons, Sem.run_bind, run_size (lookT_ok hT hf), Result.andThen, Sem.run_pure, ih]
theorem rdBuild_ok (hT : TOK P T) {a : Act} {s : S} {t : TypeId} {parts : Array (Nat × Operand)} {K : V → Prop} (hev : ∀ p ∈ parts.toList, ∀ v, ev s p.2 = some v → a.eval p.2 = v.den ρ ∧ v.wf nx) (h : rdBuild T s t parts.toList K) :
    ∃ v, K v ∧ v.wf nx ∧ (Instr.build t (parts.map fun (i, x) => (i, a.eval x))).run P w = .ok (v.den ρ) w := by
  obtain ⟨d, hd, h1⟩ := onV_iff h
  obtain ⟨ps, hps, h2⟩ := onV_iff h1
  clear h h1
  have hd' := lookT_ok hT hd
  obtain ⟨hp1, hp2⟩ := partsOf_ok hev hps
  obtain ⟨z, hz1, hz2⟩ := run_zero (w := w) hd'
  obtain ⟨i, z', _, _, _, _, _, _, hz0, hkd⟩ := hd'
  have hzw : ∀ c ∈ d.zero, c.wf nx := fun c hc => C.wf_mono (Nat.zero_le _) (hz0 c hc)
  have hpl : (parts.map fun (p : Nat × Operand) => (p.1, a.eval p.2)).toList = ps.map (fun p => (p.1, p.2.den ρ)) := by rw [← hp1]; simp
  split at h2
  · rename_i fs hk
    obtain ⟨pl, hpl', h3⟩ := onV_iff h2
    obtain ⟨out, hout, hK⟩ := onV_iff h3
    rw [hk] at hkd
    obtain ⟨F, hF, hFs, _⟩ := hkd
    rw [← hFs] at hpl'
    obtain ⟨hfill, hw1, _⟩ := fillC_ok ρ hout hp2 hzw
    refine ⟨_, hK, hw1, ?_⟩
    have hm : (F.mapM (m := Sem) fun f => do pure (f.offset, ← sizeOf f.type)).run P w = .ok pl.toArray w := by
      rw [Array.mapM_eq_mapM_toList, Sem.run_map, places_run hT hpl']; rfl
    simp only [Instr.build, Sem.run_bind, hz1, Result.andThen, run_und hF, hm, hz2 ρ, hpl]
    have : (fun (i : Nat) => pl.toArray[i]?) = (fun (i : Nat) => pl[i]?) := by funext i; simp
    rw [this, hfill]
    rfl
  · rename_i n e hk
    obtain ⟨de, hde, h3⟩ := onV_iff h2
    obtain ⟨out, hout, hK⟩ := onV_iff h3
    rw [hk] at hkd
    obtain ⟨hfill, hw1, _⟩ := fillC_ok ρ hout hp2 hzw
    refine ⟨_, hK, hw1, ?_⟩
    simp only [Instr.build, Sem.run_bind, hz1, Result.andThen, run_und hkd, run_size (lookT_ok hT hde), hz2 ρ, hpl, hfill]
    rfl
  · exact h2.elim
theorem repC_den (ρ : Env) (n : Nat) (z : List C) : (repC n z).map (C.den ρ) = (List.replicate n (z.map (C.den ρ))).flatten := by
  unfold repC
  split
  · rename_i c
    induction n with
    | zero => rfl
    | succ n ih => simp [List.replicate_succ, ih]
  · rw [List.map_flatten, List.map_replicate]
theorem repC_mem {n : Nat} {z : List C} : ∀ c ∈ repC n z, c ∈ z := by
  intro c hc
  unfold repC at hc
  split at hc
  · rw [List.eq_of_mem_replicate hc]; simp
  · obtain ⟨l, hl, hc⟩ := List.mem_flatten.1 hc
    rw [List.eq_of_mem_replicate hl] at hc; exact hc
theorem repC_length (n : Nat) (z : List C) : (repC n z).length = n * z.length := by
  unfold repC
  split
  · simp
  · simp [List.length_flatten]
theorem flat_getElem? {α : Type} (z : List α) (hz : 0 < z.length) : ∀ (n i : Nat), (List.replicate n z).flatten[i]? = if i < n * z.length then z[i % z.length]? else none
  | 0, i => by simp
  | n + 1, i => by
    rw [List.replicate_succ, List.flatten_cons]
    by_cases h : i < z.length
    · rw [List.getElem?_append_left h, Nat.mod_eq_of_lt h, if_pos (by rw [Nat.add_mul]; omega)]
    · rw [List.getElem?_append_right (by omega), flat_getElem? z hz n (i - z.length)]
      have e1 : (i - z.length) % z.length = i % z.length := by
        conv => rhs; rw [show i = (i - z.length) + z.length by omega]
        rw [Nat.add_mod_right]
      rw [e1, Nat.add_mul]
      congr 1
      simp; omega
theorem made_repC (ρ : Env) {z : Value} {zc : List C} (hz : z.cells = (zc.map (C.den ρ)).toArray) (h0 : 0 < zc.length) (n : Nat) :
    ((Array.range (n * zc.length)).map (z.cells[· % z.cells.size]!)) = ((repC n zc).map (C.den ρ)).toArray := by
  apply Array.ext'
  apply List.ext_getElem?
  intro i
  rw [repC_den]
  have h1 : 0 < (zc.map (C.den ρ)).length := by simpa using h0
  simp only [flat_getElem? _ h1, hz, List.length_map]
  by_cases hi : i < n * zc.length
  · have hm : i % zc.length < zc.length := Nat.mod_lt _ h0
    simp [hi, hm]
  · simp [hi]
end

/- Maps: what look-ups, updates and deletions ask and yield. -/
open Go.MapKept (Stamped stamped_push stamped_modify stamped_erase run_getObj_map run_setObj_map stamped_empty)
open Go.ChangeMaps (setBlock modify_eq_set)

def intsOf : List C → Option (List Int)
  | [] => some []
  | .int .i64 n :: r => (match intsOf r with | some l => some (n :: l) | none => none)
  | _ :: _ => none
theorem intsOf_ok (ρ : Env) : ∀ {l : List C} {m : List Int}, intsOf l = some m → l.map (C.den ρ) = m.map (Value.int .i64) ∧ l = m.map C.i
  | [], m, h => by cases h; simp
  | c :: r, m, h => by
    unfold intsOf at h
    split at h
    · rename_i heq; cases heq
    · rename_i n r' heq
      cases heq
      split at h
      · rename_i l hl
        cases h
        obtain ⟨h1, h2⟩ := intsOf_ok ρ hl
        simp [h1, C.den, h2]
      · cases h
    · cases h
def inL : List Int → Prop
  | [] => True
  | x :: r => (-9223372036854775808 ≤ x ∧ x ≤ 9223372036854775807) ∧ inL r
theorem inL_iff : ∀ {l : List Int}, inL l ↔ ∀ x ∈ l, -9223372036854775808 ≤ x ∧ x ≤ 9223372036854775807
  | [] => by simp [inL]
  | x :: r => by simp [inL, inL_iff (l := r)]
/-- The key that a symbol names. -/
def keyK (ks : KS) (i : Option V) (K : List Int → Prop) : Prop :=
  match ks, i with
  | .int, some (.a (.c (.int .i64 n))) => (-9223372036854775808 ≤ n ∧ n ≤ 9223372036854775807) ∧ K [n]
  | .arr m, some (.a (.agg l)) => onV (intsOf l) fun ns => (ns.length = m ∧ inL ns) ∧ K ns
  | _, _ => False
theorem keyK_ok {ks : KS} {i : Option V} {K : List Int → Prop} (h : keyK ks i K) (ρ : Env) : ∃ u ns, i = some u ∧ okK ks ns ∧ u.den ρ = keyD ks ns ∧ K ns := by
  unfold keyK at h
  split at h
  · rename_i n
    exact ⟨_, [n], rfl, ⟨rfl, by simpa using h.1⟩, rfl, h.2⟩
  · rename_i m l
    obtain ⟨ns, hn, ⟨h1, h2⟩, hK⟩ := onV_iff h
    exact ⟨_, ns, rfl, ⟨h1, inL_iff.1 h2⟩, by simp only [V.den, A.den, keyD, (intsOf_ok ρ hn).1], hK⟩
  · exact h.elim
def ksB : KS → KS → Bool
  | .int, .int => true
  | .arr n, .arr m => Nat.beq n m
  | _, _ => false
theorem ksB_eq {a b : KS} (h : ksB a b = true) : a = b := by
  cases a <;> cases b <;> first | rfl | (cases h; done) | (simp only [ksB] at h; rw [Nat.eq_of_beq_eq_true h])
def MV.sym : MV → A
  | .i n => .c (C.i n)
  | .b x => .c (.bool x)
  | .w l => .agg (l.map C.i)
theorem MV.sym_den (v : MV) (ρ : Env) : v.sym.den ρ = v.den := by
  cases v <;> simp [MV.sym, MV.den, A.den, C.den, C.i]
theorem MV.sym_wf (v : MV) (n : Nat) : v.sym.wf n := by
  cases v <;> simp [MV.sym, A.wf, C.wf, C.i]
def mvOf : A → Option MV
  | .c (.int .i64 n) => some (.i n)
  | .c .tt => some (.b true)
  | .c .ff => some (.b false)
  | .c (.bool x) => some (.b x)
  | .agg l => (match intsOf l with | some m => some (.w m) | none => none)
  | _ => none
theorem mvOf_ok {a : A} {v : MV} (h : mvOf a = some v) (ρ : Env) : a.den ρ = v.den := by
  unfold mvOf at h
  split at h <;> first | (cases h; rfl) | skip
  · rename_i l
    split at h
    · rename_i m hm; cases h; simp only [A.den, MV.den, (intsOf_ok ρ hm).1]
    · cases h
  · cases h
def updF (f : MF) (k : List Int) (v : MV) : MF := fun k' => if k' = k then some v else f k'
def delF (f : MF) (k : List Int) : MF := fun k' => if k' = k then none else f k'
theorem keyD_inj {ks : KS} {a b : List Int} (ha : okK ks a) (hb : okK ks b) (h : keyD ks a = keyD ks b) : a = b := by
  cases ks with
  | int =>
    have h1 : a.length = 1 := ha.1
    have h2 : b.length = 1 := hb.1
    match a, b, h1, h2 with
    | [x], [y], _, _ => simp only [keyD, List.headD_cons, Value.int.injEq, true_and] at h; rw [h]
  | arr n =>
    simp only [keyD, Value.agg.injEq] at h
    have h3 : a.map (Value.int .i64) = b.map (Value.int .i64) := by simpa using congrArg Array.toList h
    have key : ∀ (a b : List Int), a.map (Value.int .i64) = b.map (Value.int .i64) → a = b := by
      intro a
      induction a with
      | nil => intro b h; cases b with | nil => rfl | cons y r => cases h
      | cons x r ih =>
        intro b h
        cases b with
        | nil => cases h
        | cons y s =>
          simp only [List.map_cons, List.cons.injEq, Value.int.injEq, true_and] at h
          rw [h.1, ih s h.2]
    exact key a b h3
theorem mapKeys {P : Program} {k : TypeId} {ks : KS} (hk : ∀ l, okK ks l → ∃ x, keyOf P k (keyD ks l) = some x) {f : MF} {es : Array MapEntry} {clock : Nat} (h : MapIs ks f es clock) : ∀ e ∈ es.toList, ∃ l, keyOf P k e.key = some l := fun e he => by
  obtain ⟨l, v, h1, h2, _⟩ := h.val e he
  rw [h2]; exact hk l h1
theorem map_none {ks : KS} {f : MF} {es : Array MapEntry} {clock : Nat} (h : MapIs ks f es clock) {ns : List Int} (hno : ∀ e ∈ es.toList, e.key ≠ keyD ks ns) : f ns = none := by
  cases hf : f ns with
  | none => rfl
  | some v => obtain ⟨_, x, hx, hk⟩ := h.has ns v hf; exact absurd hk (hno x hx)
theorem map_some {ks : KS} {f : MF} {es : Array MapEntry} {clock : Nat} (h : MapIs ks f es clock) {ns : List Int} (hok : okK ks ns) {e : MapEntry} (he : e ∈ es.toList) (hk : e.key = keyD ks ns) : ∃ v, f ns = some v ∧ e.val = v.den := by
  obtain ⟨l, v, h1, h2, h3, h4⟩ := h.val e he
  have : l = ns := keyD_inj h1 hok (h2.symm.trans hk)
  subst this
  exact ⟨v, h3, h4⟩
/-- A look-up. -/
def lkV (ok : Bool) (a : A) (b : C) : V :=
  match ok with
  | true => .tup [a, .c b]
  | false => .a a
def rdLook (T : List (Nat × TD)) (L : List E) (t : Nat) (x i : Option V) (ok : Bool) (K : V → Prop) : Prop :=
  onV (lookT T t) fun d =>
  match d.kd, x with
  | .map k e ks z, some (.a (.c (.mp l))) => onV (find L l) fun en =>
    (match en.kd with
    | .mp _ ks' f => (match ksB ks ks' with
      | true => keyK ks i fun ns => ∃ o, f ns = o ∧ (match o with
        | some v => K (lkV ok v.sym .tt)
        | none => K (lkV ok z.sym .ff))
      | false => False)
    | _ => False)
  | _, _ => False
def rdMkMap (T : List (Nat × TD)) (nx : Nat) (t : Nat) (K : V → List E → Nat → Prop) : Prop :=
  onV (lookT T t) fun d =>
  match d.kd with
  | .map _ _ ks _ => K (V.c (.mp nx)) [⟨nx, .mp true ks (fun _ => none), []⟩] (nx + 1)
  | _ => False
section
variable {P : Program} {T : List (Nat × TD)} {w : World} {n0 : Nat} {ρ : Env} {L : List E} {nx : Nat}
theorem lkV_ok (ok b : Bool) (a : A) (c : C) (hc : c.den ρ = .bool b) (hw : a.wf nx) (hcw : c.wf nx) : (lkV ok a c).wf nx ∧ (lkV ok a c).den ρ = if ok then .tuple #[a.den ρ, .bool b] else a.den ρ := by
  cases ok
  · exact ⟨hw, rfl⟩
  · refine ⟨fun x hx => ?_, by simp [lkV, V.den, A.den, hc]⟩
    simp only [List.mem_cons, List.not_mem_nil, or_false] at hx
    rcases hx with rfl | rfl
    · exact hw
    · exact hcw
theorem rdLook_ok (hT : TOK P T) (hp : Hp n0 ρ w L nx) {t : TypeId} {x i : Option V} {ok : Bool} {K : V → Prop} (h : rdLook T L t x i ok K) :
    ∃ u j v, x = some u ∧ i = some j ∧ K v ∧ v.wf nx ∧ (Instr.lookup t (u.den ρ) (j.den ρ) ok).run P w = .ok (v.den ρ) w := by
  obtain ⟨d, hd, hh⟩ := onV_iff h
  clear h
  have hd' := lookT_ok hT hd
  split at hh
  · rename_i k e ks z l hk
    obtain ⟨en, hen, h1⟩ := onV_iff hh
    clear hh
    split at h1
    · rename_i own ks' f hkd
      split at h1
      · rename_i hks
        have := ksB_eq hks
        subst this
        obtain ⟨j, ns, rfl, hok, hjd, o, ho, hK⟩ := keyK_ok h1 ρ
        obtain ⟨_, _, _, _, _, _, _, _, _, hkt⟩ := hd'
        rw [hk] at hkt
        obtain ⟨hu, hKd, hkeys, ie, hie, hz⟩ := hkt
        obtain ⟨hent, hl, hm⟩ := hp.entry hen
        obtain ⟨lab, kd, cs⟩ := en
        simp only at hkd hl
        subst hkd hl
        obtain ⟨b, es, clock, e1, e2, e3, e4, e5⟩ := hent
        obtain ⟨key, hkey⟩ := hkeys ns hok
        have hzero : (zeroValue e).run P w = .ok z.den w := by simp [zeroValue, typeInfo, hie, hz]
        have hxd : V.den ρ (V.a (A.c (C.mp lab))) = .map (some b) := by simp only at e1; simp [V.den, A.den, C.den, e1]
        rcases hKd.find w hkey es.toList (mapKeys hkeys e4) with ⟨f1, f2⟩ | ⟨q, e0, f1, f2, f3⟩
        · have hn := map_none e4 f2
          rw [hn] at ho
          subst ho
          obtain ⟨g1, g2⟩ := lkV_ok (ρ := ρ) (nx := nx) ok false z.sym .ff rfl (MV.sym_wf _ _) trivial
          refine ⟨_, _, _, rfl, rfl, hK, g1, ?_⟩
          rw [hxd, hjd, g2, MV.sym_den]
          simp [Instr.lookup, run_und hu, Go.MapKept.run_getObj_map e3, hKd.check w _ hkey, f1, hzero, Result.andThen]
        · have hm0 : e0 ∈ es.toList := List.mem_of_getElem? f2
          obtain ⟨v, hv, hvd⟩ := map_some e4 hok hm0 f3
          rw [hv] at ho
          subst ho
          obtain ⟨g1, g2⟩ := lkV_ok (ρ := ρ) (nx := nx) ok true v.sym .tt rfl (MV.sym_wf _ _) trivial
          refine ⟨_, _, _, rfl, rfl, hK, g1, ?_⟩
          rw [hxd, hjd, g2, MV.sym_den, ← hvd]
          simp [Instr.lookup, run_und hu, Go.MapKept.run_getObj_map e3, hKd.check w _ hkey, f1, Result.andThen]
      · exact h1.elim
    · exact h1.elim
  · exact hh.elim
theorem mp_new {ks : KS} (hb : n0 ≤ w.heap.size) : News n0 L ρ (ρ.put nx (some ⟨w.heap.size, 0, none⟩) 0) w (w.alloc (.map #[] 0)) nx (nx + 1) [⟨nx, .mp true ks (fun _ => none), []⟩] := by
  refine News.one ?_ rfl (fun c hc => by cases hc) ?_
  · refine ⟨w.heap.size, #[], 0, by simp only [Env.put_same], fun _ => hb, heap_alloc_new _ _, ⟨by simp, fun _ _ h => (by cases h), stamped_empty 0⟩, rfl⟩
  · intro b hb'
    simp only [blk, Env.put_same, Option.map_some, Option.some.injEq] at hb'
    omega
theorem rdMkMap_ok (hT : TOK P T) (hb : n0 ≤ w.heap.size) {t : TypeId} {K : V → List E → Nat → Prop} (h : rdMkMap T nx t K) :
    ∃ v new nx' ρ' w', K v new nx' ∧ nx ≤ nx' ∧ v.wf nx' ∧ Agr nx nx' ρ ρ' ∧ Below w.heap.size w w' ∧ News n0 L ρ ρ' w w' nx nx' new ∧ (Instr.makeMap t none).run P w = .ok (v.den ρ') w' := by
  obtain ⟨d, hd, h1⟩ := onV_iff h
  clear h
  split at h1
  · rename_i k e ks z hk
    refine ⟨_, _, _, ρ.put nx (some ⟨w.heap.size, 0, none⟩) 0, w.alloc (.map #[] 0), h1, by omega, Nat.lt_succ_self nx, Env.put_agr _ _ _ _, (Below.refl _ _).alloc (Nat.le_refl _) _, mp_new hb, ?_⟩
    rw [run_makeMap]
    simp [V.den, A.den, C.den, Env.put_same]
  · exact h1.elim
/-- A map's entry in a list of entries, with other contents. -/
def updM (l : Nat) (kd : Kd) (L : List E) (K : List E → Prop) : Prop :=
  match L with
  | [] => K []
  | ⟨lab, k, cs⟩ :: r => match Nat.beq lab l with
    | true => updM l kd r fun r' => K (⟨lab, kd, cs⟩ :: r')
    | false => updM l kd r fun r' => K (⟨lab, k, cs⟩ :: r')
def updML (l : Nat) (kd : Kd) : List E → List E
  | [] => []
  | e :: r => (bif Nat.beq e.lab l then ⟨e.lab, kd, e.cs⟩ else e) :: updML l kd r
theorem updM_eq (l : Nat) (kd : Kd) : ∀ (L : List E) (K : List E → Prop), updM l kd L K = K (updML l kd L)
  | [], K => rfl
  | ⟨lab, k, cs⟩ :: r, K => by
    simp only [updM, updML]
    cases Nat.beq lab l <;> simp only [updM_eq l kd r, cond_true, cond_false]
theorem updML_mem {L : List E} {l : Nat} {kd : Kd} {x : E} (h : x ∈ updML l kd L) : ∃ e ∈ L, (e.lab = l ∧ x = ⟨e.lab, kd, e.cs⟩) ∨ (e.lab ≠ l ∧ x = e) := by
  induction L with
  | nil => simp [updML] at h
  | cons e r ih =>
    simp only [updML, List.mem_cons] at h
    rcases h with h | h
    · refine ⟨e, by simp, ?_⟩
      cases hb : Nat.beq e.lab l with
      | true => rw [hb] at h; exact .inl ⟨Nat.eq_of_beq_eq_true hb, h⟩
      | false => rw [hb] at h; exact .inr ⟨fun he => by rw [he] at hb; simp at hb, h⟩
    · obtain ⟨e', h1, h2⟩ := ih h; exact ⟨e', by simp [h1], h2⟩
def muUpd (T : List (Nat × TD)) (L : List E) (t : Nat) (m k v : Option V) (K : List E → Prop) : Prop :=
  onV (lookT T t) fun d =>
  match d.kd, m, v with
  | .map _ _ ks _, some (.a (.c (.mp l))), some (.a va) => onV (find L l) fun en =>
    (match en.kd with
    | .mp true ks' f => (match ksB ks ks' with
      | true => onV (mvOf va) fun mv => keyK ks k fun ns => updM l (.mp true ks (updF f ns mv)) L K
      | false => False)
    | _ => False)
  | _, _, _ => False
def muDel (T : List (Nat × TD)) (L : List E) (t : Nat) (m k : Option V) (K : List E → Prop) : Prop :=
  onV (lookT T t) fun d =>
  match d.kd, m with
  | .map _ _ ks _, some (.a (.c (.mp l))) => onV (find L l) fun en =>
    (match en.kd with
    | .mp true ks' f => (match ksB ks ks' with
      | true => keyK ks k fun ns => updM l (.mp true ks (delF f ns)) L K
      | false => False)
    | _ => False)
  | _, _ => False
theorem setBlock_grown {b : Nat} (o : Obj) : w.grownBy (setBlock w b o) (some b) :=
  ⟨rfl, rfl, rfl, by simp [setBlock], fun k hk hne => by
    simp only [setBlock]
    rw [Array.getElem?_setIfInBounds_ne (fun e => hne (by rw [e]))]⟩
theorem setBlock_same {b : Nat} {o o' : Obj} (h : w.heap[b]? = some o) : (setBlock w b o').heap[b]? = some o' := by
  have := (Array.getElem?_eq_some_iff.1 h).1
  simp [setBlock, this]
theorem update_is {t k e : TypeId} {ks : KS} {f : MF} {es : Array MapEntry} {clock b : Nat} (hu : P.underlying t = some (.map k e)) (hKd : Go.Maps.Keyed P k) (hkeys : ∀ l, okK ks l → ∃ x, keyOf P k (keyD ks l) = some x) (hb : w.heap[b]? = some (.map es clock)) (h : MapIs ks f es clock)
    {ns : List Int} (hok : okK ks ns) (v : MV) : ∃ es' clock', MapIs ks (updF f ns v) es' clock' ∧ (Instr.mapUpdate t (.map (some b)) (keyD ks ns) v.den).run P w = .ok () (setBlock w b (.map es' clock')) := by
  obtain ⟨key, hkey⟩ := hkeys ns hok
  rcases hKd.find w hkey es.toList (mapKeys hkeys h) with ⟨f1, f2⟩ | ⟨q, e0, f1, f2, f3⟩
  · refine ⟨es.push ⟨keyD ks ns, v.den, clock⟩, clock + 1, ⟨?_, ?_, stamped_push h.st f2⟩, ?_⟩
    · intro x hx
      simp only [Array.toList_push, List.mem_append, List.mem_singleton] at hx
      rcases hx with hx | rfl
      · obtain ⟨l, v', g1, g2, g3, g4⟩ := h.val x hx
        refine ⟨l, v', g1, g2, ?_, g4⟩
        have : l ≠ ns := fun e => f2 x hx (by rw [g2, e])
        simp only [updF, this, if_false]; exact g3
      · exact ⟨ns, v, hok, rfl, by simp [updF], rfl⟩
    · intro l v' hl
      simp only [updF] at hl
      by_cases he : l = ns
      · subst he; exact ⟨hok, ⟨keyD ks l, v.den, clock⟩, by simp, rfl⟩
      · rw [if_neg he] at hl
        obtain ⟨g1, x, g2, g3⟩ := h.has l v' hl
        exact ⟨g1, x, by simp only [Array.toList_push, List.mem_append]; exact .inl g2, g3⟩
    · simp [Instr.mapUpdate, run_und hu, Go.MapKept.run_getObj_map hb, hKd.check w false hkey, f1, Go.MapKept.run_setObj_map _ hb, Result.andThen, setBlock]
  · have hj : es[q]? = some e0 := by simpa using f2
    have hm0 : e0 ∈ es.toList := List.mem_of_getElem? f2
    have hql : q < es.toList.length := (List.getElem?_eq_some_iff.1 f2).1
    have hlist : (es.modify q (fun e' => { e' with key := keyD ks ns, val := v.den })).toList = es.toList.set q { e0 with key := keyD ks ns, val := v.den } := by rw [Array.toList_modify, modify_eq_set _ _ _ _ f2]
    have hnd := h.st.2.2
    have who : ∀ x ∈ es.toList.set q { e0 with key := keyD ks ns, val := v.den }, x = { e0 with key := keyD ks ns, val := v.den } ∨ (x ∈ es.toList ∧ x.key ≠ keyD ks ns) := by
      intro x hx
      obtain ⟨i, hi, ex⟩ := List.getElem_of_mem hx
      rw [List.getElem_set] at ex
      split at ex
      · exact Or.inl ex.symm
      · rename_i hne
        have hi' : i < es.toList.length := by simpa using hi
        refine Or.inr ⟨ex ▸ List.getElem_mem hi', fun hk => hne ?_⟩
        have h1 : (es.toList.map (·.key))[i]? = (es.toList.map (·.key))[q]? := by
          rw [List.getElem?_map, List.getElem?_map, f2, List.getElem?_eq_getElem hi', ex]
          simp only [Option.map_some, hk, f3]
        have h2 := (List.getElem?_inj (l := es.toList.map (·.key)) (by simpa using hi') hnd).1 h1
        exact h2.symm
    refine ⟨es.modify q (fun e' => { e' with key := keyD ks ns, val := v.den }), clock, ⟨?_, ?_, stamped_modify h.st _ _ (fun _ _ => rfl) (fun e' _ he' => by rw [hj] at he'; cases he'; exact f3.symm)⟩, ?_⟩
    · intro x hx
      rw [hlist] at hx
      rcases who x hx with rfl | ⟨hx', hne⟩
      · exact ⟨ns, v, hok, rfl, by simp [updF], rfl⟩
      · obtain ⟨l, v', g1, g2, g3, g4⟩ := h.val x hx'
        refine ⟨l, v', g1, g2, ?_, g4⟩
        have : l ≠ ns := fun e => hne (by rw [g2, e])
        simp only [updF, this, if_false]; exact g3
    · intro l v' hl
      rw [hlist]
      simp only [updF] at hl
      by_cases he : l = ns
      · subst he; exact ⟨hok, _, List.mem_iff_getElem.2 ⟨q, by simpa using hql, by simp; rfl⟩, rfl⟩
      · rw [if_neg he] at hl
        obtain ⟨g1, x, g2, g3⟩ := h.has l v' hl
        refine ⟨g1, x, ?_, g3⟩
        obtain ⟨i, hi, ex⟩ := List.getElem_of_mem g2
        have hiq : q ≠ i := fun e => by
          subst e
          rw [List.getElem?_eq_getElem hi, ex] at f2
          cases f2
          exact he (keyD_inj g1 hok (g3.symm.trans f3))
        exact List.mem_iff_getElem.2 ⟨i, by simpa using hi, by rw [List.getElem_set_ne hiq]; exact ex⟩
    · simp [Instr.mapUpdate, run_und hu, Go.MapKept.run_getObj_map hb, hKd.check w false hkey, f1, hj, f3, hKd.stays w hkey, Go.MapKept.run_setObj_map _ hb, Result.andThen, setBlock]
theorem delete_is {t k e ty : TypeId} {ks : KS} {f : MF} {es : Array MapEntry} {clock b : Nat} (hu : P.underlying t = some (.map k e)) (hKd : Go.Maps.Keyed P k) (hkeys : ∀ l, okK ks l → ∃ x, keyOf P k (keyD ks l) = some x) (hb : w.heap[b]? = some (.map es clock)) (h : MapIs ks f es clock)
    {ns : List Int} (hok : okK ks ns) (argTypes : Array TypeId) (ht : argTypes[0]? = some t) : ∃ es', MapIs ks (delF f ns) es' clock ∧ (Builtin.delete_ argTypes ty #[.map (some b), keyD ks ns]).run P w = .ok (.tuple #[]) (setBlock w b (.map es' clock)) := by
  obtain ⟨key, hkey⟩ := hkeys ns hok
  rcases hKd.find w hkey es.toList (mapKeys hkeys h) with ⟨f1, f2⟩ | ⟨q, e0, f1, f2, f3⟩
  · refine ⟨es, ⟨?_, ?_, h.st⟩, ?_⟩
    · intro x hx
      obtain ⟨l, v', g1, g2, g3, g4⟩ := h.val x hx
      refine ⟨l, v', g1, g2, ?_, g4⟩
      have : l ≠ ns := fun e => f2 x hx (by rw [g2, e])
      simp only [delF, this, if_false]; exact g3
    · intro l v' hl
      simp only [delF] at hl
      by_cases he : l = ns
      · rw [if_pos he] at hl; cases hl
      · rw [if_neg he] at hl; exact h.has l v' hl
    · simp [Builtin.delete_, ht, run_und hu, Go.MapKept.run_getObj_map hb, hKd.check w _ hkey, f1, Go.MapKept.run_setObj_map _ hb, Result.andThen, setBlock]
  · have hm0 : e0 ∈ es.toList := List.mem_of_getElem? f2
    have hql : q < es.toList.length := (List.getElem?_eq_some_iff.1 f2).1
    have hqs : q < es.size := by simpa using hql
    have hsub : (es.eraseIdxIfInBounds q).toList = es.toList.eraseIdx q := by
      unfold Array.eraseIdxIfInBounds
      rw [dif_pos hqs]
      simp
    have hnd := h.st.2.2
    refine ⟨es.eraseIdxIfInBounds q, ⟨?_, ?_, stamped_erase h.st q⟩, ?_⟩
    · intro x hx
      rw [hsub] at hx
      obtain ⟨i, hne, hi⟩ := List.mem_eraseIdx_iff_getElem?.1 hx
      have hx' : x ∈ es.toList := List.mem_of_getElem? hi
      obtain ⟨l, v', g1, g2, g3, g4⟩ := h.val x hx'
      refine ⟨l, v', g1, g2, ?_, g4⟩
      have : l ≠ ns := fun e => by
        subst e
        have h1 : (es.toList.map (·.key))[i]? = (es.toList.map (·.key))[q]? := by
          rw [List.getElem?_map, List.getElem?_map, f2, hi]
          simp only [Option.map_some, g2, f3]
        exact hne ((List.getElem?_inj (l := es.toList.map (·.key)) (by simpa using (List.getElem?_eq_some_iff.1 hi).1) hnd).1 h1)
      simp only [delF, this, if_false]; exact g3
    · intro l v' hl
      rw [hsub]
      simp only [delF] at hl
      by_cases he : l = ns
      · rw [if_pos he] at hl; cases hl
      · rw [if_neg he] at hl
        obtain ⟨g1, x, g2, g3⟩ := h.has l v' hl
        refine ⟨g1, x, ?_, g3⟩
        obtain ⟨i, hi, ex⟩ := List.getElem_of_mem g2
        have hiq : i ≠ q := fun e => by
          subst e
          rw [List.getElem?_eq_getElem hi, ex] at f2
          cases f2
          exact he (keyD_inj g1 hok (g3.symm.trans f3))
        exact List.mem_eraseIdx_iff_getElem?.2 ⟨i, hiq, by rw [List.getElem?_eq_getElem hi, ex]⟩
    · simp [Builtin.delete_, ht, run_und hu, Go.MapKept.run_getObj_map hb, hKd.check w _ hkey, f1, Go.MapKept.run_setObj_map _ hb, Result.andThen, setBlock]
/-- An array of integers as a key. -/
theorem keyArr {k n e : Nat} (hu : P.underlying k = some (.array n e)) (hue : P.underlying e = some (.int .i64)) (hkt : P.keyType k = true) (hck : P.cellsOf k = n) (hce : P.cellsOf e = 1) (hts : 1 ≤ P.types.size) :
    ∀ l, okK (.arr n) l → ∃ x, keyOf P k (keyD (.arr n) l) = some x := by
  intro l ⟨hl, hr⟩
  have hl : l.length = n := hl
  have hform : (keyD (.arr n) l).formed P k = true := by simp [Value.formed, keyD, hu, hck, hl]
  unfold keyOf
  simp only [hu, hkt, hform, Bool.and_self, if_true]
  have : ∃ ls, P.keyLits (P.types.size + 1) k (keyD (.arr n) l).cells.toList = some ls := by
    have hc : (keyD (.arr n) l).cells.toList = l.map (Value.int .i64) := by simp [keyD, Value.cells]
    rw [hc]
    obtain ⟨d, hd⟩ : ∃ d, P.types.size = d + 1 := ⟨P.types.size - 1, by omega⟩
    unfold Program.keyLits
    simp only [hu, List.length_map, hl, hck, if_true]
    have hm : ∀ i ∈ List.range n, ∃ x, P.keyLits P.types.size e (((l.map (Value.int .i64)).drop (i * P.cellsOf e)).take (P.cellsOf e)) = some x := by
      intro i hi
      have hi' : i < l.length := by rw [hl]; exact List.mem_range.1 hi
      rw [hce, Nat.mul_one]
      have : ((l.map (Value.int .i64)).drop i).take 1 = [.int .i64 l[i]] := by
        rw [List.take_one, List.head?_drop]
        simp [hi']
      rw [this, hd]
      unfold Program.keyLits
      have h2 := hr l[i] (List.getElem_mem hi')
      refine ⟨[.int .i64 l[i]], ?_⟩
      simp only [hue, true_and]
      rw [if_pos]
      simp only [Lit.wf, IntKind.min, IntKind.max, IntKind.signed, IntKind.bits]
      simp
      omega
    have hmm : ∀ (is : List Nat) (g : Nat → Option (List Lit)), (∀ i ∈ is, ∃ x, g i = some x) → ∃ ys, is.mapM g = some ys := by
      intro is g
      induction is with
      | nil => intro _; exact ⟨[], rfl⟩
      | cons i r ih =>
        intro h
        obtain ⟨x, hx⟩ := h i (by simp)
        obtain ⟨ys, hys⟩ := ih (fun j hj => h j (by simp [hj]))
        exact ⟨x :: ys, by simp [List.mapM_cons, hx, hys]⟩
    obtain ⟨ys, hys⟩ := hmm (List.range n) _ hm
    rw [hys]; exact ⟨_, rfl⟩
  obtain ⟨ls, hls⟩ := this
  rw [hls]; exact ⟨_, rfl⟩
end

/- One operation: what it asks and yields, and that it does. -/

def callB (P : Program) (f : FuncId) : Bool :=
  match P.funcs[f]? with
  | some fn => !(fn.name == "runtime.NumGoroutine") && !fn.body.isNone
  | none => false
/-- A call: what it leaves meets K. -/
structure CallK (P : Program) (n0 : Nat) (f : FuncId) (vs : List V) (L : List E) (nx : Nat) (K : V → List E → Nat → Prop) : Prop where
  ok : callB P f = true
  run : ∀ ρ w, Hp n0 ρ w L nx → (∀ v ∈ vs, v.wf nx) → Calls P f (vs.map (V.den ρ)).toArray w fun e w' =>
    ∃ v new nx' ρ', e = .returned (v.den ρ') ∧ nx ≤ nx' ∧ v.wf nx' ∧ Agr nx nx' ρ ρ' ∧ Below w.heap.size w w' ∧ News n0 L ρ ρ' w w' nx nx' new ∧ K v new nx'
/-- A call that may turn what the caller owns: all that lies there behind it. -/
structure CallM (P : Program) (n0 : Nat) (f : FuncId) (vs : List V) (L : List E) (nx : Nat) (K : V → List E → Nat → Prop) : Prop where
  ok : callB P f = true
  run : ∀ ρ w, Hp n0 ρ w L nx → (∀ v ∈ vs, v.wf nx) → Calls P f (vs.map (V.den ρ)).toArray w fun e w' =>
    ∃ v L' nx' ρ', e = .returned (v.den ρ') ∧ nx ≤ nx' ∧ v.wf nx' ∧ Agr nx nx' ρ ρ' ∧ Keep n0 Cx.top w w' ∧ Hp n0 ρ' w' L' nx' ∧ K v L' nx'
/-- A call of yield: a round of a loop over this function. -/
def YldM (P : Program) (n0 : Nat) (cx : Cx) (y : Value) (vs : List V) (L : List E) (nx : Nat) (K : V → List E → Nat → Prop) : Prop :=
  ∃ l, y = .func (.yield l) #[] #[] ∧ ∀ ρ w, Hp n0 ρ w L nx → (∀ v ∈ vs, v.wf nx) → AgrLt cx.nb cx.ρ0 ρ → (∀ k, cx.x k → k < w.heap.size) → YieldAt Fence.wide 0 P l (vs.map (V.den ρ)).toArray w fun e w' =>
    ∃ v L' nx' ρ', e = .returned (v.den ρ') ∧ nx ≤ nx' ∧ v.wf nx' ∧ AgrLt nx ρ ρ' ∧ Keep n0 cx w w' ∧ Hp n0 ρ' w' L' nx' ∧ K v L' nx'
abbrev Hnd := FuncId → List V → List E → Nat → (V → List E → Nat → Prop) → Prop
def lenC (T : List (Nat × TD)) (t : Nat) (x : Option V) (K : V → Prop) : Prop :=
  onV (lookT T t) fun d =>
  match d.kd, x with
  | .sl _, some (.a (.c (.sl _ n))) => K (V.i n)
  | .sl _, some (.a (.c .nil)) => K (V.i 0)
  | .sl _, some (.a (.c (.sub _ _ n _))) => K (V.i n)
  | .arr n _, some _ => K (V.i n)
  | _, _ => False
def isZ (s : S) : Option Operand → Bool
  | none => true
  | some (.const (.int _ (.ofNat 0))) => true
  | some _ => false
def rdSlice (T : List (Nat × TD)) (L : List E) (nx : Nat) (s : S) (t : Nat) (x : Option V) (lo hi : Option Operand) (K : V → List E → Nat → Prop) : Prop :=
  onV (lookT T t) fun d =>
  match d.kd, x with
  | .sl e, some (.a (.c (.sl l n))) => onV (lookT T e) fun de => onV (find L l) fun en =>
    (match lo with
    | none => (match hi with
      | none => onV en.kd.z fun z => (0 < z ∧ n * z ≤ en.cs.length) ∧ K (V.c (.sl l n)) [] nx
      | some h => (match ev s h with
        | some (.a (.c (.int _ h))) => onV en.kd.z fun z => (z = de.size ∧ 0 < z ∧ 0 ≤ h ∧ h.toNat * z ≤ en.cs.length) ∧ K (V.c (.sl l h.toNat)) [] nx
        | _ => False))
    | some lx => (match ev s lx with
      | some (.a (.c (.int _ lw))) => (match en.kd with
        | .ro (z + 1) => (match hi with
          | none => (z + 1 = de.size ∧ 0 ≤ lw ∧ lw ≤ n ∧ n * (z + 1) ≤ en.cs.length) ∧ K (V.c (.sl nx (n - lw.toNat))) [⟨nx, .ro (z + 1), (en.cs.drop (lw.toNat * (z + 1))).take ((n - lw.toNat) * (z + 1))⟩] (nx + 1)
          | some hx => (match ev s hx with
            | some (.a (.c (.int _ h))) => (z + 1 = de.size ∧ 0 ≤ lw ∧ lw ≤ h ∧ h.toNat * (z + 1) ≤ en.cs.length) ∧ K (V.c (.sl nx (h.toNat - lw.toNat))) [⟨nx, .ro (z + 1), (en.cs.drop (lw.toNat * (z + 1))).take ((h.toNat - lw.toNat) * (z + 1))⟩] (nx + 1)
            | _ => False))
        | .vec e' z => (match hi with
          | none => (z = de.size ∧ 0 < z ∧ 0 ≤ lw ∧ lw < n ∧ n * z ≤ en.cs.length) ∧ K (V.c (.sub l (mulS lw.toNat z) (n - lw.toNat) lw.toNat)) [] nx
          | some hx => (match ev s hx with
            | some (.a (.c (.int _ h))) => (z = de.size ∧ 0 < z ∧ 0 ≤ lw ∧ lw < h ∧ h.toNat * z ≤ en.cs.length) ∧ K (V.c (.sub l (mulS lw.toNat z) (h.toNat - lw.toNat) lw.toNat)) [] nx
            | _ => False))
        | _ => False)
      | _ => False))
  | _, _ => False
def rdCall (H : Hnd) (T : List (Nat × TD)) (L : List E) (nx : Nat) (s : S) (c : Call) (K : V → List E → Nat → Prop) : Prop :=
  match c.callee with
  | .value f => (match ev s f with
    | some (.a (.c (.fn g caps))) => onV (evs s c.args.toList) fun vs => H g (vs ++ caps.map ptrV) L nx K
    | _ => False)
  | .builtin .len => (match c.args.toList, c.argTypes.toList with
    | [x], [t] => lenC T t (ev s x) fun v => K v [] nx
    | _, _ => False)
  | .builtin .max => (match c.args.toList with
    | [x, y] => (match ev s x, ev s y with
      | some (.a (.c (.int k x))), some (.a (.c (.int k' y))) => K (V.c (.int k (if y > x then y else x))) [] nx
      | _, _ => False)
    | _ => False)
  | .builtin .min => (match c.args.toList with
    | [x, y] => (match ev s x, ev s y with
      | some (.a (.c (.int k x))), some (.a (.c (.int k' y))) => K (V.c (.int k (if y < x then y else x))) [] nx
      | _, _ => False)
    | _ => False)
  | _ => False
def rd (H : Hnd) (T : List (Nat × TD)) (L : List E) (nx : Nat) (s : S) (op : Op) (K : V → List E → Nat → Prop) : Prop :=
  match op with
  | .move x => onV (ev s x) fun v => K v [] nx
  | .assign x => onV (ev s x) fun v => K v [] nx
  | .pick c a b => (match ev s c with
    | some (.a (.c .tt)) => onV (ev s a) fun v => K v [] nx
    | some (.a (.c .ff)) => onV (ev s b) fun v => K v [] nx
    | some (.a (.c (.bool p))) => (p = true → onV (ev s a) fun v => K v [] nx) ∧ (p = false → onV (ev s b) fun v => K v [] nx)
    | _ => False)
  | .alloc t => onV (lookT T t) fun d => K (V.c (.ptr nx 0)) [⟨nx, .own t, d.zero⟩] (nx + 1)
  | .box t x => (match ev s x with
    | some (.a v) => K (V.c (.ptr nx 0)) [⟨nx, .own t, v.cells⟩] (nx + 1)
    | _ => False)
  | .build t parts => rdBuild T s t parts.toList fun v => K v [] nx
  | .buildSlice t n parts => rdBuildS T s nx t n parts.toList K
  | .load t x => onV (lookT T t) fun d => rdLoad L d (ev s x) fun v => K v [] nx
  | .binOp op t x y _ => rdBinL T L t op (ev s x) (ev s y) fun c => K (V.c c) [] nx
  | .unOp op _ x => rdUn op (ev s x) fun v => K v [] nx
  | .convert a b x => rdConv T a b (ev s x) fun v => K v [] nx
  | .fieldAddr t x f => rdFldA T L t (ev s x) f fun v => K v [] nx
  | .field t x f => rdFld T t (ev s x) f fun v => K v [] nx
  | .indexAddr t x i => rdIdxA T L t (ev s x) (ev s i) fun v => K v [] nx
  | .index t x i => rdIdx T t (ev s x) (ev s i) fun v => K v [] nx
  | .extract x i => (match ev s x with
    | some (.tup l) => onV (l[i]?) fun c => K (.a c) [] nx
    | _ => False)
  | .makeSlice t l c => rdMake T nx t (ev s l) (ev s c) K
  | .slice t x lo hi none => rdSlice T L nx s t (ev s x) (bif isZ s lo then none else lo) hi K
  | .makeFunc (.func f) first caps => (match first.toList with
    | [] => onV (evs s caps.toList) fun vs => onV (capsOf vs) fun cp => K (V.c (.fn f cp)) [] nx
    | _ => False)
  | .nilCheck x => (match ev s x with
    | some (.a (.c (.ptr l o))) => onV (find L l) fun e => 0 < e.cs.length ∧ K (V.c (.ptr l o)) [] nx
    | some (.a (.c (.fn f cp))) => K (V.c (.fn f cp)) [] nx
    | _ => False)
  | .call c => rdCall H T L nx s c K
  | .lookup t x i ok => rdLook T L t (ev s x) (ev s i) ok fun v => K v [] nx
  | .makeMap t none => rdMkMap T nx t K
  | _ => False

section
variable {P : Program} {T : List (Nat × TD)} {w : World} {n0 : Nat} {ρ : Env} {L : List E} {nx : Nat} {a : Act} {next : Act → World → Prop} {Q : Exit → Act → World → Prop}
theorem wp_value {o : Oper} {u : Value} {w' : World} (h : (execOp a.eval o).run P w = .ok (.value u) w') (hn : next (a.put o.dst u) w') : o.wp P a w next Q := by unfold Oper.wp; rw [h]; exact hn
/-- From the plain walk of an operation to that within the fence. -/
theorem Oper.wpR {rd : Option Nat} {o : Oper} (hd : ∀ c, o.op ≠ .defer c) (h : o.wp P a w next Q) : o.wpIn (FR rd) 0 P a w next Q := by
  refine ⟨fun f _ => trivial, ?_⟩
  rw [Oper.semAt_plain (FR rd) _ _ hd]
  unfold Oper.wp at h
  generalize (execOp a.eval o).run P w = r at h
  cases r with
  | ok x w' =>
    cases x with
    | value v => exact h
    | skip => exact h
    | defer d => exact h
    | enter f args => exact ⟨fun hh => (by simp [FR, Fence.wide] at hh), (callsIn_wide (n := 0)).2 h⟩
    | row r args => exact ⟨fun hh => (by simp [FR, Fence.wide] at hh), fun c cs _ => let ⟨v, w'', h1, h2⟩ := h c cs; ⟨v, w'', h1, stepsIn_wide.2 h2⟩⟩
    | _ => exact h.elim
  | halt x w' => cases x <;> exact h
theorem run_v {s : Sem Value} {u : Value} {w' : World} (h : s.run P w = .ok u w') : (do pure (Next.value (← s)) : Sem Next).run P w = .ok (.value u) w' := by simp [h, Result.andThen]
/-- What is left behind an operation that turns nothing. -/
abbrev Kont (n0 : Nat) (L : List E) (ρ : Env) (w : World) (nx : Nat) (a : Act) (dst : Option Tmp) (next : Act → World → Prop) (K : V → List E → Nat → Prop) : Prop :=
  ∀ v new nx' ρ' w', K v new nx' → nx ≤ nx' → v.wf nx' → Agr nx nx' ρ ρ' → Below w.heap.size w w' → News n0 L ρ ρ' w w' nx nx' new → next (a.put dst (v.den ρ')) w'
theorem Kont.pure {dst : Option Tmp} {K : V → List E → Nat → Prop} (h : Kont n0 L ρ w nx a dst next K) {v : V} (hv : v.wf nx) (hK : K v [] nx) : next (a.put dst (v.den ρ)) w :=
  h v [] nx ρ w hK (Nat.le_refl _) hv (Agr.refl _ _) (Below.refl _ _) News.nil
theorem evs_ok {s : S} : ∀ {l : List Operand} {vs : List V}, evs s l = some vs → (∀ x ∈ l, ∀ v, ev s x = some v → a.eval x = v.den ρ ∧ v.wf nx) → l.map a.eval = vs.map (V.den ρ) ∧ ∀ v ∈ vs, v.wf nx
  | [], vs, h, _ => by cases h; simp
  | x :: r, vs, h, hev => by
    simp only [evs, List.map_cons] at h
    cases hx : ev s x with
    | none => rw [hx] at h; simp [seqO] at h
    | some v =>
      rw [hx] at h
      simp only [seqO] at h
      cases hr : seqO (r.map (ev s)) with
      | none => rw [hr] at h; cases h
      | some m =>
        rw [hr] at h
        cases h
        obtain ⟨h1, h2⟩ := evs_ok (l := r) (vs := m) hr (fun y hy => hev y (by simp [hy]))
        obtain ⟨h3, h4⟩ := hev x (by simp) v hx
        refine ⟨by simp [h1, h3], fun u hu => ?_⟩
        rcases List.mem_cons.1 hu with rfl | hu
        · exact h4
        · exact h2 u hu
theorem rdMake_ok (hT : TOK P T) (hb : n0 ≤ w.heap.size) {t : TypeId} {n m : Option V} {K : V → List E → Nat → Prop} (h : rdMake T nx t n m K) :
    ∃ u u' v new nx' ρ' w', n = some u ∧ m = some u' ∧ K v new nx' ∧ nx ≤ nx' ∧ v.wf nx' ∧ Agr nx nx' ρ ρ' ∧ Below w.heap.size w w' ∧ News n0 L ρ ρ' w w' nx nx' new ∧ (Instr.makeSlice t (u.den ρ) (u'.den ρ)).run P w = .ok (v.den ρ') w' := by
  obtain ⟨d, hd, h1⟩ := onV_iff h
  clear h
  split at h1
  · rename_i e n m hk
    obtain ⟨de, hde, ⟨h2, rfl, h4, h5, h6⟩, hK⟩ := onV_iff h1
    clear h1
    obtain ⟨k, rfl⟩ : ∃ k : Nat, m = k := ⟨m.toNat, by omega⟩
    have hd' := lookT_ok hT hd
    obtain ⟨i, z, _, _, _, _, _, _, _, hkd⟩ := hd'
    rw [hk] at hkd
    obtain ⟨i, z, hi, hsz, hby, hz, hzc, hzl, hzw, _⟩ := lookT_ok hT hde
    have hcs : z.cells.size = de.size := by rw [hzc ρ]; simpa using hzl
    obtain ⟨w', hr, how, hg⟩ := run_make_full (P := P) w n0 t e i z de.size hkd hi hz hsz .i64 .i64 k (by rw [hby]; exact Nat.le_trans (Nat.mul_le_mul h5 (show k ≤ 1000000 by omega)) (by omega)) (by unfold maxLen; omega) hb
    have hmade : (madeCells z.cells (k * de.size)).toList = (repC k de.zero).map (C.den ρ) := by
      have := made_repC ρ (hzc ρ) (by omega) k
      rw [hzl] at this
      unfold madeCells
      rw [this]
    rw [hmade] at how
    refine ⟨_, _, _, _, _, ρ.put nx (some ⟨w.heap.size, 0, none⟩) k, w', rfl, rfl, hK, by omega, Nat.lt_succ_self nx, Env.put_agr _ _ _ _, Below.of_grown hg, vec_new e de.size k (fun c hc => C.wf_mono (Nat.zero_le _) (hzw c (repC_mem c hc))) hb how, ?_⟩
    simpa [V.den, A.den, C.den, Env.put_same] using hr
  · exact h1.elim
theorem rdBuildS_ok (hT : TOK P T) (hb : n0 ≤ w.heap.size) {s : S} {t n : Nat} {parts : Array (Nat × Operand)} {K : V → List E → Nat → Prop} (hev : ∀ p ∈ parts.toList, ∀ v, ev s p.2 = some v → a.eval p.2 = v.den ρ ∧ v.wf nx) (h : rdBuildS T s nx t n parts.toList K) :
    ∃ v new nx' ρ' w', K v new nx' ∧ nx ≤ nx' ∧ v.wf nx' ∧ Agr nx nx' ρ ρ' ∧ Below w.heap.size w w' ∧ News n0 L ρ ρ' w w' nx nx' new ∧ (Instr.buildSlice t n (parts.map fun (i, x) => (i, a.eval x))).run P w = .ok (v.den ρ') w' := by
  obtain ⟨d, hd, h1⟩ := onV_iff h
  obtain ⟨ps, hps, h2⟩ := onV_iff h1
  clear h h1
  obtain ⟨hp1, hp2⟩ := partsOf_ok hev hps
  split at h2
  · rename_i e hk
    obtain ⟨de, hde, h3⟩ := onV_iff h2
    obtain ⟨out, hout, ⟨h4, h5⟩, hK⟩ := onV_iff h3
    clear h2 h3
    obtain ⟨i, z, _, _, _, _, _, _, _, hkd⟩ := lookT_ok hT hd
    rw [hk] at hkd
    have hde' := lookT_ok hT hde
    obtain ⟨zv, hz1, hz2⟩ := run_zero (w := w) hde'
    obtain ⟨i, z, hi, hsz, hby, hz, hzc, hzl, hzw, _⟩ := hde'
    have hmade := made_repC ρ (hz2 ρ) (by omega) n
    rw [hzl] at hmade
    have hpl : (parts.map fun (p : Nat × Operand) => (p.1, a.eval p.2)).toList = ps.map (fun p => (p.1, p.2.den ρ)) := by rw [← hp1]; simp
    obtain ⟨hfill, hw1, hlen⟩ := fillC_ok ρ hout hp2 (fun c hc => C.wf_mono (Nat.zero_le _) (hzw c (repC_mem c hc)))
    have hn : n ≤ 1000000 := Nat.le_trans (Nat.le_mul_of_pos_right n h5) h4
    have how := World.ownsRow_lit (base := n0) (e := e) (size := de.size) w (out.map (C.den ρ)).toArray n hb (by unfold maxLen; omega) (by simp [hlen, repC_length, hzl])
    refine ⟨_, _, _, ρ.put nx (some ⟨w.heap.size, 0, none⟩) n, _, hK, by omega, Nat.lt_succ_self nx, Env.put_agr _ _ _ _, (Below.refl _ _).alloc (Nat.le_refl _) _, vec_new e de.size n hw1 hb how, ?_⟩
    have hgt : ¬ (n * de.size > 2 ^ 24) := by omega
    by_cases h0 : n * de.size = 0
    · have hq : ∀ z : Array Value, (Array.range (n * de.size)).map (fun x => z[x % z.size]!) = ((repC n de.zero).map (C.den ρ)).toArray := by
        intro z
        rw [← hmade, h0]; simp
      simp only [Instr.buildSlice, Sem.run_bind, run_und hkd, Result.andThen, run_size (lookT_ok hT hde), hgt, if_false, h0, if_true, Sem.run_pure, Nat.zero_mul, hpl, show ¬ (0 > 2 ^ 24) by omega]
      rw [h0] at hq
      simp only [hq, hfill, Sem.run_bind, run_newRow, Result.andThen, Sem.run_pure]
      simp only [V.den, A.den, C.den, Env.put_same]
    · simp only [Instr.buildSlice, Sem.run_bind, run_und hkd, Result.andThen, run_size (lookT_ok hT hde), hgt, if_false, h0, hz1, Sem.run_pure, hmade, hpl, hfill, run_newRow]
      simp only [V.den, A.den, C.den, Env.put_same]
  · exact h2.elim
theorem run_sliceAt {t e : TypeId} {size : Nat} (hu : P.underlying t = some (.slice e)) (hs : (sizeOf e).run P w = .ok size w) (ao : Option Addr) (n cap l h : Nat) (lo hi : Option Value)
    (hlo : lo = none ∧ l = 0 ∨ ∃ k, lo = some (.int k l)) (hhi : hi = none ∧ h = n ∨ ∃ k, hi = some (.int k h)) (h1 : l ≤ h) (h2 : h ≤ cap) :
    (Instr.sliceAt t (.slice ao n cap) lo hi none).run P w = .ok (.slice (if cap = l then ao else ao.map (·.add (l * size))) (h - l) (cap - l)) w := by
  have e1 : 0 ≤ (h : Int) ∧ (h : Int) ≤ cap := by omega
  have e2 : 0 ≤ (l : Int) ∧ (l : Int) ≤ h := by omega
  rcases hlo with ⟨rfl, rfl⟩ | ⟨k, rfl⟩ <;> rcases hhi with ⟨rfl, rfl⟩ | ⟨k', rfl⟩ <;>
    simp only [Instr.sliceAt, Sem.run_bind, run_und hu, Result.andThen, Instr.slice, Instr.sliceBounds, Instr.sliceBound, asIntOf, Sem.run_pure, Sem.run_ite, e1, e2, and_self, if_true, hs, Int.toNat_natCast]
theorem add_zero_map (ao : Option Addr) : ao.map (·.add 0) = ao := by cases ao <;> simp [Addr.add]
theorem isZ_ok {s : S} {lo : Option Operand} (h : isZ s lo = true) (hev : ∀ x, lo = some x → ∀ v, ev s x = some v → a.eval x = v.den ρ ∧ v.wf nx) : lo.map a.eval = none ∧ (0 : Nat) = 0 ∨ ∃ k, lo.map a.eval = some (.int k (0 : Nat)) := by
  cases lo with
  | none => exact .inl ⟨rfl, rfl⟩
  | some x =>
    unfold isZ at h
    split at h
    · rename_i hx; cases hx
    · rename_i k hx
      cases hx
      exact .inr ⟨k, by rw [Option.map_some, (hev _ rfl (V.c (.int k 0)) rfl).1]; rfl⟩
    · cases h
theorem EOK.cap {e : E} (h : EOK n0 ρ w e) {z m : Nat} (hz : e.kd.z = some z) (h0 : 0 < z) (hm : m * z ≤ e.cs.length) : m ≤ (ρ e.lab).2 := by
  obtain ⟨lab, kd, cs⟩ := e
  cases kd with
  | ro k =>
    cases k with
    | zero => cases hz
    | succ k =>
      cases hz
      rcases h.2 with h2 | h2
      · omega
      · exact Nat.le_of_mul_le_mul_right (Nat.le_trans hm h2) h0
  | own t => cases hz
  | obj o => cases hz
  | mp _ _ _ => cases hz
  | vec t k =>
    cases hz
    obtain ⟨n, h1, h2⟩ := h
    simp only [List.length_map] at h1 hm
    have hmn : m ≤ n := Nat.le_of_mul_le_mul_right (by rw [← h1]; exact hm) h0
    rcases h2 with ⟨_, h3⟩ | ⟨g, off, cap, cur, h3, _, _, h5, _⟩
    · omega
    · have h6 := congrArg (fun v => match v with | Value.slice _ _ c => c | _ => 0) h3
      simp only at h6 ⊢
      omega
theorem sub_new {e : E} (hp : Hp n0 ρ w L nx) (hm : e ∈ L) {z : Nat} (hk : e.kd = .ro (z + 1)) (l h : Nat) (h1 : l ≤ h) (h2 : h * (z + 1) ≤ e.cs.length) :
    News n0 L ρ (ρ.put nx (if (ρ e.lab).2 = l then (ρ e.lab).1 else (ρ e.lab).1.map (·.add (l * (z + 1)))) ((ρ e.lab).2 - l)) w w nx (nx + 1) [⟨nx, .ro (z + 1), (e.cs.drop (l * (z + 1))).take ((h - l) * (z + 1))⟩] := by
  have hwf : ∀ c ∈ (e.cs.drop (l * (z + 1))).take ((h - l) * (z + 1)), c.wf nx := fun c hc => (hp.wf e hm).2 c (List.mem_of_mem_drop (List.mem_of_mem_take hc))
  have hok := hp.ok e hm
  have hcap := hok.cap (z := z + 1) (m := h) (by rw [hk]; rfl) (by omega) h2
  have hlh : l * (z + 1) ≤ h * (z + 1) := Nat.mul_le_mul_right _ h1
  obtain ⟨lab, kd, cs⟩ := e
  simp only at hk h2 hcap
  subst hk
  have hlen : ((cs.drop (l * (z + 1))).take ((h - l) * (z + 1))).length = (h - l) * (z + 1) := by
    rw [List.length_take, List.length_drop, Nat.sub_mul]; omega
  refine ⟨?_, ?_, ?_, ?_, ?_⟩
  · intro x hx; rw [List.mem_singleton.1 hx]
    simp only [EOK, Env.put_same]
    rw [cells_agr (Env.put_agr ρ nx _ _).lt hwf]
    constructor
    · intro hne
      have hlt : l < h := by
        rcases Nat.lt_or_ge l h with hh | hh
        · exact hh
        · exfalso; apply hne; rw [show h - l = 0 by omega]; simp
      have hcl : (ρ lab).2 ≠ l := by omega
      have hcne : cs.map (C.den ρ) ≠ [] := by
        intro hn
        have hc0 : cs = [] := by simpa using hn
        subst hc0
        have hh : h * (z + 1) = 0 := by simpa using h2
        rcases Nat.mul_eq_zero.1 hh with hh | hh <;> omega
      obtain ⟨b, off, e1, e2, e3⟩ := hok.1 hcne
      refine ⟨b, off + l * (z + 1), by simp only [hcl, if_false]; rw [e1, Option.map_some, none_add], e2, fun i hi => ?_⟩
      rw [List.length_map, hlen, Nat.sub_mul] at hi
      have h3 := e3 (l * (z + 1) + i) (by simp; omega)
      rw [← Nat.add_assoc] at h3
      rw [h3]
      have h4 : i < h * (z + 1) - l * (z + 1) := hi
      simp [List.getD_eq_getElem?_getD, List.getElem?_take, List.getElem?_drop, Nat.sub_mul, h4]
    · right
      rw [hlen]
      exact Nat.mul_le_mul_right _ (by omega)
  · intro x hx; rw [List.mem_singleton.1 hx]; exact ⟨by simp, fun c hc => C.wf_mono (by omega) (hwf c hc)⟩
  · intro x hx y hy _; rw [List.mem_singleton.1 hx, List.mem_singleton.1 hy]
  · intro x hx y hy _ hne; rw [List.mem_singleton.1 hx, List.mem_singleton.1 hy] at hne; exact absurd rfl hne
  · intro x hx; rw [List.mem_singleton.1 hx]
    right
    refine ⟨rfl, ?_⟩
    by_cases hne : cs = []
    · left; simp [hne]
    · right
      refine ⟨_, hm, rfl, fun _ => hne, ?_⟩
      simp only [blk, Env.put_same]
      split
      · rfl
      · rw [Option.map_map]; congr 1; funext x; simp only [Function.comp, Addr.add]; split <;> rfl
theorem rdSlice_ok (hT : TOK P T) (hp : Hp n0 ρ w L nx) {s : S} {t : TypeId} {x : Operand} {lo hi : Option Operand} {K : V → List E → Nat → Prop}
    (hev : ∀ y, (y = x ∨ lo = some y ∨ hi = some y) → ∀ v, ev s y = some v → a.eval y = v.den ρ ∧ v.wf nx) (h : rdSlice T L nx s t (ev s x) (bif isZ s lo then none else lo) hi K) :
    ∃ v new nx' ρ', K v new nx' ∧ nx ≤ nx' ∧ v.wf nx' ∧ Agr nx nx' ρ ρ' ∧ News n0 L ρ ρ' w w nx nx' new ∧ (Instr.sliceAt t (a.eval x) (lo.map a.eval) (hi.map a.eval) none).run P w = .ok (v.den ρ') w := by
  obtain ⟨d, hd, h1⟩ := onV_iff h
  clear h
  split at h1
  · rename_i e l n hk hx
    obtain ⟨de, hde, h2⟩ := onV_iff h1
    obtain ⟨en, hen, h3⟩ := onV_iff h2
    clear h1 h2
    obtain ⟨i, z, _, _, _, _, _, _, _, hkd⟩ := lookT_ok hT hd
    rw [hk] at hkd
    have hsz := run_size (w := w) (lookT_ok hT hde)
    obtain ⟨hok, hl, hm⟩ := hp.entry hen
    obtain ⟨hx1, hx2⟩ := hev x (.inl rfl) _ hx
    have hlw : l < nx := hx2
    rw [hx1]
    split at h3
    · rename_i hlo
      have hz : isZ s lo = true := by
        cases hq : isZ s lo with
        | true => rfl
        | false => rw [hq] at hlo; simp only [cond_false] at hlo; rw [hlo] at hq; cases hq
      have hlo' := isZ_ok (a := a) hz (fun y hy => hev y (.inr (.inl hy)))
      split at h3
      · obtain ⟨z, hz', ⟨h5, h7⟩, hK⟩ := onV_iff h3
        have hcap := hok.cap hz' h5 h7
        rw [hl] at hcap
        refine ⟨_, _, _, ρ, hK, Nat.le_refl _, hlw, Agr.refl _ _, News.nil, ?_⟩
        have := run_sliceAt hkd hsz (ρ l).1 n (ρ l).2 0 n (lo.map a.eval) none hlo' (.inl ⟨rfl, rfl⟩) (Nat.zero_le _) hcap
        simp only [Nat.zero_mul, add_zero_map, ite_self, Nat.sub_zero] at this
        exact this
      · rename_i hx'
        split at h3
        · rename_i k hh hhe
          obtain ⟨z, hz', ⟨h4, h5, h6, h7⟩, hK⟩ := onV_iff h3
          obtain ⟨hh1, _⟩ := hev hx' (.inr (.inr rfl)) _ hhe
          have hcap := hok.cap hz' h5 h7
          rw [hl] at hcap
          refine ⟨_, _, _, ρ, hK, Nat.le_refl _, hlw, Agr.refl _ _, News.nil, ?_⟩
          have := run_sliceAt hkd hsz (ρ l).1 n (ρ l).2 0 hh.toNat (lo.map a.eval) ((some hx').map a.eval) hlo' (.inr ⟨k, by simp only [Option.map_some, hh1, V.den, A.den, C.den]; congr; omega⟩) (Nat.zero_le _) hcap
          simp only [Nat.zero_mul, add_zero_map, ite_self, Nat.sub_zero] at this
          exact this
        · exact h3.elim
    · rename_i lx hlo
      have hlx : lo = some lx := by
        cases hq : isZ s lo with
        | true => rw [hq] at hlo; cases hlo
        | false => rw [hq] at hlo; exact hlo
      subst hlx
      split at h3
      · rename_i kl lw hle
        obtain ⟨hl1, _⟩ := hev lx (.inr (.inl rfl)) _ hle
        split at h3
        · rename_i z hkz
          split at h3
          · obtain ⟨⟨h4, h5, h6, h7⟩, hK⟩ := h3
            have hcap := hok.cap (z := z + 1) (m := n) (by rw [hkz]; rfl) (by omega) h7
            have hnew := sub_new hp hm hkz lw.toNat n (by omega) h7
            rw [hl] at hcap hnew
            refine ⟨_, _, _, _, hK, by omega, Nat.lt_succ_self nx, Env.put_agr _ _ _ _, hnew, ?_⟩
            have := run_sliceAt hkd hsz (ρ l).1 n (ρ l).2 lw.toNat n ((some lx).map a.eval) none (.inr ⟨kl, by simp only [Option.map_some, hl1, V.den, A.den, C.den]; congr; omega⟩) (.inl ⟨rfl, rfl⟩) (by omega) hcap
            rw [← h4] at this
            simp only [V.den, A.den, C.den, Env.put_same, Option.map_none]
            exact this
          · rename_i hx'
            split at h3
            · rename_i kh hh hhe
              obtain ⟨⟨h4, h5, h6, h7⟩, hK⟩ := h3
              obtain ⟨hh1, _⟩ := hev hx' (.inr (.inr rfl)) _ hhe
              have hcap := hok.cap (z := z + 1) (m := hh.toNat) (by rw [hkz]; rfl) (by omega) h7
              have hnew := sub_new hp hm hkz lw.toNat hh.toNat (by omega) h7
              rw [hl] at hcap hnew
              refine ⟨_, _, _, _, hK, by omega, Nat.lt_succ_self nx, Env.put_agr _ _ _ _, hnew, ?_⟩
              have := run_sliceAt hkd hsz (ρ l).1 n (ρ l).2 lw.toNat hh.toNat ((some lx).map a.eval) ((some hx').map a.eval) (.inr ⟨kl, by simp only [Option.map_some, hl1, V.den, A.den, C.den]; congr; omega⟩) (.inr ⟨kh, by simp only [Option.map_some, hh1, V.den, A.den, C.den]; congr; omega⟩) (by omega) hcap
              rw [← h4] at this
              simp only [V.den, A.den, C.den, Env.put_same]
              exact this
            · exact h3.elim
        · rename_i e' z hkz
          split at h3
          · obtain ⟨⟨h4, h5, h6, h7, h8⟩, hK⟩ := h3
            have hcap := hok.cap (z := z) (m := n) (by rw [hkz]; rfl) h5 h8
            rw [hl] at hcap
            refine ⟨_, _, _, ρ, hK, Nat.le_refl _, hlw, Agr.refl _ _, News.nil, ?_⟩
            have := run_sliceAt hkd hsz (ρ l).1 n (ρ l).2 lw.toNat n ((some lx).map a.eval) none (.inr ⟨kl, by simp only [Option.map_some, hl1, V.den, A.den, C.den]; congr; omega⟩) (.inl ⟨rfl, rfl⟩) (by omega) hcap
            rw [← h4, if_neg (by omega)] at this
            simp only [V.den, A.den, C.den, mulS_eq, Option.map_none]
            exact this
          · rename_i hx'
            split at h3
            · rename_i kh hh hhe
              obtain ⟨⟨h4, h5, h6, h7, h8⟩, hK⟩ := h3
              obtain ⟨hh1, _⟩ := hev hx' (.inr (.inr rfl)) _ hhe
              have hcap := hok.cap (z := z) (m := hh.toNat) (by rw [hkz]; rfl) h5 h8
              rw [hl] at hcap
              refine ⟨_, _, _, ρ, hK, Nat.le_refl _, hlw, Agr.refl _ _, News.nil, ?_⟩
              have := run_sliceAt hkd hsz (ρ l).1 n (ρ l).2 lw.toNat hh.toNat ((some lx).map a.eval) ((some hx').map a.eval) (.inr ⟨kl, by simp only [Option.map_some, hl1, V.den, A.den, C.den]; congr; omega⟩) (.inr ⟨kh, by simp only [Option.map_some, hh1, V.den, A.den, C.den]; congr; omega⟩) (by omega) hcap
              rw [← h4, if_neg (by omega)] at this
              simp only [V.den, A.den, C.den, mulS_eq]
              exact this
            · exact h3.elim
        · exact h3.elim
      · exact h3.elim
  · exact h1.elim
end

/- One operation that turns no memory: soundness. -/
section
variable {P : Program} {T : List (Nat × TD)} {H : Hnd} {w : World} {n0 : Nat} {ρ : Env} {L : List E} {nx : Nat} {a : Act} {next : Act → World → Prop} {Q : Exit → Act → World → Prop}
theorem lenC_ok (hT : TOK P T) {t : TypeId} {x : Option V} {K : V → Prop} (h : lenC T t x K) (ty : TypeId) : ∃ u v, x = some u ∧ K v ∧ v.wf nx ∧ (Builtin.len_ #[t] ty #[u.den ρ]).run P w = .ok (v.den ρ) w := by
  obtain ⟨d, hd, hh⟩ := onV_iff h
  clear h
  obtain ⟨i, z, _, _, _, _, _, _, _, hkd⟩ := lookT_ok hT hd
  split at hh
  · rename_i e l n hk
    rw [hk] at hkd
    exact ⟨_, _, rfl, hh, trivial, by simp [Builtin.len_, run_und hkd, V.den, A.den, C.den, goInt]⟩
  · rename_i e hk
    rw [hk] at hkd
    exact ⟨_, _, rfl, hh, trivial, by simp [Builtin.len_, run_und hkd, V.den, A.den, C.den, goInt]⟩
  · rename_i e l o n k hk
    rw [hk] at hkd
    exact ⟨_, _, rfl, hh, trivial, by simp [Builtin.len_, run_und hkd, V.den, A.den, C.den, goInt]⟩
  · rename_i n e v hk
    rw [hk] at hkd
    exact ⟨v, _, rfl, hh, trivial, by simp only [Builtin.len_, List.getElem?_toArray, List.getElem?_cons_zero, Sem.run_bind, run_und hkd, Result.andThen, V.den, A.den, C.den, goInt]; rfl⟩
  · exact hh.elim
theorem callB_run {f : FuncId} (h : callB P f = true) (args : Array Value) : (callFunc f args).run P w = .ok (.enter f args) w := by
  unfold callB at h
  split at h
  · rename_i fn hf
    simp only [Bool.and_eq_true, Bool.not_eq_true'] at h
    have h1 : (fn.name == "runtime.NumGoroutine") = false := h.1
    simp only [callFunc, Sem.run_bind, run_program, Result.andThen, hf, h1, h.2, Bool.false_eq_true, if_false, Sem.run_pure]
  · cases h
theorem rdCall_ok (hT : TOK P T) (hH : ∀ g vs K, H g vs L nx K → CallK P n0 g vs L nx K) {s : S} (hp : Hp n0 ρ w L nx) {dst : Option Tmp} {c : Call} {ty : TypeId} {pos : String} {after : Array Edge} {guard : Option (Nat × Bool)} {K : V → List E → Nat → Prop}
    (hev : ∀ x ∈ c.operands, ∀ v, ev s x = some v → a.eval x = v.den ρ ∧ v.wf nx) (h : rdCall H T L nx s c K) (hK : Kont n0 L ρ w nx a dst next K) : (Oper.mk dst (.call c) ty pos after guard).wp P a w next Q := by
  obtain ⟨callee, args, argTypes⟩ := c
  unfold rdCall at h
  split at h
  · rename_i f hf
    simp only at hf
    subst hf
    split at h
    · rename_i g caps hg
      obtain ⟨vs, hvs, h1⟩ := onV_iff h
      clear h
      obtain ⟨hf1, hf2⟩ := hev f (by simp [Call.operands]) _ hg
      have hf3 : ∀ p ∈ caps, p.1 < nx := hf2
      obtain ⟨hv1, hv2⟩ := evs_ok hvs (fun x hx => hev x (by simp [Call.operands] at hx ⊢; exact .inr hx))
      have hc := hH _ _ _ h1
      have hrun := hc.run ρ w hp (fun v hv => by
        rcases List.mem_append.1 hv with hv | hv
        · exact hv2 v hv
        · obtain ⟨p, hp', rfl⟩ := List.mem_map.1 hv; exact hf3 p hp')
      have hargs : (#[] ++ args.map a.eval) ++ (caps.map (ptrD ρ)).toArray = ((vs ++ caps.map ptrV).map (V.den ρ)).toArray := by
        apply Array.ext'
        simp only [Array.toList_append, Array.toList_map, List.map_append, List.map_map, hv1]
        simp
        exact fun p _ _ => rfl
      have hex : (execOp a.eval (Oper.mk dst (.call ⟨.value f, args, argTypes⟩) ty pos after guard)).run P w = .ok (.enter g ((vs ++ caps.map ptrV).map (V.den ρ)).toArray) w := by
        simp only [execOp, resolve, hf1, V.den, A.den, C.den, Deferred.ofValue, Sem.run_bind, Sem.run_pure, Result.andThen, invoke, callB_run hc.ok]
        rw [← hargs]
      unfold Oper.wp
      rw [hex]
      refine Calls.mono hrun ?_
      rintro e w' ⟨v, new, nx', ρ', rfl, h1, h2, h3, h4, h5, h6⟩
      exact hK v new nx' ρ' w' h6 h1 h2 h3 h4 h5
    · exact h.elim
  · rename_i hb
    simp only at hb
    subst hb
    simp only at h
    split at h
    · rename_i x t hx ht
      obtain ⟨u, v, hu, hKv, hv, hr⟩ := lenC_ok (ρ := ρ) (w := w) (nx := nx) hT h ty
      obtain ⟨e1, _⟩ := hev x (by simp [Call.operands]; have : x ∈ args.toList := by rw [hx]; simp
                                  simpa using this) u hu
      have ha : args = #[x] := by apply Array.ext'; exact hx
      have ht' : argTypes = #[t] := by apply Array.ext'; exact ht
      subst ha ht'
      refine wp_value (u := v.den ρ) (w' := w) ?_ (hK.pure hv hKv)
      simp only [execOp, resolve, Sem.run_bind, Sem.run_pure, Result.andThen, invoke, builtin]
      simp [e1, hr, Result.andThen]
    · exact h.elim
  · rename_i hb
    simp only at hb
    subst hb
    simp only at h
    split at h
    · rename_i x y hx
      split at h
      · rename_i k x' k' y' hx' hy'
        have ha : args = #[x, y] := by apply Array.ext'; exact hx
        subst ha
        obtain ⟨e1, _⟩ := hev x (by simp [Call.operands]) _ hx'
        obtain ⟨e2, _⟩ := hev y (by simp [Call.operands]) _ hy'
        refine wp_value ?_ (hK.pure (v := V.c (.int k (if y' > x' then y' else x'))) trivial h)
        simp only [execOp, resolve, Sem.run_bind, Sem.run_pure, Result.andThen, invoke, builtin]
        simp [e1, e2, V.den, A.den, C.den, Builtin.max_, Builtin.max2, Result.andThen]
      · exact h.elim
    · exact h.elim
  · rename_i hb
    simp only at hb
    subst hb
    simp only at h
    split at h
    · rename_i x y hx
      split at h
      · rename_i k x' k' y' hx' hy'
        have ha : args = #[x, y] := by apply Array.ext'; exact hx
        subst ha
        obtain ⟨e1, _⟩ := hev x (by simp [Call.operands]) _ hx'
        obtain ⟨e2, _⟩ := hev y (by simp [Call.operands]) _ hy'
        refine wp_value ?_ (hK.pure (v := V.c (.int k (if y' < x' then y' else x'))) trivial h)
        simp only [execOp, resolve, Sem.run_bind, Sem.run_pure, Result.andThen, invoke, builtin]
        simp [e1, e2, V.den, A.den, C.den, Builtin.min_, Builtin.min2, Result.andThen]
      · exact h.elim
    · exact h.elim
  · exact h.elim
theorem rd_nodefer {H : Hnd} {s : S} {op : Op} {K : V → List E → Nat → Prop} (h : rd H T L nx s op K) : ∀ c, op ≠ .defer c := by
  rintro c rfl
  exact h
theorem rd_ok (hT : TOK P T) (hH : ∀ g vs K, H g vs L nx K → CallK P n0 g vs L nx K) {s : S} (hp : Hp n0 ρ w L nx) {o : Oper} {K : V → List E → Nat → Prop}
    (hev : ∀ x ∈ o.op.operands, ∀ v, ev s x = some v → a.eval x = v.den ρ ∧ v.wf nx) (h : rd H T L nx s o.op K) (hK : Kont n0 L ρ w nx a o.dst next K) : o.wp P a w next Q := by
  obtain ⟨dst, op, ty, pos, after, guard⟩ := o
  unfold rd at h
  split at h <;> first | exact h.elim | (rename_i hop; simp only at hop; subst hop; simp only at hev hK)
  case h_1 x => -- move
    obtain ⟨v, hv, h1⟩ := onV_iff h
    obtain ⟨e1, e2⟩ := hev x (by simp [Op.operands]) v hv
    exact wp_value (u := v.den ρ) (w' := w) (by simp [execOp, e1]) (hK.pure e2 h1)
  case h_2 x =>
    obtain ⟨v, hv, h1⟩ := onV_iff h
    obtain ⟨e1, e2⟩ := hev x (by simp [Op.operands]) v hv
    exact wp_value (u := v.den ρ) (w' := w) (by simp [execOp, e1]) (hK.pure e2 h1)
  case h_3 c x y =>
    have key : ∀ p : Bool, a.eval c = .bool p → (p = true → onV (ev s x) fun v => K v [] nx) → (p = false → onV (ev s y) fun v => K v [] nx) → (Oper.mk dst (.pick c x y) ty pos after guard).wp P a w next Q := by
      intro p hp1 h1 h2
      cases p with
      | true =>
        obtain ⟨v, hv, h3⟩ := onV_iff (h1 rfl)
        obtain ⟨e1, e2⟩ := hev x (by simp [Op.operands]) v hv
        exact wp_value (u := v.den ρ) (w' := w) (by simp [execOp, hp1, asBool, e1]) (hK.pure e2 h3)
      | false =>
        obtain ⟨v, hv, h3⟩ := onV_iff (h2 rfl)
        obtain ⟨e1, e2⟩ := hev y (by simp [Op.operands]) v hv
        exact wp_value (u := v.den ρ) (w' := w) (by simp [execOp, hp1, asBool, e1]) (hK.pure e2 h3)
    split at h
    · rename_i hc
      exact key true (hev c (by simp [Op.operands]) _ hc).1 (fun _ => h) (fun hh => by cases hh)
    · rename_i hc
      exact key false (hev c (by simp [Op.operands]) _ hc).1 (fun hh => by cases hh) (fun _ => h)
    · rename_i p hc
      exact key p (hev c (by simp [Op.operands]) _ hc).1 h.1 h.2
    · exact h.elim
  case h_4 t => -- alloc
    obtain ⟨d, hd, h1⟩ := onV_iff h
    have hd' := lookT_ok hT hd
    obtain ⟨z, hz1, hz2⟩ := run_zero (w := w) hd'
    obtain ⟨_, _, _, _, _, _, _, _, hzw, _⟩ := hd'
    have hw1 : ∀ c ∈ d.zero, c.wf nx := fun c hc => C.wf_mono (Nat.zero_le _) (hzw c hc)
    refine wp_value (u := V.den (ρ.put nx (some ⟨w.heap.size, 0, none⟩) 0) (V.c (.ptr nx 0))) (w' := w.alloc (.cells (d.zero.map (C.den ρ)).toArray t)) ?_ (hK _ _ _ _ _ h1 (by omega) (Nat.lt_succ_self nx) (Env.put_agr _ _ _ _) ((Below.refl _ _).alloc (Nat.le_refl _) _) (own_new t hw1 hp.base))
    simp only [execOp, Instr.alloc, Sem.run_bind, hz1, Result.andThen, newVar, hz2 ρ, run_newRow, Sem.run_pure]
    simp [V.den, A.den, C.den, ptrD, Env.put_same, Addr.add]
  case h_5 t x => -- box
    split at h
    · rename_i v hv
      obtain ⟨e1, e2⟩ := hev x (by simp [Op.operands]) _ hv
      have hw1 := A.cells_wf (c := v) e2
      refine wp_value (u := V.den (ρ.put nx (some ⟨w.heap.size, 0, none⟩) 0) (V.c (.ptr nx 0))) (w' := w.alloc (.cells (v.cells.map (C.den ρ)).toArray t)) ?_ (hK _ _ _ _ _ h (by omega) (Nat.lt_succ_self nx) (Env.put_agr _ _ _ _) ((Below.refl _ _).alloc (Nat.le_refl _) _) (own_new t hw1 hp.base))
      simp only [execOp, Instr.box, e1, Sem.run_bind, Result.andThen, newVar, V.den, A.cells_den (n := nx) (c := v) e2 ρ, run_newRow, Sem.run_pure]
      simp [A.den, C.den, ptrD, Env.put_same, Addr.add]
    · exact h.elim
  case h_6 t parts => -- build
    obtain ⟨v, h1, h2, h3⟩ := rdBuild_ok (ρ := ρ) (w := w) (a := a) (nx := nx) hT (fun p hp' v hv => hev p.2 (by simp [Op.operands]; exact ⟨p.1, by simpa using hp'⟩) v hv) h
    exact wp_value (run_v h3) (hK.pure h2 h1)
  case h_7 t n parts =>
    obtain ⟨v, new, nx', ρ', w', h1, h2, h3, h4, h5, h6, h7⟩ := rdBuildS_ok (L := L) (ρ := ρ) (w := w) (a := a) (nx := nx) hT hp.base (fun p hp' v hv => hev p.2 (by simp [Op.operands]; exact ⟨p.1, by simpa using hp'⟩) v hv) h
    exact wp_value (run_v h7) (hK v new nx' ρ' w' h1 h2 h3 h4 h5 h6)
  case h_8 t x => -- load
    obtain ⟨d, hd, h1⟩ := onV_iff h
    obtain ⟨v, u, hu, h2, h3, h4⟩ := rdLoad_ok hp (lookT_ok hT hd) h1
    obtain ⟨e1, _⟩ := hev x (by simp [Op.operands]) u hu
    rw [← e1] at h4
    exact wp_value (run_v h4) (hK.pure h3 h2)
  case h_9 op t x y ty' =>
    obtain ⟨c, u, v, hu, hv, h2, h3, h4, h5⟩ := rdBinL_ok hT hp h
    obtain ⟨e1, _⟩ := hev x (by simp [Op.operands]) u hu
    obtain ⟨e2, _⟩ := hev y (by simp [Op.operands]) v hv
    refine wp_value (u := c.den ρ) (w' := w) ?_ (hK.pure (v := V.c c) (h3 nx) h2)
    simp only [execOp, e1, e2, Sem.run_bind, h5, Result.andThen, h4, Sem.run_pure]
  case h_10 op t x =>
    obtain ⟨v, u, hu, h2, h3, h4⟩ := rdUn_ok (ρ := ρ) (w := w) (P := P) (nx := nx) h
    obtain ⟨e1, _⟩ := hev x (by simp [Op.operands]) u hu
    rw [← e1] at h4
    exact wp_value (run_v h4) (hK.pure h3 h2)
  case h_11 t t' x =>
    obtain ⟨v, u, hu, h2, h3, h4⟩ := rdConv_ok (ρ := ρ) (w := w) (nx := nx) hT h
    obtain ⟨e1, _⟩ := hev x (by simp [Op.operands]) u hu
    rw [← e1] at h4
    exact wp_value (run_v h4) (hK.pure h3 h2)
  case h_12 t x f =>
    obtain ⟨v, u, hu, h2, h3, h4⟩ := rdFldA_ok (w := w) hT hp h
    obtain ⟨e1, e2⟩ := hev x (by simp [Op.operands]) u hu
    rw [← e1] at h4
    exact wp_value (run_v h4) (hK.pure (h3 e2) h2)
  case h_13 t x f =>
    obtain ⟨v, u, hu, h2, h3, h4⟩ := rdFld_ok (ρ := ρ) (w := w) (nx := nx) hT (fun u hu => (hev x (by simp [Op.operands]) u hu).2) h
    obtain ⟨e1, e2⟩ := hev x (by simp [Op.operands]) u hu
    rw [← e1] at h4
    exact wp_value (run_v h4) (hK.pure h3 h2)
  case h_14 t x i =>
    obtain ⟨v, u, j, hu, hj, h2, h3, h4⟩ := rdIdxA_ok (w := w) hT hp h
    obtain ⟨e1, e2⟩ := hev x (by simp [Op.operands]) u hu
    obtain ⟨e3, _⟩ := hev i (by simp [Op.operands]) j hj
    rw [← e1, ← e3] at h4
    exact wp_value (run_v h4) (hK.pure (h3 e2) h2)
  case h_15 t x i =>
    obtain ⟨v, u, j, hu, hj, h2, h3, h4⟩ := rdIdx_ok (ρ := ρ) (w := w) (nx := nx) hT (fun u hu => (hev x (by simp [Op.operands]) u hu).2) h
    obtain ⟨e1, e2⟩ := hev x (by simp [Op.operands]) u hu
    obtain ⟨e3, _⟩ := hev i (by simp [Op.operands]) j hj
    rw [← e1, ← e3] at h4
    exact wp_value (run_v h4) (hK.pure h3 h2)
  case h_16 x i =>
    split at h
    · rename_i l hl
      obtain ⟨c, hc, h1⟩ := onV_iff h
      obtain ⟨e1, e2⟩ := hev x (by simp [Op.operands]) _ hl
      refine wp_value (u := c.den ρ) (w' := w) ?_ (hK.pure (v := .a c) (e2 c (List.mem_of_getElem? hc)) h1)
      simp [execOp, Instr.extract, e1, V.den, hc, Result.andThen]
    · exact h.elim
  case h_17 t l c =>
    obtain ⟨u, u', v, new, nx', ρ', w', hu, hu', h1, h2, h3, h4, h5, h6, h7⟩ := rdMake_ok (L := L) (ρ := ρ) (w := w) (nx := nx) hT hp.base h
    obtain ⟨e1, _⟩ := hev l (by simp [Op.operands]) u hu
    obtain ⟨e3, _⟩ := hev c (by simp [Op.operands]) u' hu'
    rw [← e1, ← e3] at h7
    exact wp_value (run_v h7) (hK v new nx' ρ' w' h1 h2 h3 h4 h5 h6)
  case h_18 t x lo hi =>
    obtain ⟨v, new, nx', ρ', h1, h2, h3, h4, h6, h7⟩ := rdSlice_ok (a := a) hT hp (fun y hy v hv => hev y (by
      rcases hy with rfl | rfl | rfl <;> simp [Op.operands]) v hv) h
    exact wp_value (run_v h7) (hK v new nx' ρ' w h1 h2 h3 h4 (Below.refl _ _) h6)
  case h_19 f first caps =>
    split at h
    · rename_i hfi
      obtain ⟨vs, hvs, h1⟩ := onV_iff h
      obtain ⟨cp, hcp, h2⟩ := onV_iff h1
      obtain ⟨e1, e2⟩ := evs_ok (a := a) hvs (fun x hx => hev x (by simp [Op.operands]; exact .inr (by simpa using hx)))
      obtain ⟨e3, e4⟩ := capsOf_ok ρ hcp e2
      have hf0 : first = #[] := by apply Array.ext'; exact hfi
      subst hf0
      refine wp_value (u := V.den ρ (V.c (.fn f cp))) (w' := w) ?_ (hK.pure (v := V.c (.fn f cp)) e4 h2)
      have : caps.map a.eval = (cp.map (ptrD ρ)).toArray := by apply Array.ext'; rw [← e3, ← e1]; simp
      simp [execOp, Instr.makeFunc, V.den, A.den, C.den, this, Result.andThen]
    · exact h.elim
  case h_20 x =>
    split at h
    · rename_i l o hx
      obtain ⟨e, he, h0, h1⟩ := onV_iff h
      obtain ⟨e1, e2⟩ := hev x (by simp [Op.operands]) _ hx
      obtain ⟨hok, hl, hm⟩ := hp.entry he
      obtain ⟨b, off, ha⟩ := hok.addr h0
      rw [hl] at ha
      refine wp_value (u := V.den ρ (V.c (.ptr l o))) (w' := w) ?_ (hK.pure (v := V.c (.ptr l o)) e2 h1)
      simp [execOp, e1, V.den, A.den, C.den, ptrD, ha]
    · rename_i f cp hx
      obtain ⟨e1, e2⟩ := hev x (by simp [Op.operands]) _ hx
      refine wp_value (u := V.den ρ (V.c (.fn f cp))) (w' := w) ?_ (hK.pure (v := V.c (.fn f cp)) e2 h)
      simp [execOp, e1, V.den, A.den, C.den]
    · exact h.elim
  case h_21 c => exact rdCall_ok hT hH hp hev h hK
  case h_22 t x i ok =>
    obtain ⟨u, j, v, hu, hj, h2, h3, h4⟩ := rdLook_ok hT hp h
    obtain ⟨e1, e2⟩ := hev x (by simp [Op.operands]) u hu
    obtain ⟨e3, _⟩ := hev i (by simp [Op.operands]) j hj
    rw [← e1, ← e3] at h4
    exact wp_value (run_v h4) (hK.pure h3 h2)
  case h_23 t =>
    obtain ⟨v, new, nx', ρ', w', h1, h2, h3, h4, h5, h6, h7⟩ := rdMkMap_ok (L := L) (ρ := ρ) (w := w) (nx := nx) hT hp.base h
    exact wp_value (run_v h7) (hK v new nx' ρ' w' h1 h2 h3 h4 h5 h6)
end

/- Operations that turn memory of the call's own: a store, an append. -/

def updL (L : List E) (l o : Nat) (vs : List C) : List E :=
  match L with
  | [] => []
  | e :: r => (bif Nat.beq e.lab l then ⟨e.lab, e.kd, setL e.cs o vs⟩ else e) :: updL r l o vs
def rmL (L : List E) (l : Nat) : List E :=
  match L with
  | [] => []
  | e :: r => bif Nat.beq e.lab l then rmL r l else e :: rmL r l
def updK (l o : Nat) (vs : List C) (L : List E) (K : List E → Prop) : Prop :=
  match L with
  | [] => K []
  | ⟨lab, kd, cs⟩ :: r => match Nat.beq lab l with
    | true => updK l o vs r fun r' => K (⟨lab, kd, setL cs o vs⟩ :: r')
    | false => updK l o vs r fun r' => K (⟨lab, kd, cs⟩ :: r')
theorem updK_eq (l o : Nat) (vs : List C) : ∀ (L : List E) (K : List E → Prop), updK l o vs L K = K (updL L l o vs)
  | [], K => rfl
  | ⟨lab, kd, cs⟩ :: r, K => by
    simp only [updK, updL]
    cases Nat.beq lab l <;> simp only [updK_eq l o vs r, cond_true, cond_false]
def rmK (l : Nat) (L : List E) (K : List E → Prop) : Prop :=
  match L with
  | [] => K []
  | ⟨lab, kd, cs⟩ :: r => match Nat.beq lab l with
    | true => rmK l r K
    | false => rmK l r fun r' => K (⟨lab, kd, cs⟩ :: r')
theorem rmK_eq (l : Nat) : ∀ (L : List E) (K : List E → Prop), rmK l L K = K (rmL L l)
  | [], K => rfl
  | ⟨lab, kd, cs⟩ :: r, K => by
    simp only [rmK, rmL]
    cases Nat.beq lab l <;> simp only [rmK_eq l r, cond_true, cond_false]
theorem updL_mem {L : List E} {l o : Nat} {vs : List C} {x : E} (h : x ∈ updL L l o vs) : ∃ e ∈ L, (e.lab = l ∧ x = ⟨e.lab, e.kd, setL e.cs o vs⟩) ∨ (e.lab ≠ l ∧ x = e) := by
  induction L with
  | nil => simp [updL] at h
  | cons e r ih =>
    simp only [updL, List.mem_cons] at h
    rcases h with h | h
    · refine ⟨e, by simp, ?_⟩
      cases hb : Nat.beq e.lab l with
      | true => rw [hb] at h; exact .inl ⟨Nat.eq_of_beq_eq_true hb, h⟩
      | false => rw [hb] at h; exact .inr ⟨fun he => by rw [he] at hb; simp at hb, h⟩
    · obtain ⟨e', h1, h2⟩ := ih h; exact ⟨e', by simp [h1], h2⟩
theorem rmL_mem {L : List E} {l : Nat} {x : E} (h : x ∈ rmL L l) : x ∈ L ∧ x.lab ≠ l := by
  induction L with
  | nil => simp [rmL] at h
  | cons e r ih =>
    simp only [rmL] at h
    cases hb : Nat.beq e.lab l with
    | true => rw [hb] at h; have := ih h; exact ⟨by simp [this.1], this.2⟩
    | false =>
      rw [hb] at h
      simp only [cond_false, List.mem_cons] at h
      rcases h with rfl | h
      · exact ⟨by simp, fun he => by rw [he] at hb; simp at hb⟩
      · have := ih h; exact ⟨by simp [this.1], this.2⟩
section
variable {P : Program} {T : List (Nat × TD)} {w w' : World} {n0 : Nat} {ρ : Env} {L : List E} {nx : Nat} {a : Act} {next : Act → World → Prop} {Q : Exit → Act → World → Prop}
theorem EOK.kept {e : E} {row : Option Nat} (h : EOK n0 ρ w e) (hg : w.grownBy w' row) (hne : (e.kd.isFl = true → e.cs ≠ []) → ∀ b, blk ρ e.lab = some b → some b ≠ row) : EOK n0 ρ w' e := by
  obtain ⟨lab, kd, cs⟩ := e
  cases kd with
  | ro z =>
    refine ⟨fun hc => ?_, h.2⟩
    obtain ⟨b, off, e1, e2, e3⟩ := h.1 hc
    have hb : w'.heap[b]? = w.heap[b]? := hg.block b e2 (hne (fun _ hn => hc (by simp only at hn; simp [hn])) b (by simp [blk, e1]))
    exact ⟨b, off, e1, Nat.lt_of_lt_of_le e2 hg.size, fun i hi => (World.cell?_of_block (a := ⟨b, off + i, none⟩) hb).trans (e3 i hi)⟩
  | own t =>
    obtain ⟨b, e1, e2, e3⟩ := h
    exact ⟨b, e1, e2, (hg.block b (Array.getElem?_eq_some_iff.1 e3).1 (hne (fun hr => by cases hr) b (by simp [blk, e1]))).trans e3⟩
  | vec t z =>
    obtain ⟨n, hw⟩ := h
    refine ⟨n, hw.kept hg ?_⟩
    simp only
    cases ha : (ρ lab).1 with
    | none => left; simp [Value.ownBlock]
    | some x => right; simp only [Value.ownBlock]; exact hne (fun hr => by cases hr) x.block (by simp [blk, ha])
  | obj o =>
    obtain ⟨b, e1, e2, e3, e4⟩ := h
    exact ⟨b, e1, e2, (hg.block b (Array.getElem?_eq_some_iff.1 e3).1 (hne (fun hr => by cases hr) b (by simp [blk, e1]))).trans e3, e4⟩
  | mp own ks f =>
    obtain ⟨b, es, ck, e1, e2, e3, e4⟩ := h
    exact ⟨b, es, ck, e1, e2, (hg.block b (Array.getElem?_eq_some_iff.1 e3).1 (hne (fun hr => by cases hr) b (by simp [blk, e1]))).trans e3, e4⟩
/-- A row's block holds cells. -/
theorem owns_cells {e : TypeId} {z n : Nat} {v : Value} {xs : List Value} (h : rowO w n0 e z v n xs) {b : Nat} (hb : v.ownBlock = some b) : ∀ o, w.heap[b]? = some o → isStO o = false := by
  intro o ho
  rcases h.2 with ⟨h1, _⟩ | ⟨g, off, cap, cur, h1, _, h3, _⟩
  · rw [h1] at hb; cases hb
  · rw [h1] at hb; cases hb; rw [h3] at ho; cases ho; rfl
theorem EOK.cellsB {e : E} (h : EOK n0 ρ w e) (hk : e.kd.isRo = false) (hj : 0 < e.cs.length) {b : Nat} (hb : blk ρ e.lab = some b) : ∀ o, w.heap[b]? = some o → isStO o = false := by
  obtain ⟨lab, kd, cs⟩ := e
  cases kd with
  | ro z => cases hk
  | own t =>
    obtain ⟨b', e1, _, e3⟩ := h
    simp only [blk, e1, Option.map_some, Option.some.injEq] at hb
    subst hb
    intro o ho; rw [e3] at ho; cases ho; rfl
  | vec t z =>
    obtain ⟨n, hw⟩ := h
    refine owns_cells hw ?_
    simp only [blk] at hb
    obtain ⟨a, ha, hab⟩ := Option.map_eq_some_iff.1 hb
    simp only [ha, Value.ownBlock, hab]
  | obj o =>
    obtain ⟨_, _, _, _, _, e5⟩ := h
    simp only at e5 hj; subst e5; simp at hj
  | mp own ks f =>
    obtain ⟨_, _, _, _, _, _, _, e5⟩ := h
    simp only at e5 hj; subst e5; simp at hj
theorem grown_trans {w1 w2 w3 : World} {row : Option Nat} (h : w1.grownBy w2 row) (h' : w2.grownBy w3 row) : w1.grownBy w3 row :=
  ⟨h'.os.trans h.os, h'.tape.trans h.tape, h'.output.trans h.output, Nat.le_trans h.size h'.size, fun k hk hr => (h'.block k (Nat.lt_of_lt_of_le hk h.size) hr).trans (h.block k hk hr)⟩
theorem heap_set {b i : Nat} {c : Array Value} {t : TypeId} {f : Nat × Nat} (h : w.heap[b]? = some (.cells c t f)) (v : Value) : (w.setCell ⟨b, i, none⟩ v).heap[b]? = some (.cells (c.setIfInBounds i v) t f) := by
  simp [World.setCell, Array.getElem?_modify, h]
theorem store_one {e : E} (h : EOK n0 ρ w e) (hk : e.kd.isRo = false) {j : Nat} (hj : j < e.cs.length) {c : C} (hc : c.wf nx) :
    ∃ b off, (ρ e.lab).1 = some ⟨b, off, none⟩ ∧ n0 ≤ b ∧ (store ⟨b, off + j, none⟩ (c.den ρ)).run P w = .ok () (w.setCell ⟨b, off + j, none⟩ (c.den ρ)) ∧ EOK n0 ρ (w.setCell ⟨b, off + j, none⟩ (c.den ρ)) ⟨e.lab, e.kd, e.cs.set j c⟩ ∧ w.grownBy (w.setCell ⟨b, off + j, none⟩ (c.den ρ)) (some b) := by
  obtain ⟨lab, kd, cs⟩ := e
  cases kd with
  | ro z => cases hk
  | own t =>
    obtain ⟨b, e1, e2, e3⟩ := h
    refine ⟨b, 0, e1, e2, ?_, ⟨b, e1, e2, ?_⟩, ⟨rfl, rfl, rfl, by simp, fun k _ hne => Below.heap_setCell _ _ _ _ (fun he => hne (by rw [he]))⟩⟩
    · rw [Nat.zero_add]
      have hcell : w.cell? ⟨b, j, none⟩ = some ((cs[j]'hj).den ρ) := by
        rw [cell_of_row w b j _ t (0, 0) e3]; simp only at hj; simp [hj]
      rw [run_store P w _ _ _ (C.one hc ρ), hcell]
      simp [World.frozen?, e3]
    · rw [Nat.zero_add, heap_set e3]; simp [List.map_set]
  | vec t z =>
    obtain ⟨n, hw⟩ := h
    simp only at hj hw
    have hl : j < n * z := by rw [← hw.1]; simpa using hj
    rcases hw.2 with ⟨h1, h2⟩ | ⟨g, off, cap, cur, h1, h2, h3, _⟩
    · subst h2; simp at hl
    · have hg : (ρ lab).1 = some ⟨g, off, none⟩ := by injection h1
      have hw' := hw
      rw [hg] at hw'
      obtain ⟨s1, s2⟩ := hw'.stored j (c.den ρ)
      refine ⟨g, off, hg, h2, ?_, ⟨n, ?_⟩, s2⟩
      · have hcell : w.cell? ⟨g, off + j, none⟩ = some ((cs[j]'hj).den ρ) := by rw [hw'.cellAt j hl]; simp [hj]
        rw [run_store P w _ _ _ (C.one hc ρ), hcell]
        simp [hw'.frozenAt (off + j)]
      · simp only [List.map_set, hg]; exact s1
  | obj o =>
    obtain ⟨_, _, _, _, _, e5⟩ := h
    simp only at e5 hj; subst e5; simp at hj
  | mp own ks f =>
    obtain ⟨_, _, _, _, _, _, _, e5⟩ := h
    simp only at e5 hj; subst e5; simp at hj
theorem store_many {b off o : Nat} : ∀ {vs : List C} {i : Nat} {w : World} {e : E}, EOK n0 ρ w e → e.kd.isRo = false → (ρ e.lab).1 = some ⟨b, off, none⟩ → o + i + vs.length ≤ e.cs.length → (∀ c ∈ vs, c.wf nx) →
    ∃ w', (storeCells ⟨b, off + o, none⟩ (vs.map (C.den ρ)) i).run P w = .ok () w' ∧ EOK n0 ρ w' ⟨e.lab, e.kd, setL e.cs (o + i) vs⟩ ∧ w.grownBy w' (some b)
  | [], i, w, e, h, _, _, _, _ => ⟨w, rfl, h, ⟨rfl, rfl, rfl, Nat.le_refl _, fun _ _ _ => rfl⟩⟩
  | c :: r, i, w, e, h, hk, hb, hl, hw => by
    obtain ⟨b', off', f1, f2, f3, f4, f5⟩ := store_one (P := P) h hk (j := o + i) (by simp at hl; omega) (hw c (by simp))
    rw [hb] at f1
    cases f1
    obtain ⟨w', g1, g2, g3⟩ := store_many (vs := r) (i := i + 1) (o := o) f4 hk hb (by simp at hl ⊢; omega) (fun x hx => hw x (by simp [hx]))
    refine ⟨w', ?_, g2, grown_trans f5 g3⟩
    simp only [List.map_cons, storeCells, Sem.run_bind, none_add, Nat.add_assoc, f3, Result.andThen]
    simpa only [Nat.add_assoc] using g1

def muStore (T : List (Nat × TD)) (L : List E) (t : Nat) (x v : Option V) (K : List E → Prop) : Prop :=
  match x, v with
  | some (.a (.c (.ptr l o))), some (.a v) => onV (lookT T t) fun d => onV (find L l) fun e =>
    match e.kd with
    | .ro _ => False
    | .mp _ _ _ => False
    | _ => bif Nat.beq v.cells.length d.size && Nat.blt 0 d.size then o + d.size ≤ e.cs.length ∧ updK l o v.cells L K else False
  | _, _ => False
theorem muStore_ok (hT : TOK P T) (hp : Hp n0 ρ w L nx) {t : TypeId} {x v : Option V} {K : List E → Prop} (hv : ∀ u, v = some u → u.wf nx) (h : muStore T L t x v K) :
    ∃ u u' w' L', x = some u ∧ v = some u' ∧ K L' ∧ Hp n0 ρ w' L' nx ∧ Keep n0 Cx.top w w' ∧ (Instr.storeAt t (u.den ρ) (u'.den ρ)).run P w = .ok () w' := by
  unfold muStore at h
  split at h
  · rename_i l o v
    obtain ⟨d, hd, h1⟩ := onV_iff h
    obtain ⟨e, he, h2⟩ := onV_iff h1
    clear h h1
    have hk : e.kd.isRo = false ∧ (v.cells.length = d.size ∧ 0 < d.size ∧ o + d.size ≤ e.cs.length) ∧ K (updL L l o v.cells) := by
      split at h2
      · exact h2.elim
      · exact h2.elim
      · rename_i hne hnm
        have h3 : (v.cells.length = d.size ∧ 0 < d.size ∧ o + d.size ≤ e.cs.length) ∧ K (updL L l o v.cells) := by
          cases hb : (Nat.beq v.cells.length d.size && Nat.blt 0 d.size) with
          | false => rw [hb] at h2; exact h2.elim
          | true =>
            rw [hb] at h2
            simp only [Bool.and_eq_true] at hb
            exact ⟨⟨Nat.eq_of_beq_eq_true hb.1, Nat.le_of_ble_eq_true hb.2, h2.1⟩, by have h4 := h2.2; rw [updK_eq] at h4; exact h4⟩
        refine ⟨?_, h3⟩
        cases hkd : e.kd with
        | ro z => exact absurd hkd (hne z)
        | own t => rfl
        | vec t z => rfl
        | obj o => rfl
        | mp own ks f => exact absurd hkd (hnm own ks f)
    clear h2
    obtain ⟨hro, ⟨h3, h3', h4⟩, hK⟩ := hk
    obtain ⟨hok, hl, hm⟩ := hp.entry he
    have hvw : (V.a v).wf nx := hv _ rfl
    have hcw := A.cells_wf (c := v) hvw
    obtain ⟨b, off, f1, f2, _⟩ := store_one (P := P) (c := .tt) (nx := nx) hok hro (j := o) (by omega) trivial
    obtain ⟨w', g1, g2, g3⟩ := store_many (P := P) (vs := v.cells) (i := 0) (o := o) hok hro f1 (by omega) hcw
    rw [hl] at f1
    refine ⟨_, _, w', _, rfl, rfl, hK, ?_, Keep.row g3 (fun b' hb' => by cases hb'; exact ⟨f2, EOK.cellsB hok hro (by omega) (by simp [blk, hl, f1])⟩) hp.base, ?_⟩
    · refine ⟨Nat.le_trans hp.base g3.size, ?_, ?_, ?_, ?_⟩
      · intro y hy
        obtain ⟨e', he', ⟨h5, rfl⟩ | ⟨h5, rfl⟩⟩ := updL_mem hy
        · have := hp.fn e hm e' he' (h5.trans hl.symm)
          subst this
          exact g2
        · refine (hp.ok y he').kept g3 (fun hcs b' hb' => ?_)
          intro heq
          cases heq
          exact hp.apart e hm y he' hro (by rw [hl]; exact h5) hcs b (by simp [blk, hl, f1]) hb'
      · intro y hy
        obtain ⟨e', he', ⟨h5, rfl⟩ | ⟨h5, rfl⟩⟩ := updL_mem hy
        · exact ⟨(hp.wf e' he').1, setL_mem _ _ _ (hp.wf e' he').2 hcw⟩
        · exact hp.wf y he'
      · intro y hy z hz hyz
        obtain ⟨e1, he1, ⟨h5, rfl⟩ | ⟨h5, rfl⟩⟩ := updL_mem hy <;> obtain ⟨e2, he2, ⟨h6, rfl⟩ | ⟨h6, rfl⟩⟩ := updL_mem hz
        · have := hp.fn e1 he1 e2 he2 (h6.trans h5.symm); rw [this]
        · exact absurd (hyz.trans h5) h6
        · exact absurd (hyz.symm.trans h6) h5
        · exact hp.fn y he1 z he2 hyz
      · intro y hy z hz hyr hne hcs b' hb' hb2
        obtain ⟨e1, he1, ⟨h5, rfl⟩ | ⟨h5, rfl⟩⟩ := updL_mem hy <;> obtain ⟨e2, he2, ⟨h6, rfl⟩ | ⟨h6, rfl⟩⟩ := updL_mem hz
        · exact hne (h6.trans h5.symm)
        · exact hp.apart e1 he1 z he2 hyr hne hcs b' hb' hb2
        · exact hp.apart y he1 e2 he2 hyr hne (fun hr h0 => hcs hr (by have hlen := setL_length v.cells e2.cs o; exact List.length_eq_zero_iff.1 (by rw [hlen, h0]; rfl))) b' hb' hb2
        · exact hp.apart y he1 z he2 hyr hne hcs b' hb' hb2
    · have hsz : (v.den ρ).cells.size = d.size := by rw [A.cells_den (c := v) hvw ρ]; simpa using h3
      have hx : V.den ρ (V.a (A.c (C.ptr l o))) = .pointer (some ⟨b, off + o, none⟩) := by simp [V.den, A.den, C.den, ptrD, f1, none_add]
      rw [hx]
      show (Instr.storeAt t _ (v.den ρ)).run P w = _
      simp only [Instr.storeAt, Instr.sureAddr, storeVar, Sem.run_bind, Sem.run_pure, Result.andThen, run_size (lookT_ok hT hd), hsz, ne_eq, not_true, if_false, A.cells_den (n := nx) (c := v) hvw ρ]
      have hsz' : (v.cells.map (C.den ρ)).toArray.size = d.size := by simpa using h3
      simp only [hsz', not_true, if_false]
      exact g1
  · exact h.elim

/-- append: onto nil or onto a row of the call's own. -/
def muApp (T : List (Nat × TD)) (L : List E) (nx : Nat) (t t' : Nat) (x y : Option V) (K : V → List E → Nat → Prop) : Prop :=
  onV (lookT T t) fun d =>
  match d.kd, x, y with
  | .sl e, some (.a (.c (.sl l n))), some (.a (.c (.sl l2 m))) => onV (lookT T e) fun de => onV (find L l) fun en => onV (find L l2) fun en2 =>
    (match en.kd with
    | .vec e' z => (t = t' ∧ e' = e ∧ z = de.size ∧ 0 < de.size ∧ en.cs.length = n * z ∧ m * z ≤ en2.cs.length ∧ n + m ≤ 1000000 ∧ de.bytes ≤ 1000000) ∧ rmK l L fun L' => K (V.c (.sl nx (n + m))) (⟨nx, .vec e z, en.cs ++ en2.cs.take (m * z)⟩ :: L') (nx + 1)
    | _ => False)
  | .sl e, some (.a (.c .nil)), some (.a (.c (.sl l2 m))) => onV (lookT T e) fun de => onV (find L l2) fun en2 =>
    (t = t' ∧ 0 < de.size ∧ m * de.size ≤ en2.cs.length ∧ m ≤ 1000000 ∧ de.bytes ≤ 1000000) ∧ K (V.c (.sl nx m)) (⟨nx, .vec e de.size, en2.cs.take (m * de.size)⟩ :: L) (nx + 1)
  | _, _, _ => False
theorem run_append_nilsrc {t e : TypeId} {size : Nat} (hu : P.underlying t = some (.slice e)) (hs : (sizeOf e).run P w = .ok size w) (ty : TypeId) (b : Option Addr) (n cap c : Nat) (h : n ≤ cap) :
    (Builtin.append_ #[t, t] ty #[.slice b n cap, .slice none 0 c]).run P w = .ok (.slice b n cap) w := by
  have h0 : ∀ x : TypeDesc, x = .slice e → (match x with | .int _ => true | _ => false) = false := by intro x hx; subst hx; rfl
  cases b <;> simp [Builtin.append_, run_und hu, hs, Builtin.lenOf, Builtin.firstCells, h, storeCells, Result.andThen]
/-- append onto a row of the call's own, from whatever place of its block on (the kit's 'run_append_own_at', widened). -/
theorem run_append_o (w : World) (base : Nat) (t ty e : TypeId) (i : TypeInfo) (z : Value) (size bytes : Nat) (ht : P.underlying t = some (.slice e)) (hi : P.info? e = some i) (hz : i.zero = some z)
    (hsize : i.size = size) (hby : i.bytes = bytes) (hzs : z.cells.size = size) (hsz : 0 < size)
    (v : Value) (n : Nat) (xs : List Value) (hown : rowO w base e size v n xs)
    (a : Addr) (m c : Nat) (news : List Value) (hl : news.length = m * size) (hnews : ∀ j u, news[j]? = some u → w.cell? (a.add j) = some u) (h1 : ∀ u ∈ news, u.oneCell' = true)
    (h63 : n + m ≤ maxLen) (hbytes : (n + m) * bytes ≤ 140737488355328) (hbase : base ≤ w.heap.size) :
    ∃ v' w', (Builtin.append_ #[t, t] ty #[v, .slice (some a) m c]).run P w = .ok v' w' ∧ rowO w' base e size v' (n + m) (xs ++ news) ∧ w.grownBy w' v.ownBlock ∧
      (v'.ownBlock = v.ownBlock ∨ v'.ownBlock = some w.heap.size) := by
  rcases hown.2 with hn | ⟨g, off, cap, cur, hv, hbg, hg, hnc, hcm, hcs, htake⟩
  · obtain ⟨v', w', h2, h3, h4, _, h6⟩ := run_append_own_at (P := P) w base t ty e i z size bytes ht hi hz hsize hby hzs hsz v n xs ⟨hown.1, .inl hn⟩ a m c news hl hnews h1 h63 hbytes hbase
    exact ⟨v', w', h2, rowO.of h3, h4, h6⟩
  · subst hsize
    subst hby
    have hlen : (xs ++ news).length = (n + m) * i.size := by rw [List.length_append, hown.1, hl, Nat.add_mul]
    subst hv
    by_cases hroom : n + m ≤ cap
    · have hmul : (n + m) * i.size ≤ cap * i.size := Nat.mul_le_mul_right _ hroom
      have hmul2 : (n + m) * i.size = n * i.size + m * i.size := Nat.add_mul _ _ _
      have hf := run_firstCells_some (P := P) w i.size m a m c news hl hnews
      have hst := run_storeCells_at P g (off + n * i.size) e news 0 cur w hg (by omega) h1
      simp only [Nat.add_zero] at hst
      have hadd : (⟨g, off, none⟩ : Addr).add (n * i.size) = ⟨g, off + n * i.size, none⟩ := by unfold Addr.add; split <;> simp_all
      refine ⟨.slice (some ⟨g, off, none⟩) (n + m) cap, w.setRow g (cur.toList.take (off + n * i.size) ++ news ++ cur.toList.drop (off + n * i.size + news.length)).toArray, ?_, ⟨hlen, .inr ⟨g, off, cap, _, rfl, hbg, setRow_heap w g cur _ e _ hg, hroom, hcm, ?_, ?_⟩⟩, ⟨rfl, rfl, rfl, by simp, fun k _ hk => setRow_other w g k _ (fun e => hk (by simp [Value.ownBlock, e]))⟩, .inl rfl⟩
      · simp [Builtin.append_, run_underlying ht, sizeOf, typeInfo, hi, Builtin.lenOf, hroom, hf, hadd, hst]
      · simp only [List.size_toArray, List.length_append, List.length_take, List.length_drop, Array.length_toList]
        omega
      · have hto : (cur.toList.take (off + n * i.size)).drop off = xs := by rw [List.drop_take, ← htake]; congr 1; omega
        have hle : off ≤ (cur.toList.take (off + n * i.size)).length := by rw [List.length_take, Array.length_toList]; omega
        rw [List.append_assoc, List.drop_append_of_le_length hle, hto, ← List.append_assoc, ← hlen]
        exact List.take_left
    · have hge := grownCap_ge w (n + m) cap e
      have hcm' : grownCap w (n + m) cap e ≤ maxLen := grownCap_le_maxLen w (n + m) cap e h63
      have hr := run_append_grow (P := P) w t ty e i z ht hi hz ⟨g, off, none⟩ n cap xs hown.1 hown.cells a m c news hl hnews (by omega) (by simp only [maxLen] at h63; omega) (growslice_fits (by omega) hbytes)
      refine ⟨_, _, hr, ⟨hlen, .inr ⟨w.heap.size, 0, _, _, rfl, hbase, heap_alloc_new w.drew _, hge, hcm', ?_, ?_⟩⟩, ⟨rfl, rfl, rfl, by simp, fun k hk _ => (by show (w.drew.heap.push _)[k]? = w.heap[k]?; rw [Array.getElem?_push, if_neg (Nat.ne_of_lt (show k < w.drew.heap.size from hk))]; rfl)⟩, .inr rfl⟩
      · simp only [Array.size_append, List.size_toArray, size_zeroCells, hzs, hown.1, hl, ← Nat.add_mul]
        rw [Nat.zero_add]
        exact Nat.mul_le_mul_right _ (by omega)
      · simp only [List.drop_zero, Array.toList_append, List.append_assoc]
        rw [← List.append_assoc, ← hlen]
        exact List.take_left
/-- The row that is appended to, and what is appended. -/
theorem app_run (hT : TOK P T) (hp : Hp n0 ρ w L nx) {t e : TypeId} {de : TD} (hu : P.underlying t = some (.slice e)) (hde : lookT T e = some de) (h0 : 0 < de.size) {v : Value} {n : Nat} {xs : List C} (hxs : ∀ c ∈ xs, c.wf nx)
    (hown : rowO w n0 e de.size v n (xs.map (C.den ρ))) {en2 : E} {m : Nat} (hm : en2 ∈ L) (hml : m * de.size ≤ en2.cs.length) (hnm : n + m ≤ 1000000) (hby : de.bytes ≤ 1000000) (ty : TypeId) (c : Nat) :
    ∃ ao cap w', (Builtin.append_ #[t, t] ty #[v, .slice (ρ en2.lab).1 m c]).run P w = .ok (.slice ao (n + m) cap) w' ∧ rowO w' n0 e de.size (.slice ao (n + m) cap) (n + m) ((xs ++ en2.cs.take (m * de.size)).map (C.den ρ)) ∧
      w.grownBy w' v.ownBlock ∧ (∀ b, ao.map (·.block) = some b → v.ownBlock = some b ∨ b = w.heap.size) := by
  have hde' := lookT_ok hT hde
  obtain ⟨i, z, hi, hsz, hbz, hz, hzc, hzl, hzw, _⟩ := lookT_ok hT hde
  have hok := hp.ok en2 hm
  by_cases hm0 : 0 < m
  · have hlen : 0 < en2.cs.length := Nat.lt_of_lt_of_le (Nat.mul_pos hm0 h0) hml
    obtain ⟨b, off, ha⟩ := hok.addr hlen
    have hnews : ∀ j u, ((en2.cs.take (m * de.size)).map (C.den ρ))[j]? = some u → w.cell? ((⟨b, off, none⟩ : Addr).add j) = some u := by
      intro j u hj
      rw [List.getElem?_map] at hj
      obtain ⟨c', hc', rfl⟩ := Option.map_eq_some_iff.1 hj
      have hc2 : en2.cs[j]? = some c' := by
        rw [List.getElem?_take] at hc'
        split at hc'
        · exact hc'
        · cases hc'
      obtain ⟨b', off', f1, _, f3⟩ := hok.read hc2
      rw [ha] at f1; cases f1
      rw [none_add]; exact f3
    have h1 : ∀ u ∈ (en2.cs.take (m * de.size)).map (C.den ρ), u.oneCell' = true := by
      intro u hu'
      obtain ⟨c', hc', rfl⟩ := List.mem_map.1 hu'
      exact C.one ((hp.wf en2 hm).2 c' (List.mem_of_mem_take hc')) ρ
    obtain ⟨v', w', hr, h2, h3, h5⟩ := run_append_o (P := P) w n0 t ty e i z de.size de.bytes hu hi hz hsz hbz (by rw [hzc ρ]; simpa using hzl) h0 v n (xs.map (C.den ρ)) hown ⟨b, off, none⟩ m c ((en2.cs.take (m * de.size)).map (C.den ρ))
      (by simp; omega) hnews h1 (by unfold maxLen; omega) (by exact Nat.le_trans (Nat.mul_le_mul hnm hby) (by omega)) hp.base
    rw [← List.map_append] at h2
    rcases h2.2 with ⟨_, h6⟩ | ⟨g, off', cap, cur, hv', hg0, hg1, _⟩
    · omega
    · refine ⟨some ⟨g, off', none⟩, cap, w', ?_, by rw [← hv']; exact h2, h3, ?_⟩
      · rw [ha, ← hv']; exact hr
      · intro b' hb'
        simp only [Option.map_some, Option.some.injEq] at hb'
        have hob : v'.ownBlock = some g := by rw [hv']; rfl
        rw [hob] at h5
        rcases h5 with h5 | h5
        · left; rw [← hb', h5]
        · right; rw [← hb']; exact Option.some.inj h5
  · have hm0' : m = 0 := by omega
    subst hm0'
    cases ha : (ρ en2.lab).1 with
    | none =>
      rcases hown.2 with ⟨hv, hn⟩ | ⟨g, off', cap, cur, hv, hg0, hg1, hnc, _⟩
      · subst hv hn
        have hx0 : xs = [] := by have := hown.1; simpa using this
        subst hx0
        exact ⟨none, 0, w, run_append_nilsrc hu (run_size hde') ty none 0 0 c (Nat.le_refl _), by simpa using rowO_nil w n0 e de.size, ⟨rfl, rfl, rfl, Nat.le_refl _, fun _ _ _ => rfl⟩, fun b hb => by cases hb⟩
      · subst hv
        refine ⟨_, cap, w, run_append_nilsrc hu (run_size hde') ty _ n cap c hnc, by simpa using hown, ⟨rfl, rfl, rfl, Nat.le_refl _, fun _ _ _ => rfl⟩, fun b hb => .inl (by simpa [Value.ownBlock] using hb)⟩
    | some ad =>
      obtain ⟨v', w', hr, h2, h3, h5⟩ := run_append_o (P := P) w n0 t ty e i z de.size de.bytes hu hi hz hsz hbz (by rw [hzc ρ]; simpa using hzl) h0 v n (xs.map (C.den ρ)) hown ad 0 c [] (by simp) (by simp) (by simp)
        (by unfold maxLen; omega) (by exact Nat.le_trans (Nat.mul_le_mul hnm hby) (by omega)) hp.base
      rcases h2.2 with ⟨hv', h6⟩ | ⟨g, off', cap, cur, hv', hg0, hg1, _⟩
      · refine ⟨none, 0, w', ?_, ?_, h3, fun b hb => by cases hb⟩
        · rw [hr, hv', h6]
        · rw [hv'] at h2; rw [h6] at h2 ⊢; simpa using h2
      · refine ⟨some ⟨g, off', none⟩, cap, w', ?_, by rw [← hv']; simpa using h2, h3, ?_⟩
        · rw [← hv']; exact hr
        · intro b' hb'
          simp only [Option.map_some, Option.some.injEq] at hb'
          have hob : v'.ownBlock = some g := by rw [hv']; rfl
          rw [hob] at h5
          rcases h5 with h5 | h5
          · left; rw [← hb', h5]
          · right; rw [← hb']; exact Option.some.inj h5
/-- What is left, once the row is known. -/
theorem Hp.moved (hp : Hp n0 ρ w L nx) : ∀ {e : TypeId} {z : Nat} {cs : List C} {L0 : List E} {v : Value} {ao : Option Addr} {k cap : Nat} {w' : World}, (∀ e ∈ L0, e ∈ L) → (∀ e ∈ L0, (e.kd.isFl = true → e.cs ≠ []) → ∀ b, blk ρ e.lab = some b → some b ≠ v.ownBlock) →
      (∀ c ∈ cs, c.wf nx) → (∀ b, v.ownBlock = some b → n0 ≤ b ∧ ∀ o, w.heap[b]? = some o → isStO o = false) → rowO w' n0 e z (.slice ao k cap) k (cs.map (C.den ρ)) → w.grownBy w' v.ownBlock → (∀ b, ao.map (·.block) = some b → v.ownBlock = some b ∨ b = w.heap.size) →
    Hp n0 (ρ.put nx ao cap) w' (⟨nx, .vec e z, cs⟩ :: L0) (nx + 1) ∧ Keep n0 Cx.top w w' := by
  intro e z cs L0 v ao k cap w' hL0 hap hcs hnb how hg hao
  have hagr := (Env.put_agr ρ nx ao cap).lt
  have hne : ∀ e ∈ L0, e.lab ≠ nx := fun e he => by have := (hp.wf e (hL0 e he)).1; omega
  have hblk : ∀ e ∈ L0, blk (ρ.put nx ao cap) e.lab = blk ρ e.lab := fun e he => by simp only [blk]; rw [hagr e.lab (hp.wf e (hL0 e he)).1]
  have hnew : blk (ρ.put nx ao cap) nx = ao.map (·.block) := by simp only [blk, Env.put_same]
  have hsame : (ρ.put nx ao cap) nx = (ao, cap) := Env.put_same ..
  have hold : ∀ e ∈ L0, EOK n0 (ρ.put nx ao cap) w' e := fun e he => by
    have h2 := (hp.ok e (hL0 e he)).kept hg (hap e he)
    have h3 := hp.wf e (hL0 e he)
    obtain ⟨lab, kd, c0⟩ := e
    cases kd <;> simp only [EOK] at h2 ⊢ <;> (first | rw [hagr lab h3.1, cells_agr hagr h3.2] | rw [hagr lab h3.1]) <;> exact h2
  refine ⟨⟨Nat.le_trans hp.base hg.size, ?_, ?_, ?_, ?_⟩, Keep.row hg hnb hp.base⟩
  · intro y hy
    rcases List.mem_cons.1 hy with rfl | hy
    · refine ⟨k, ?_⟩
      rw [hsame, cells_agr hagr hcs]; exact how
    · exact hold y hy
  · intro y hy
    rcases List.mem_cons.1 hy with rfl | hy
    · exact ⟨Nat.lt_succ_self nx, fun c hc => C.wf_mono (by omega) (hcs c hc)⟩
    · have := hp.wf y (hL0 y hy); exact ⟨by omega, fun c hc => C.wf_mono (by omega) (this.2 c hc)⟩
  · intro y hy y' hy' hyy
    rcases List.mem_cons.1 hy with rfl | hy <;> rcases List.mem_cons.1 hy' with rfl | hy'
    · rfl
    · exact absurd hyy (hne y' hy')
    · exact absurd hyy.symm (hne y hy)
    · exact hp.fn y (hL0 y hy) y' (hL0 y' hy') hyy
  · intro y hy y' hy' hro hlab hcs' b hb hb'
    rcases List.mem_cons.1 hy with rfl | hy <;> rcases List.mem_cons.1 hy' with rfl | hy'
    · exact hlab rfl
    · rw [hnew] at hb
      rw [hblk y' hy'] at hb'
      rcases hao b hb with h5 | h5
      · exact hap y' hy' hcs' b hb' h5.symm
      · have := EOK.lt (hp.ok y' (hL0 y' hy')) hcs' hb'; omega
    · rw [hnew] at hb'
      rw [hblk y hy] at hb
      rcases hao b hb' with h5 | h5
      · exact hap y hy (fun hr => (Kd.ro_fl hro hr).elim) b hb h5.symm
      · have := EOK.lt (hp.ok y (hL0 y hy)) (fun hr => (Kd.ro_fl hro hr).elim) hb; omega
    · rw [hblk y hy] at hb
      rw [hblk y' hy'] at hb'
      exact hp.apart y (hL0 y hy) y' (hL0 y' hy') hro hlab hcs' b hb hb'
theorem muApp_ok (hT : TOK P T) (hp : Hp n0 ρ w L nx) {t t' ty : TypeId} {x y : Option V} {K : V → List E → Nat → Prop} (hx : ∀ u, x = some u → u.wf nx) (h : muApp T L nx t t' x y K) :
    ∃ u u' v L' nx' ρ' w', x = some u ∧ y = some u' ∧ K v L' nx' ∧ nx ≤ nx' ∧ v.wf nx' ∧ AgrLt nx ρ ρ' ∧ Keep n0 Cx.top w w' ∧ Hp n0 ρ' w' L' nx' ∧ (Builtin.append_ #[t, t'] ty #[u.den ρ, u'.den ρ]).run P w = .ok (v.den ρ') w' := by
  obtain ⟨d, hd, h1⟩ := onV_iff h
  clear h
  obtain ⟨_, _, _, _, _, _, _, _, _, hkd⟩ := lookT_ok hT hd
  split at h1
  · rename_i e l n l2 m hk
    obtain ⟨de, hde, h2⟩ := onV_iff h1
    obtain ⟨en, hen, h3⟩ := onV_iff h2
    obtain ⟨en2, hen2, h4⟩ := onV_iff h3
    clear h1 h2 h3
    rw [hk] at hkd
    split at h4
    · rename_i e' z hkv
      obtain ⟨⟨rfl, rfl, rfl, h0, hlen, hml, hnm, hby⟩, hK⟩ := h4
      rw [rmK_eq] at hK
      obtain ⟨hok, hl, hm⟩ := hp.entry hen
      obtain ⟨hok2, hl2, hm2⟩ := hp.entry hen2
      have hown : rowO w n0 e' de.size (.slice (ρ l).1 n (ρ l).2) n (en.cs.map (C.den ρ)) := by
        obtain ⟨lab, kd, cs⟩ := en
        simp only at hkv hl hlen
        subst hkv
        subst hl
        obtain ⟨n', hw⟩ := hok
        have : n' = n := by
          have h5 := hw.1
          simp only [List.length_map, hlen] at h5
          exact (Nat.eq_of_mul_eq_mul_right h0 h5).symm
        rw [← this]; exact hw
      obtain ⟨ao, cap, w', hr, h5, h6, h7⟩ := app_run hT hp hkd hde h0 (hp.wf en hm).2 hown hm2 hml hnm hby ty (ρ l2).2
      rw [hl2] at hr
      have hwf2 : ∀ c ∈ en.cs ++ en2.cs.take (m * de.size), c.wf nx := by
        intro c hc
        rcases List.mem_append.1 hc with hc | hc
        · exact (hp.wf en hm).2 c hc
        · exact (hp.wf en2 hm2).2 c (List.mem_of_mem_take hc)
      have hob : (Value.slice (ρ l).1 n (ρ l).2).ownBlock = blk ρ l := by cases hq : (ρ l).1 <;> simp [Value.ownBlock, blk, hq]
      obtain ⟨g1, g2⟩ := hp.moved (L0 := rmL L l) (fun e he => (rmL_mem he).1) (by
        intro y hy hcs b hb heq
        rw [hob] at heq
        obtain ⟨hy1, hy2⟩ := rmL_mem hy
        exact hp.apart en hm y hy1 (by rw [hkv]; rfl) (by rw [hl]; exact hy2) hcs b (by rw [hl]; exact heq.symm) hb) hwf2 (fun b hb => ⟨(hown.lt b hb).1, owns_cells hown hb⟩) h5 h6 h7
      refine ⟨_, _, _, _, _, ρ.put nx ao cap, w', rfl, rfl, hK, by omega, Nat.lt_succ_self nx, (Env.put_agr ρ nx ao cap).lt, g2, g1, ?_⟩
      simp only [V.den, A.den, C.den, Env.put_same]
      exact hr
    · exact h4.elim
  · rename_i e l2 m hk
    obtain ⟨de, hde, h3⟩ := onV_iff h1
    obtain ⟨en2, hen2, ⟨rfl, h0, hml, hnm, hby⟩, hK⟩ := onV_iff h3
    clear h1 h3
    rw [hk] at hkd
    obtain ⟨hok2, hl2, hm2⟩ := hp.entry hen2
    obtain ⟨ao, cap, w', hr, h5, h6, h7⟩ := app_run hT hp hkd hde h0 (xs := []) (by simp) (rowO_nil w n0 e de.size) hm2 hml (by omega) hby ty (ρ l2).2
    rw [hl2] at hr
    simp only [Nat.zero_add, List.nil_append] at hr h5
    obtain ⟨g1, g2⟩ := hp.moved (L0 := L) (fun e he => he) (by intro y hy hcs b hb heq; cases heq) (fun c hc => (hp.wf en2 hm2).2 c (List.mem_of_mem_take hc)) (fun b hb => by cases hb) h5 h6 h7
    refine ⟨_, _, _, _, _, ρ.put nx ao cap, w', rfl, rfl, hK, by omega, Nat.lt_succ_self nx, (Env.put_agr ρ nx ao cap).lt, g2, g1, ?_⟩
    simp only [V.den, A.den, C.den, Env.put_same]
    exact hr
  · exact h1.elim
/-- x[lo:] and x[:hi] of a row of one's own: the row itself, cut; what was there is gone. -/
def muCut (T : List (Nat × TD)) (L : List E) (nx : Nat) (t : Nat) (x lo : Option V) (K : V → List E → Nat → Prop) : Prop :=
  onV (lookT T t) fun d =>
  match d.kd, x, lo with
  | .sl e, some (.a (.c (.sl l n))), some (.a (.c (.int _ lw))) => onV (lookT T e) fun de => onV (find L l) fun en =>
    (match en.kd with
    | .vec e' z => (z = de.size ∧ 0 < z ∧ 0 ≤ lw ∧ lw.toNat ≤ n ∧ en.cs.length = n * z) ∧ rmK l L fun L' => K (V.c (.sl nx (n - lw.toNat))) (⟨nx, .vec e' z, en.cs.drop (mulS lw.toNat z)⟩ :: L') (nx + 1)
    | _ => False)
  | _, _, _ => False
def muCutH (T : List (Nat × TD)) (L : List E) (nx : Nat) (t : Nat) (x hi : Option V) (K : V → List E → Nat → Prop) : Prop :=
  onV (lookT T t) fun d =>
  match d.kd, x, hi with
  | .sl e, some (.a (.c (.sl l n))), some (.a (.c (.int _ hw))) => onV (lookT T e) fun de => onV (find L l) fun en =>
    (match en.kd with
    | .vec e' z => (z = de.size ∧ 0 < z ∧ 0 ≤ hw ∧ hw.toNat ≤ n ∧ en.cs.length = n * z) ∧ rmK l L fun L' => K (V.c (.sl nx hw.toNat)) (⟨nx, .vec e' z, en.cs.take (mulS hw.toNat z)⟩ :: L') (nx + 1)
    | _ => False)
  | _, _, _ => False
theorem cut_gone {e : E} (hp : Hp n0 ρ w L nx) {l : Nat} (hm : e ∈ L) (hl : e.lab = l) (hro : e.kd.isRo = false) : ∀ y ∈ rmL L l, (y.kd.isFl = true → y.cs ≠ []) → ∀ b, blk ρ y.lab = some b → some b ≠ blk ρ l := by
  intro y hy hcs b hb heq
  obtain ⟨hy1, hy2⟩ := rmL_mem hy
  exact hp.apart e hm y hy1 hro (by rw [hl]; exact hy2) hcs b (by rw [hl]; exact heq.symm) hb
theorem muCut_ok (hT : TOK P T) (hp : Hp n0 ρ w L nx) {t : TypeId} {x lo : Option V} {K : V → List E → Nat → Prop} (h : muCut T L nx t x lo K) :
    ∃ u u' v L' nx' ρ', x = some u ∧ lo = some u' ∧ K v L' nx' ∧ nx ≤ nx' ∧ v.wf nx' ∧ AgrLt nx ρ ρ' ∧ Keep n0 Cx.top w w ∧ Hp n0 ρ' w L' nx' ∧ (Instr.sliceAt t (u.den ρ) (some (u'.den ρ)) none none).run P w = .ok (v.den ρ') w := by
  obtain ⟨d, hd, h1⟩ := onV_iff h
  clear h
  obtain ⟨_, _, _, _, _, _, _, _, _, hkd⟩ := lookT_ok hT hd
  split at h1
  · rename_i e l n kl lw hk
    obtain ⟨de, hde, h2⟩ := onV_iff h1
    obtain ⟨en, hen, h4⟩ := onV_iff h2
    clear h1 h2
    rw [hk] at hkd
    have hsz := run_size (w := w) (lookT_ok hT hde)
    split at h4
    · rename_i e' z hkv
      obtain ⟨⟨hz, h0, hlw, hle, hlen⟩, hK⟩ := h4
      rw [rmK_eq, mulS_eq] at hK
      obtain ⟨hok, hl, hm⟩ := hp.entry hen
      have hcap := hok.cap (z := z) (m := n) (by rw [hkv]; rfl) h0 (by omega)
      rw [hl] at hcap
      have hown : rowO w n0 e' z (.slice (ρ l).1 n (ρ l).2) n (en.cs.map (C.den ρ)) := by
        obtain ⟨lab, kd, cs⟩ := en
        simp only at hkv hl hlen
        subst hkv
        subst hl
        obtain ⟨n', hw⟩ := hok
        have : n' = n := by
          have h5 := hw.1
          simp only [List.length_map, hlen] at h5
          exact (Nat.eq_of_mul_eq_mul_right h0 h5).symm
        rw [← this]; exact hw
      have hcut := hown.cut rfl hle
      rw [← List.map_drop] at hcut
      have hwf2 : ∀ c ∈ en.cs.drop (lw.toNat * z), c.wf nx := fun c hc => (hp.wf en hm).2 c (List.mem_of_mem_drop hc)
      have hob : (Value.slice (ρ l).1 n (ρ l).2).ownBlock = blk ρ l := by cases hq : (ρ l).1 <;> simp [Value.ownBlock, blk, hq]
      obtain ⟨g1, g2⟩ := hp.moved (L0 := rmL L l) (v := .slice (ρ l).1 n (ρ l).2) (fun e he => (rmL_mem he).1) (by rw [hob]; exact cut_gone hp hm hl (by rw [hkv]; rfl)) hwf2 (fun b hb => ⟨(hown.lt b hb).1, owns_cells hown hb⟩) hcut ⟨rfl, rfl, rfl, Nat.le_refl _, fun _ _ _ => rfl⟩ (fun b hb => .inl (by
        rw [hob]
        simp only [blk]
        split at hb
        · exact hb
        · rw [Option.map_map] at hb; rw [← hb]; congr 1; funext x; simp only [Function.comp, Addr.add]; split <;> rfl))
      refine ⟨_, _, _, _, _, _, rfl, rfl, hK, by omega, Nat.lt_succ_self nx, (Env.put_agr ρ nx _ _).lt, g2, g1, ?_⟩
      have := run_sliceAt hkd hsz (ρ l).1 n (ρ l).2 lw.toNat n (some (V.den ρ (V.a (A.c (C.int kl lw))))) none (.inr ⟨kl, by simp only [V.den, A.den, C.den]; congr; omega⟩) (.inl ⟨rfl, rfl⟩) hle hcap
      rw [← hz] at this
      simp only [V.den, A.den, C.den, Env.put_same] at this ⊢
      exact this
    · exact h4.elim
  · exact h1.elim
theorem muCutH_ok (hT : TOK P T) (hp : Hp n0 ρ w L nx) {t : TypeId} {x hi : Option V} {lo : Option Value} (hlo : lo = none ∧ (0 : Nat) = 0 ∨ ∃ k, lo = some (.int k (0 : Nat))) {K : V → List E → Nat → Prop} (h : muCutH T L nx t x hi K) :
    ∃ u u' v L' nx' ρ', x = some u ∧ hi = some u' ∧ K v L' nx' ∧ nx ≤ nx' ∧ v.wf nx' ∧ AgrLt nx ρ ρ' ∧ Keep n0 Cx.top w w ∧ Hp n0 ρ' w L' nx' ∧ (Instr.sliceAt t (u.den ρ) lo (some (u'.den ρ)) none).run P w = .ok (v.den ρ') w := by
  obtain ⟨d, hd, h1⟩ := onV_iff h
  clear h
  obtain ⟨_, _, _, _, _, _, _, _, _, hkd⟩ := lookT_ok hT hd
  split at h1
  · rename_i e l n kl hw hk
    obtain ⟨de, hde, h2⟩ := onV_iff h1
    obtain ⟨en, hen, h4⟩ := onV_iff h2
    clear h1 h2
    rw [hk] at hkd
    have hsz := run_size (w := w) (lookT_ok hT hde)
    split at h4
    · rename_i e' z hkv
      obtain ⟨⟨hz, h0, hlw, hle, hlen⟩, hK⟩ := h4
      rw [rmK_eq, mulS_eq] at hK
      obtain ⟨hok, hl, hm⟩ := hp.entry hen
      have hcap := hok.cap (z := z) (m := n) (by rw [hkv]; rfl) h0 (by omega)
      rw [hl] at hcap
      have hown : rowO w n0 e' z (.slice (ρ l).1 n (ρ l).2) n (en.cs.map (C.den ρ)) := by
        obtain ⟨lab, kd, cs⟩ := en
        simp only at hkv hl hlen
        subst hkv
        subst hl
        obtain ⟨n', hw⟩ := hok
        have : n' = n := by
          have h5 := hw.1
          simp only [List.length_map, hlen] at h5
          exact (Nat.eq_of_mul_eq_mul_right h0 h5).symm
        rw [← this]; exact hw
      have hcut := hown.cutHi rfl hle
      rw [← List.map_take] at hcut
      have hwf2 : ∀ c ∈ en.cs.take (hw.toNat * z), c.wf nx := fun c hc => (hp.wf en hm).2 c (List.mem_of_mem_take hc)
      have hob : (Value.slice (ρ l).1 n (ρ l).2).ownBlock = blk ρ l := by cases hq : (ρ l).1 <;> simp [Value.ownBlock, blk, hq]
      obtain ⟨g1, g2⟩ := hp.moved (L0 := rmL L l) (v := .slice (ρ l).1 n (ρ l).2) (fun e he => (rmL_mem he).1) (by rw [hob]; exact cut_gone hp hm hl (by rw [hkv]; rfl)) hwf2 (fun b hb => ⟨(hown.lt b hb).1, owns_cells hown hb⟩) hcut ⟨rfl, rfl, rfl, Nat.le_refl _, fun _ _ _ => rfl⟩ (fun b hb => .inl (by rw [hob]; exact hb))
      refine ⟨_, _, _, _, _, _, rfl, rfl, hK, by omega, Nat.lt_succ_self nx, (Env.put_agr ρ nx _ _).lt, g2, g1, ?_⟩
      have := run_sliceAt hkd hsz (ρ l).1 n (ρ l).2 0 hw.toNat lo (some (V.den ρ (V.a (A.c (C.int kl hw))))) hlo (.inr ⟨kl, by simp only [V.den, A.den, C.den]; congr; omega⟩) (Nat.zero_le _) (by omega)
      simp only [Nat.zero_mul, add_zero_map, ite_self, Nat.sub_zero] at this
      simp only [V.den, A.den, C.den, Env.put_same] at this ⊢
      exact this
    · exact h4.elim
  · exact h1.elim
/-- A map's entry, turned. -/
theorem Hp.turnMap {l : Nat} {f f' : MF} {ks : KS} {cs : List C} (hp : Hp n0 ρ w L nx) (hf : find L l = some ⟨l, .mp true ks f, cs⟩) {b : Nat} {es : Array MapEntry} {clock : Nat} (hl : (ρ l).1 = some ⟨b, 0, none⟩) (hm' : MapIs ks f' es clock) (hb : ∃ o, w.heap[b]? = some o) (h0 : n0 ≤ b) (hcs : cs = []) :
    Hp n0 ρ (Go.ChangeMaps.setBlock w b (.map es clock)) (updML l (.mp true ks f') L) nx := by
  subst hcs
  obtain ⟨o, hb⟩ := hb
  have hg := setBlock_grown (w := w) (b := b) (.map es clock)
  have hm := (find_mem hf).1
  have hblk : blk ρ l = some b := by simp [blk, hl]
  refine ⟨Nat.le_trans hp.base hg.size, fun y hy => ?_, fun y hy => ?_, fun y hy y' hy' hyy => ?_, fun y hy y' hy' hro hne hcs b' hb1 hb2 => ?_⟩
  · obtain ⟨e, he, ⟨h1, rfl⟩ | ⟨h1, rfl⟩⟩ := updML_mem hy
    · have hee := hp.fn _ hm e he h1
      subst hee
      exact ⟨b, es, clock, hl, fun _ => h0, setBlock_same hb, hm', rfl⟩
    · refine (hp.ok y he).kept hg (fun hcs b' hb' heq => ?_)
      cases heq
      exact hp.apart _ hm y he rfl h1 hcs b hblk hb'
  · obtain ⟨e, he, ⟨h1, rfl⟩ | ⟨h1, rfl⟩⟩ := updML_mem hy
    · exact hp.wf e he
    · exact hp.wf y he
  · obtain ⟨e, he, ⟨h1, rfl⟩ | ⟨h1, rfl⟩⟩ := updML_mem hy <;> obtain ⟨e', he', ⟨h2, rfl⟩ | ⟨h2, rfl⟩⟩ := updML_mem hy'
    · have := hp.fn e he e' he' (h2.trans h1.symm); rw [this]
    · exact absurd (hyy.trans h1) h2
    · exact absurd (hyy.symm.trans h2) h1
    · exact hp.fn y he y' he' hyy
  · obtain ⟨e, he, ⟨h1, rfl⟩ | ⟨h1, rfl⟩⟩ := updML_mem hy <;> obtain ⟨e', he', ⟨h2, rfl⟩ | ⟨h2, rfl⟩⟩ := updML_mem hy'
    · exact hne (h2.trans h1.symm)
    · exact hp.apart _ hm y' he' rfl h2 hcs b' (by rw [← h1]; exact hb1) hb2
    · exact hp.apart y he _ hm hro (fun e => h1 e.symm) (fun h => by cases h) b' hb1 (by rw [← h2]; exact hb2)
    · exact hp.apart y he y' he' hro hne hcs b' hb1 hb2
theorem Keep.map {b : Nat} {es : Array MapEntry} {clock : Nat} (hb : w.heap[b]? = some (.map es clock)) (o' : Obj) (h0 : n0 ≤ b) (hw : n0 ≤ w.heap.size) : Keep n0 Cx.top w (Go.ChangeMaps.setBlock w b o') :=
  Keep.row (setBlock_grown o') (fun b' hb' => by cases hb'; exact ⟨h0, fun o ho => by rw [hb] at ho; cases ho; rfl⟩) hw
theorem muUpd_ok (hT : TOK P T) (hp : Hp n0 ρ w L nx) {t : TypeId} {m k v : Option V} {K : List E → Prop} (h : muUpd T L t m k v K) :
    ∃ u u' u2 w' L', m = some u ∧ k = some u' ∧ v = some u2 ∧ K L' ∧ Hp n0 ρ w' L' nx ∧ Keep n0 Cx.top w w' ∧ (Instr.mapUpdate t (u.den ρ) (u'.den ρ) (u2.den ρ)).run P w = .ok () w' := by
  obtain ⟨d, hd, hh⟩ := onV_iff h
  clear h
  have hd' := lookT_ok hT hd
  split at hh
  · rename_i kt e ks z l va hk
    obtain ⟨en, hen, h1⟩ := onV_iff hh
    clear hh
    split at h1
    · rename_i ks' f hkd
      split at h1
      · rename_i hks
        have := ksB_eq hks
        subst this
        obtain ⟨mv, hmv, h2⟩ := onV_iff h1
        obtain ⟨j, ns, rfl, hok, hjd, hK⟩ := keyK_ok h2 ρ
        rw [updM_eq] at hK
        obtain ⟨_, _, _, _, _, _, _, _, _, hkt⟩ := hd'
        rw [hk] at hkt
        obtain ⟨hu, hKd, hkeys, _⟩ := hkt
        have hm := find_mem hen
        have hent := hp.ok _ hm.1
        obtain ⟨lab, kd, cs⟩ := en
        simp only at hkd hm
        obtain ⟨hm, hl⟩ := hm
        subst hkd hl
        obtain ⟨b, es, clock, e1, e2, e3, e4, e5⟩ := hent
        simp only at e1 e2 e5
        subst e5
        obtain ⟨es', clock', g1, g2⟩ := update_is hu hKd hkeys e3 e4 hok mv
        have h0 := e2 trivial
        have hxd : V.den ρ (V.a (A.c (C.mp lab))) = .map (some b) := by simp [V.den, A.den, C.den, e1]
        refine ⟨_, _, _, _, _, rfl, rfl, rfl, hK, hp.turnMap hen e1 g1 ⟨_, e3⟩ h0 rfl, Keep.map e3 _ h0 hp.base, ?_⟩
        rw [hxd, hjd]
        show (Instr.mapUpdate t (.map (some b)) (keyD ks ns) (va.den ρ)).run P w = _
        rw [mvOf_ok hmv ρ]; exact g2
      · exact h1.elim
    · exact h1.elim
  · exact hh.elim
theorem muDel_ok (hT : TOK P T) (hp : Hp n0 ρ w L nx) {t : TypeId} {m k : Option V} {K : List E → Prop} (h : muDel T L t m k K) (ty : TypeId) (at_ : Array TypeId) (hat : at_[0]? = some t) :
    ∃ u u' w' L', m = some u ∧ k = some u' ∧ K L' ∧ Hp n0 ρ w' L' nx ∧ Keep n0 Cx.top w w' ∧ (Builtin.delete_ at_ ty #[u.den ρ, u'.den ρ]).run P w = .ok (.tuple #[]) w' := by
  obtain ⟨d, hd, hh⟩ := onV_iff h
  clear h
  have hd' := lookT_ok hT hd
  split at hh
  · rename_i kt e ks z l hk
    obtain ⟨en, hen, h1⟩ := onV_iff hh
    clear hh
    split at h1
    · rename_i ks' f hkd
      split at h1
      · rename_i hks
        have := ksB_eq hks
        subst this
        obtain ⟨j, ns, rfl, hok, hjd, hK⟩ := keyK_ok h1 ρ
        rw [updM_eq] at hK
        obtain ⟨_, _, _, _, _, _, _, _, _, hkt⟩ := hd'
        rw [hk] at hkt
        obtain ⟨hu, hKd, hkeys, _⟩ := hkt
        have hm := find_mem hen
        have hent := hp.ok _ hm.1
        obtain ⟨lab, kd, cs⟩ := en
        simp only at hkd hm
        obtain ⟨hm, hl⟩ := hm
        subst hkd hl
        obtain ⟨b, es, clock, e1, e2, e3, e4, e5⟩ := hent
        simp only at e1 e2 e5
        subst e5
        obtain ⟨es', g1, g2⟩ := delete_is (ty := ty) hu hKd hkeys e3 e4 hok at_ hat
        have h0 := e2 trivial
        have hxd : V.den ρ (V.a (A.c (C.mp lab))) = .map (some b) := by simp [V.den, A.den, C.den, e1]
        refine ⟨_, _, _, _, rfl, rfl, hK, hp.turnMap hen e1 g1 ⟨_, e3⟩ h0 rfl, Keep.map e3 _ h0 hp.base, ?_⟩
        rw [hxd, hjd]; exact g2
      · exact h1.elim
    · exact h1.elim
  · exact hh.elim
end

/- Lists of operations, statements, functions. -/

def dstB (N : Nat) (dst : Option Tmp) : Bool :=
  match dst with
  | some d => Nat.blt d N
  | none => true
def putS (s : S) (dst : Option Tmp) (v : V) : S :=
  match dst with
  | some d => (d, v) :: s
  | none => s
def putK (s : S) (dst : Option Tmp) (v : V) (K : S → Prop) : Prop :=
  match dst with
  | some d => K ((d, v) :: s)
  | none => K s
theorem putK_eq (s : S) (dst : Option Tmp) (v : V) (K : S → Prop) : putK s dst v K = K (putS s dst v) := by cases dst <;> rfl
def appK (new L : List E) (K : List E → Prop) : Prop :=
  match new with
  | [] => K L
  | [e] => K (e :: L)
  | es => K (es ++ L)
theorem appK_eq (new L : List E) (K : List E → Prop) : appK new L K = K (new ++ L) := by
  unfold appK; split <;> rfl
structure SlOK (N : Nat) (ρ : Env) (a : Act) (s : S) (nx : Nat) : Prop where
  size : a.tmps.size = N
  ok : ∀ t v, look s t = some v → a.tmps[t]? = some (v.den ρ) ∧ v.wf nx
theorem SlOK.ev {N : Nat} {ρ : Env} {a : Act} {s : S} {nx : Nat} (h : SlOK N ρ a s nx) : ∀ x v, ev s x = some v → a.eval x = v.den ρ ∧ v.wf nx := by
  intro x v hx
  cases x with
  | tmp t =>
    obtain ⟨h1, h2⟩ := h.ok t v hx
    exact ⟨by simp [Act.eval, h1], h2⟩
  | const c => obtain ⟨h1, h2⟩ := V.ofV_ok hx ρ nx; exact ⟨h1.symm, h2⟩
  | global g => cases hx
  | func f => cases hx; exact ⟨rfl, by simp [V.wf, A.wf, C.wf]⟩
theorem SlOK.put {N : Nat} {ρ ρ' : Env} {a : Act} {s : S} {nx nx' : Nat} (h : SlOK N ρ a s nx) (ha : AgrLt nx ρ ρ') (hx : nx ≤ nx') {dst : Option Tmp} (hd : dstB N dst = true) {v : V} (hv : v.wf nx') :
    SlOK N ρ' (a.put dst (v.den ρ')) (putS s dst v) nx' := by
  have hold : ∀ t u, look s t = some u → a.tmps[t]? = some (u.den ρ') ∧ u.wf nx' := fun t u hu => by
    obtain ⟨h1, h2⟩ := h.ok t u hu
    exact ⟨by rw [h1, V.den_agr ha h2], V.wf_mono hx h2⟩
  cases dst with
  | none => exact ⟨h.size, hold⟩
  | some d =>
    have hd' : d < N := Nat.le_of_ble_eq_true hd
    refine ⟨by simp [Act.put, h.size], fun t u hu => ?_⟩
    simp only [putS, look] at hu
    cases hb : Nat.beq d t with
    | true =>
      rw [hb] at hu
      cases hu
      have := Nat.eq_of_beq_eq_true hb
      subst this
      exact ⟨by simp [Act.put, h.size, hd'], hv⟩
    | false =>
      rw [hb] at hu
      have hne : d ≠ t := fun e => by rw [e] at hb; simp at hb
      obtain ⟨h1, h2⟩ := hold t u hu
      exact ⟨by simp only [Act.put]; rw [Array.getElem?_setIfInBounds_ne hne]; exact h1, h2⟩
theorem SlOK.agr {N : Nat} {ρ ρ' : Env} {a : Act} {s : S} {nx nx' : Nat} (h : SlOK N ρ a s nx) (ha : AgrLt nx ρ ρ') (hx : nx ≤ nx') : SlOK N ρ' a s nx' :=
  ⟨h.size, fun t u hu => by obtain ⟨h1, h2⟩ := h.ok t u hu; exact ⟨by rw [h1, V.den_agr ha h2], V.wf_mono hx h2⟩⟩

abbrev K3 := S → List E → Nat → Prop
/-- Either road will do. -/
inductive Two (A B : Prop) : Prop where
  | l (h : A)
  | r (h : B)
def op1 (P : Program) (T : List (Nat × TD)) (n0 : Nat) (cx : Cx) (N : Nat) (s : S) (L : List E) (nx : Nat) (o : Oper) (K : K3) : Prop :=
  bif dstB N o.dst then
    match o.op with
    | .store t x v => muStore T L t (ev s x) (ev s v) fun L' => putK s o.dst (.tup []) fun s' => K s' L' nx
    | .call ⟨.builtin .append, args, argTypes⟩ => (match args.toList, argTypes.toList with
      | [x, y], [t, t'] => muApp T L nx t t' (ev s x) (ev s y) fun v L' nx' => putK s o.dst v fun s' => K s' L' nx'
      | _, _ => False)
    | .mapUpdate t m k v => muUpd T L t (ev s m) (ev s k) (ev s v) fun L' => putK s o.dst (.tup []) fun s' => K s' L' nx
    | .call ⟨.builtin .delete, args, argTypes⟩ => (match args.toList, argTypes.toList with
      | [x, y], t :: _ => muDel T L t (ev s x) (ev s y) fun L' => putK s o.dst (.tup []) fun s' => K s' L' nx
      | _, _ => False)
    | .call ⟨.value f, args, argTypes⟩ => (match ev s f with
      | some (.a (.c (.fn g caps))) => onV (evs s args.toList) fun vs => CallM P n0 g (vs ++ caps.map ptrV) L nx fun v L' nx' => putK s o.dst v fun s' => K s' L' nx'
      | some (.a (.c (.v y))) => onV (evs s args.toList) fun vs => YldM P n0 cx y vs L nx fun v L' nx' => putK s o.dst v fun s' => K s' L' nx'
      | _ => False)
    | .slice t x (some lo) none none => Two (rd (CallK P n0) T L nx s (.slice t x (some lo) none none) fun v new nx' => putK s o.dst v fun s' => appK new L fun L' => K s' L' nx') (muCut T L nx t (ev s x) (ev s lo) fun v L' nx' => putK s o.dst v fun s' => K s' L' nx')
    | .slice t x none (some hi) none => Two (rd (CallK P n0) T L nx s (.slice t x none (some hi) none) fun v new nx' => putK s o.dst v fun s' => appK new L fun L' => K s' L' nx') (muCutH T L nx t (ev s x) (ev s hi) fun v L' nx' => putK s o.dst v fun s' => K s' L' nx')
    | op => rd (CallK P n0) T L nx s op fun v new nx' => putK s o.dst v fun s' => appK new L fun L' => K s' L' nx'
  else False
def skip1 (N : Nat) (s : S) (L : List E) (nx : Nat) (o : Oper) (K : K3) : Prop :=
  bif dstB N o.dst then putK s o.dst (.tup []) fun s' => K s' L nx else False
/-- The slot of a guard. -/
def gslot (all : List Oper) (j : Nat) : Option Tmp :=
  match all[j]? with
  | some o => o.dst
  | none => none
def vcOps (P : Program) (T : List (Nat × TD)) (n0 : Nat) (cx : Cx) (N : Nat) (all : List Oper) (l : List Oper) (K : K3) (s : S) (L : List E) (nx : Nat) : Prop :=
  match l with
  | [] => K s L nx
  | o :: r =>
    match o.guard with
    | none => op1 P T n0 cx N s L nx o (vcOps P T n0 cx N all r K)
    | some (j, want) => match gslot all j with
      | none => False
      | some t => match look s t with
        | some (.a (.c .tt)) => bif want then op1 P T n0 cx N s L nx o (vcOps P T n0 cx N all r K) else skip1 N s L nx o (vcOps P T n0 cx N all r K)
        | some (.a (.c .ff)) => bif want then skip1 N s L nx o (vcOps P T n0 cx N all r K) else op1 P T n0 cx N s L nx o (vcOps P T n0 cx N all r K)
        | some (.a (.c (.bool p))) =>
          (p = want → op1 P T n0 cx N ((t, V.c (bif want then .tt else .ff)) :: s) L nx o (vcOps P T n0 cx N all r K)) ∧ (p = !want → skip1 N ((t, V.c (bif want then .ff else .tt)) :: s) L nx o (vcOps P T n0 cx N all r K))
        | some (.tup _) => skip1 N s L nx o (vcOps P T n0 cx N all r K)
        | _ => False
/-- What holds behind. -/
def Fin (n0 : Nat) (cx : Cx) (N na : Nat) (ρ : Env) (w : World) (a' : Act) (w' : World) (K : K3) : Prop :=
  ∃ ρ' s' L' nx', na ≤ nx' ∧ AgrLt na ρ ρ' ∧ SlOK N ρ' a' s' nx' ∧ Hp n0 ρ' w' L' nx' ∧ (Keep n0 cx w w' ∧ Inv cx na ρ' w' a'.defers) ∧ K s' L' nx'
theorem Fin.trans {n0 : Nat} {cx : Cx} {N na : Nat} {ρ ρ' : Env} {w w' w2 : World} {a2 : Act} {K : K3} (ha : AgrLt na ρ ρ') (hb : Keep n0 cx w w') (h : Fin n0 cx N na ρ' w' a2 w2 K) : Fin n0 cx N na ρ w a2 w2 K := by
  obtain ⟨ρ2, s2, L2, nx2, h1, h2, h3, h4, h5, h6⟩ := h
  exact ⟨ρ2, s2, L2, nx2, h1, ha.trans h2 (Nat.le_refl _), h3, h4, ⟨hb.trans h5.1, h5.2⟩, h6⟩
theorem AgrLt.mono {n m : Nat} {ρ ρ' : Env} (h : AgrLt m ρ ρ') (hl : n ≤ m) : AgrLt n ρ ρ' := fun l hh => h l (by omega)
section
variable {P : Program} {T : List (Nat × TD)} {w : World} {n0 : Nat} {cx : Cx} {N na : Nat} {ρ : Env} {L : List E} {nx : Nat} {a : Act} {Q : Exit → Act → World → Prop} {next : Act → World → Prop}
theorem op1_ok (hT : TOK P T) (hna : na ≤ nx) {s : S} {o : Oper} {K : K3} (hs : SlOK N ρ a s nx) (hp : Hp n0 ρ w L nx) (hi : Inv cx na ρ w a.defers) (h : op1 P T n0 cx N s L nx o K) (hn : ∀ a' w', Fin n0 cx N na ρ w a' w' K → next a' w') : o.wpIn (FR cx.rd) 0 P a w next Q := by
  have inv : ∀ {ρ' : Env} {w' : World} {v : Value}, AgrLt na ρ ρ' → Keep n0 cx w w' → Keep n0 cx w w' ∧ Inv cx na ρ' w' (a.put o.dst v).defers := fun h1 h2 => ⟨h2, by rw [put_defers]; exact hi.keep h1 h2⟩
  have plain : ∀ {hd : dstB N o.dst = true}, (rd (CallK P n0) T L nx s o.op fun v new nx' => putK s o.dst v fun s' => appK new L fun L' => K s' L' nx') → o.wpIn (FR cx.rd) 0 P a w next Q := fun {hd} h => by
    refine Oper.wpR (rd_nodefer h) ?_
    refine rd_ok (n0 := n0) (L := L) (nx := nx) (ρ := ρ) hT (fun _ _ _ hh => hh) hp (fun x _ v hv => hs.ev x v hv) h ?_
    intro v new nx' ρ' w' hK h1 h2 h3 h4 h5
    rw [putK_eq, appK_eq] at hK
    exact hn _ _ ⟨ρ', _, _, nx', Nat.le_trans hna h1, h3.lt.mono hna, hs.put h3.lt h1 hd h2, hp.news' h5 h4 h3 h1, inv (h3.lt.mono hna) (Keep.of h4 hp.base), hK⟩
  unfold op1 at h
  cases hd : dstB N o.dst with
  | false => rw [hd] at h; exact h.elim
  | true =>
    rw [hd] at h
    simp only [cond_true] at h
    split at h
    · rename_i t x v hop
      obtain ⟨u, u', w', L', hu, hu', hK, hp', hb, hr⟩ := muStore_ok hT hp (fun u hu => (hs.ev v u hu).2) h
      rw [putK_eq] at hK
      have e1 := (hs.ev x u hu).1
      have e2 := (hs.ev v u' hu').1
      have hex : (execOp a.eval o).run P w = .ok .skip w' := by
        obtain ⟨dst, op, ty, pos, after, guard⟩ := o
        simp only at hop
        subst hop
        simp only [execOp, e1, e2, Sem.run_bind, hr, Result.andThen, Sem.run_pure]
      refine Oper.wpR (fun c => by rw [hop]; simp) ?_
      unfold Oper.wp
      rw [hex]
      exact hn _ _ ⟨ρ, _, L', nx, hna, AgrLt.refl _ _, hs.put (AgrLt.refl _ _) (Nat.le_refl _) hd (v := .tup []) (by simp [V.wf]), hp', inv (AgrLt.refl _ _) hb.top, hK⟩
    · rename_i args argTypes hop
      split at h
      · rename_i x y t t' hx ht
        obtain ⟨u, u', v, L', nx', ρ', w', hu, hu', hK, h1, h2, h3, h4, h5, hr⟩ := muApp_ok (ty := o.type) hT hp (fun u hu => (hs.ev x u hu).2) h
        rw [putK_eq] at hK
        have e1 := (hs.ev x u hu).1
        have e2 := (hs.ev y u' hu').1
        have ha : args = #[x, y] := by apply Array.ext'; exact hx
        have ht' : argTypes = #[t, t'] := by apply Array.ext'; exact ht
        subst ha ht'
        have hex : (execOp a.eval o).run P w = .ok (.value (v.den ρ')) w' := by
          obtain ⟨dst, op, ty, pos, after, guard⟩ := o
          simp only at hop
          subst hop
          simp only [execOp, resolve, Sem.run_bind, Sem.run_pure, Result.andThen, invoke, builtin, List.map_toArray, List.map_cons, List.map_nil, e1, e2, hr]
        refine Oper.wpR (fun c => by rw [hop]; simp) (wp_value hex (hn _ _ ⟨ρ', _, L', nx', Nat.le_trans hna h1, h3.mono hna, hs.put h3 h1 hd h2, h5, inv (h3.mono hna) h4.top, hK⟩))
      · exact h.elim
    · rename_i t m k v hop
      obtain ⟨u, u', u2, w', L', hu, hu', hu2, hK, hp', hb, hr⟩ := muUpd_ok hT hp h
      rw [putK_eq] at hK
      have e1 := (hs.ev m u hu).1
      have e2 := (hs.ev k u' hu').1
      have e3 := (hs.ev v u2 hu2).1
      have hex : (execOp a.eval o).run P w = .ok .skip w' := by
        obtain ⟨dst, op, ty, pos, after, guard⟩ := o
        simp only at hop
        subst hop
        simp only [execOp, e1, e2, e3, Sem.run_bind, hr, Result.andThen, Sem.run_pure]
      refine Oper.wpR (fun c => by rw [hop]; simp) ?_
      unfold Oper.wp
      rw [hex]
      exact hn _ _ ⟨ρ, _, L', nx, hna, AgrLt.refl _ _, hs.put (AgrLt.refl _ _) (Nat.le_refl _) hd (v := .tup []) (by simp [V.wf]), hp', inv (AgrLt.refl _ _) hb.top, hK⟩
    · rename_i args argTypes hop
      split at h
      · rename_i x y t tr hx ht
        have hat : argTypes[0]? = some t := by rw [← Array.getElem?_toList, ht]; rfl
        obtain ⟨u, u', w', L', hu, hu', hK, hp', hb, hr⟩ := muDel_ok hT hp h o.type argTypes hat
        rw [putK_eq] at hK
        have e1 := (hs.ev x u hu).1
        have e2 := (hs.ev y u' hu').1
        have ha : args = #[x, y] := by apply Array.ext'; exact hx
        subst ha
        have hex : (execOp a.eval o).run P w = .ok (.value (.tuple #[])) w' := by
          obtain ⟨dst, op, ty, pos, after, guard⟩ := o
          simp only at hop
          subst hop
          simp only [execOp, resolve, Sem.run_bind, Sem.run_pure, Result.andThen, invoke, builtin, List.map_toArray, List.map_cons, List.map_nil, e1, e2, hr]
        have hv : (.tuple #[] : Value) = V.den ρ (.tup []) := by simp [V.den]
        rw [hv] at hex
        exact Oper.wpR (fun c => by rw [hop]; simp) (wp_value hex (hn _ _ ⟨ρ, _, L', nx, hna, AgrLt.refl _ _, hs.put (AgrLt.refl _ _) (Nat.le_refl _) hd (v := .tup []) (by simp [V.wf]), hp', inv (AgrLt.refl _ _) hb.top, hK⟩))
      · exact h.elim
    · rename_i f args argTypes hop
      split at h
      · rename_i g caps hg
        obtain ⟨vs, hvs, hc⟩ := onV_iff h
        clear h
        obtain ⟨hf1, hf2⟩ := hs.ev f _ hg
        have hf3 : ∀ p ∈ caps, p.1 < nx := hf2
        obtain ⟨hv1, hv2⟩ := evs_ok hvs (fun x _ v hv => hs.ev x v hv)
        have hrun := hc.run ρ w hp (fun v hv => by
          rcases List.mem_append.1 hv with hv | hv
          · exact hv2 v hv
          · obtain ⟨p, hp', rfl⟩ := List.mem_map.1 hv; exact hf3 p hp')
        have hargs : (#[] ++ args.map a.eval) ++ (caps.map (ptrD ρ)).toArray = ((vs ++ caps.map ptrV).map (V.den ρ)).toArray := by
          apply Array.ext'
          simp only [Array.toList_append, Array.toList_map, List.map_append, List.map_map, hv1]
          simp
          exact fun p _ _ => rfl
        have hex : (execOp a.eval o).run P w = .ok (.enter g ((vs ++ caps.map ptrV).map (V.den ρ)).toArray) w := by
          obtain ⟨dst, op, ty, pos, after, guard⟩ := o
          simp only at hop
          subst hop
          simp only [execOp, resolve, hf1, V.den, A.den, C.den, Deferred.ofValue, Sem.run_bind, Sem.run_pure, Result.andThen, invoke, callB_run hc.ok]
          rw [← hargs]
        refine Oper.wpR (fun c => by rw [hop]; simp) ?_
        unfold Oper.wp
        rw [hex]
        refine Calls.mono hrun ?_
        rintro e w' ⟨v, L', nx', ρ', rfl, h1, h2, h3, h4, h5, hK⟩
        rw [putK_eq] at hK
        exact hn _ _ ⟨ρ', _, L', nx', Nat.le_trans hna h1, h3.lt.mono hna, hs.put h3.lt h1 hd h2, h5, inv (h3.lt.mono hna) h4.top, hK⟩
      · rename_i y hg
        obtain ⟨vs, hvs, l, rfl, hc⟩ := onV_iff h
        clear h
        obtain ⟨hf1, hf2⟩ := hs.ev f _ hg
        obtain ⟨hv1, hv2⟩ := evs_ok hvs (fun x _ v hv => hs.ev x v hv)
        obtain ⟨fn, tmps, as, bd, hrun, hround⟩ := hc ρ w hp hv2 hi.agr hi.lt
        have hargs : (args.map a.eval) = (vs.map (V.den ρ)).toArray := by
          apply Array.ext'
          simp only [Array.toList_map, hv1]
        have hex : (execOp a.eval o).run P w = .ok (.round l fn tmps as bd) w := by
          obtain ⟨dst, op, ty, pos, after, guard⟩ := o
          simp only at hop
          subst hop
          simp only [execOp, resolve, hf1, V.den, A.den, C.den, Deferred.ofValue, Sem.run_bind, Sem.run_pure, Result.andThen, invoke]
          simp only [hargs]
          simpa using hrun
        refine ⟨fun _ _ => trivial, ?_⟩
        rw [Oper.semAt_plain (FR cx.rd) _ _ (fun c => by rw [hop]; simp), hex]
        refine ⟨fun hh => (by simp [FR, Fence.wide] at hh), RoundIn.mono hround ?_⟩
        rintro e w' ⟨v, L', nx', ρ', rfl, h1, h2, h3, h4, h5, hK⟩
        rw [putK_eq] at hK
        exact hn _ _ ⟨ρ', _, L', nx', Nat.le_trans hna h1, h3.mono hna, hs.put h3 h1 hd h2, h5, inv (h3.mono hna) h4, hK⟩
      · exact h.elim
    · rename_i t x lo hop
      rw [← hop] at h
      rcases h with h | h
      · exact plain (hd := hd) h
      · obtain ⟨u, u', v, L', nx', ρ', hu, hu', hK, h1, h2, h3, h4, h5, hr⟩ := muCut_ok hT hp h
        rw [putK_eq] at hK
        have e1 := (hs.ev _ u hu).1
        have e2 := (hs.ev _ u' hu').1
        have hex : (execOp a.eval o).run P w = .ok (.value (v.den ρ')) w := by
          obtain ⟨dst, op, ty, pos, after, guard⟩ := o
          simp only at hop
          subst hop
          simp only [execOp, Option.map_some, Option.map_none, e1, e2, Sem.run_bind, Sem.run_pure, Result.andThen, hr]
        exact Oper.wpR (fun c => by rw [hop]; simp) (wp_value hex (hn _ _ ⟨ρ', _, L', nx', Nat.le_trans hna h1, h3.mono hna, hs.put h3 h1 hd h2, h5, inv (h3.mono hna) h4.top, hK⟩))
    · rename_i t x hi hop
      rw [← hop] at h
      rcases h with h | h
      · exact plain (hd := hd) h
      · obtain ⟨u, u', v, L', nx', ρ', hu, hu', hK, h1, h2, h3, h4, h5, hr⟩ := muCutH_ok hT hp (lo := none) (.inl ⟨rfl, rfl⟩) h
        rw [putK_eq] at hK
        have e1 := (hs.ev _ u hu).1
        have e2 := (hs.ev _ u' hu').1
        have hex : (execOp a.eval o).run P w = .ok (.value (v.den ρ')) w := by
          obtain ⟨dst, op, ty, pos, after, guard⟩ := o
          simp only at hop
          subst hop
          simp only [execOp, Option.map_some, Option.map_none, e1, e2, Sem.run_bind, Sem.run_pure, Result.andThen, hr]
        exact Oper.wpR (fun c => by rw [hop]; simp) (wp_value hex (hn _ _ ⟨ρ', _, L', nx', Nat.le_trans hna h1, h3.mono hna, hs.put h3 h1 hd h2, h5, inv (h3.mono hna) h4.top, hK⟩))
    · exact plain (hd := hd) h
/-- A call that turns nothing. -/
theorem CallK.m {f : FuncId} {vs : List V} {K : V → List E → Nat → Prop} (h : CallK P n0 f vs L nx (fun v new nx' => appK new L fun L' => K v L' nx')) : CallM P n0 f vs L nx K := by
  refine ⟨h.ok, fun ρ w hp hv => (h.run ρ w hp hv).mono ?_⟩
  rintro e w' ⟨v, new, nx', ρ', rfl, h1, h2, h3, h4, h5, hK⟩
  rw [appK_eq] at hK
  exact ⟨v, _, nx', ρ', rfl, h1, h2, h3, Keep.of h4 hp.base, hp.news' h5 h4 h3 h1, hK⟩
theorem skip1_ok (hna : na ≤ nx) {s : S} {o : Oper} {K : K3} (hs : SlOK N ρ a s nx) (hp : Hp n0 ρ w L nx) (hi : Inv cx na ρ w a.defers) (h : skip1 N s L nx o K) : Fin n0 cx N na ρ w (a.put o.dst undef) w K := by
  unfold skip1 at h
  cases hd : dstB N o.dst with
  | false => rw [hd] at h; exact h.elim
  | true =>
    rw [hd, cond_true, putK_eq] at h
    exact ⟨ρ, _, L, nx, hna, AgrLt.refl _ _, hs.put (AgrLt.refl _ _) (Nat.le_refl _) hd (v := .tup []) (by simp [V.wf]), hp, ⟨Keep.refl _, by rw [put_defers]; exact hi⟩, h⟩
def vb (v : Value) : Option Bool := match v with | .bool b => some b | _ => none
theorem yielded_slot {all : List Oper} {j t : Nat} (h : gslot all j = some t) {v : Value} (hv : a.tmps[t]? = some v) : yielded all.toArray a.tmps j = vb v := by
  unfold gslot at h
  split at h
  · rename_i o ho
    simp only [yielded, List.getElem?_toArray, ho, Option.bind_some, h, hv]
    cases v <;> rfl
  · cases h
theorem SlOK.lit {s : S} {t : Nat} {p q : Bool} (hs : SlOK N ρ a s nx) (hl : look s t = some (.a (.c (.bool p)))) (c : C) (hc : c.den ρ = .bool p) (hw : c.wf nx) : SlOK N ρ a ((t, V.c c) :: s) nx := by
  refine ⟨hs.size, fun t' v hv => ?_⟩
  simp only [look] at hv
  cases hb : Nat.beq t t' with
  | true =>
    rw [hb] at hv
    cases hv
    have := Nat.eq_of_beq_eq_true hb
    subst this
    obtain ⟨h1, h2⟩ := hs.ok t _ hl
    refine ⟨by rw [h1]; simp only [V.den, A.den, hc]; rfl, hw⟩
  | false => rw [hb] at hv; exact hs.ok t' v hv
theorem vcOps_ok (hT : TOK P T) {all : List Oper} : ∀ {l : List Oper} {K : K3} {s : S} {L : List E} {nx : Nat} {ρ : Env} {a : Act} {w : World}, na ≤ nx → SlOK N ρ a s nx → Hp n0 ρ w L nx → Inv cx na ρ w a.defers → vcOps P T n0 cx N all l K s L nx →
    (∀ a' w', Fin n0 cx N na ρ w a' w' K → Q .normal a' w') → wpListIn (FR cx.rd) 0 P all.toArray Q l a w
  | [], K, s, L, nx, ρ, a, w, hna, hs, hp, hi, h, hq => hq _ _ ⟨ρ, s, L, nx, hna, AgrLt.refl _ _, hs, hp, ⟨Keep.refl _, hi⟩, h⟩
  | o :: r, K, s, L, nx, ρ, a, w, hna, hs, hp, hi, h, hq => by
    have run : ∀ {s : S}, SlOK N ρ a s nx → op1 P T n0 cx N s L nx o (vcOps P T n0 cx N all r K) → Region.wanted o (yielded all.toArray a.tmps) = true → wpListIn (FR cx.rd) 0 P all.toArray Q (o :: r) a w := fun hs h hw => by
      unfold wpListIn
      rw [if_pos hw]
      refine (op1_ok hT hna hs hp hi h fun a' w' hf => ?_)
      obtain ⟨ρ', s', L', nx', h1, h2, h3, h4, h5, h6⟩ := hf
      exact vcOps_ok hT h1 h3 h4 h5.2 h6 fun a2 w2 hf2 => hq _ _ (Fin.trans h2 h5.1 hf2)
    have skip : ∀ {s : S}, SlOK N ρ a s nx → skip1 N s L nx o (vcOps P T n0 cx N all r K) → Region.wanted o (yielded all.toArray a.tmps) = false → wpListIn (FR cx.rd) 0 P all.toArray Q (o :: r) a w := fun hs h hw => by
      unfold wpListIn
      rw [if_neg (by rw [hw]; simp)]
      obtain ⟨ρ', s', L', nx', h1, h2, h3, h4, h5, h6⟩ := skip1_ok hna hs hp hi h
      exact ⟨fun _ _ => trivial, vcOps_ok hT h1 h3 h4 h5.2 h6 fun a2 w2 hf2 => hq _ _ (Fin.trans h2 h5.1 hf2)⟩
    unfold vcOps at h
    split at h
    · rename_i hg
      exact run hs h (by simp [Region.wanted, hg])
    · rename_i j want hg
      split at h
      · exact h.elim
      · rename_i t ht
        have hwant : ∀ v : Value, a.tmps[t]? = some v → Region.wanted o (yielded all.toArray a.tmps) = (vb v == some want) := fun v hv => by
          simp only [Region.wanted, hg, yielded_slot ht hv]
        split at h
        · rename_i hl
          have hv := hwant _ (hs.ok t _ hl).1
          simp only [V.den, A.den, C.den] at hv
          cases want
          · exact skip hs h (by rw [hv]; rfl)
          · exact run hs h (by rw [hv]; rfl)
        · rename_i hl
          have hv := hwant _ (hs.ok t _ hl).1
          simp only [V.den, A.den, C.den] at hv
          cases want
          · exact run hs h (by rw [hv]; rfl)
          · exact skip hs h (by rw [hv]; rfl)
        · rename_i p hl
          have hv := hwant _ (hs.ok t _ hl).1
          simp only [V.den, A.den, C.den] at hv
          by_cases hpw : p = want
          · subst hpw
            exact run (hs.lit (q := true) hl _ (by cases p <;> rfl) (by cases p <;> trivial)) (h.1 rfl) (by rw [hv]; simp [vb])
          · have hpn : p = !want := by cases p <;> cases want <;> simp_all
            subst hpn
            exact skip (hs.lit (q := true) hl _ (by cases want <;> rfl) (by cases want <;> trivial)) (h.2 rfl) (by rw [hv]; cases want <;> rfl)
        · rename_i l hl
          have hv := hwant _ (hs.ok t _ hl).1
          simp only [V.den] at hv
          exact skip hs h (by rw [hv]; rfl)
        · exact h.elim
end
theorem stepR_scope {P : Program} {b : Frame} {a : Act} {k : List Item} {cs : List Frame} {w : World} {c : Code} : step P (lone (b.atR a (.code (.scope c) :: k)) cs w) = .next (lone (b.atR a (.code c :: .inScope c :: k)) cs w) :=
  step_lone_go (by simp [stepG, stepG.exec, Frame.atR])
theorem stepR_inScope {P : Program} {b : Frame} {a : Act} {k : List Item} {cs : List Frame} {w : World} {c : Code} : step P (lone (b.atR a (.inScope c :: k)) cs w) = .next (lone (b.atR a k) cs w) :=
  step_lone_go (by simp [stepG, stepG.exec, Frame.atR])
theorem wpIn_scope_straight {F : Fence} {n : Nat} {P : Program} {Q : Exit → Act → World → Prop} {a : Act} {w : World} {c : Code} (h : c.wpIn F n P (Exit.noGoto Q) a w) : (Code.scope c).wpIn F n P Q a w := by
  intro b k cs hro hb hr
  have h0 : (lone (b.atR a (.code (.scope c) :: k)) cs w).fenced P F := fenced_calm hb hr rfl
  obtain ⟨e, a₁, w₁, hq, harr⟩ := h b (.inScope c :: k) cs hro hb hr
  cases e with
  | normal => exact ⟨.normal, a₁, w₁, hq, .head h0 stepR_scope (StepsIn.trans harr (.one (fenced_calm hb hr rfl) stepR_inScope))⟩
  | exit id =>
    have hx : exitTo id (.inScope c :: k) = exitTo id k := by simp [exitTo]
    exact ⟨.exit id, a₁, w₁, hq, fun k' hk => .head h0 stepR_scope (harr.1 k' (by rw [hx]; exact hk)),
      fun hr' hk => let ⟨k₁, h1, h2⟩ := harr.2 hr' (by rw [hx]; exact hk); ⟨k₁, h1, .head h0 stepR_scope h2⟩⟩
  | goto l => exact hq.elim
  | ret => exact ⟨_, a₁, w₁, hq, .of_steps (.one h0 stepR_scope) harr⟩
  | panic ch => exact ⟨_, a₁, w₁, hq, .of_steps (.one h0 stepR_scope) harr⟩
  | outgrown => exact ⟨_, a₁, w₁, hq, .of_steps (.one h0 stepR_scope) harr⟩
/-- A statement, from a symbol's state on. -/
abbrev Kt := Exit → S → List E → Nat → Prop
structure Tri (P : Program) (n0 : Nat) (cx : Cx) (N na : Nat) (code : Code) (K : Kt) (s : S) (L : List E) (nx : Nat) : Prop where
  run : ∀ ρ a w, na ≤ nx → SlOK N ρ a s nx → Hp n0 ρ w L nx → Inv cx na ρ w a.defers → code.wpIn (FR cx.rd) 0 P (fun e a' w' => Fin n0 cx N na ρ w a' w' (K e)) a w
/-- What follows a region, behind a letter. -/
def Opq (K : K3) (F : K3 → Prop) : Prop := ∀ K' : K3, (∀ s L nx, K s L nx → K' s L nx) → F K'
def vc (P : Program) (T : List (Nat × TD)) (n0 : Nat) (cx : Cx) (N na : Nat) (code : Code) (K : Kt) (s : S) (L : List E) (nx : Nat) : Prop :=
  match code with
  | .skip => K .normal s L nx
  | .region id ops d => (match d with
    | true => Tri P n0 cx N na (.region id ops true) K s L nx
    | false => Opq (K .normal) fun K' => vcOps P T n0 cx N ops.toList ops.toList K' s L nx)
  | .seq x y => vc P T n0 cx N na x (fun e s L nx => match e with | .normal => vc P T n0 cx N na y K s L nx | e => K e s L nx) s L nx
  | .cond c x y => (match ev s c with
    | some (.a (.c .tt)) => vc P T n0 cx N na x K s L nx
    | some (.a (.c .ff)) => vc P T n0 cx N na y K s L nx
    | some (.a (.c (.bool p))) => (p = true → vc P T n0 cx N na x K s L nx) ∧ (p = false → vc P T n0 cx N na y K s L nx)
    | _ => False)
  | .block id c => vc P T n0 cx N na c (fun e s L nx => match e with | .exit id' => (bif Nat.beq id' id then K .normal s L nx else K (.exit id') s L nx) | e => K e s L nx) s L nx
  | .loop c => Tri P n0 cx N na (.loop c) K s L nx
  | .exit id => K (.exit id) s L nx
  | .scope c => vc P T n0 cx N na c (fun e s L nx => match e with | .goto _ => False | e => K e s L nx) s L nx
  | .label _ => K .normal s L nx
  | .ret => K .ret s L nx
  | c => Tri P n0 cx N na c K s L nx
section
variable {P : Program} {T : List (Nat × TD)} {n0 : Nat} {cx : Cx} {N na : Nat}
theorem Tri.mono {code : Code} {K K' : Kt} {s : S} {L : List E} {nx : Nat} (h : Tri P n0 cx N na code K s L nx) (hk : ∀ e s' L' nx', K e s' L' nx' → K' e s' L' nx') : Tri P n0 cx N na code K' s L nx :=
  ⟨fun ρ a w hna hs hp hi => wpIn_mono (h.run ρ a w hna hs hp hi) fun e a' w' ⟨ρ', s', L', nx', h1, h2, h3, h4, h5, h6⟩ => ⟨ρ', s', L', nx', h1, h2, h3, h4, h5, hk _ _ _ _ h6⟩⟩
theorem vc_ok (hT : TOK P T) : ∀ {code : Code} {K : Kt} {s : S} {L : List E} {nx : Nat}, vc P T n0 cx N na code K s L nx → Tri P n0 cx N na code K s L nx := by
  intro code
  have stay : ∀ {ρ : Env} {a : Act} {w : World} {K : K3} {s : S} {L : List E} {nx : Nat}, na ≤ nx → SlOK N ρ a s nx → Hp n0 ρ w L nx → Inv cx na ρ w a.defers → K s L nx → Fin n0 cx N na ρ w a w K := fun hna hs hp hi h => ⟨_, _, _, _, hna, AgrLt.refl _ _, hs, hp, ⟨Keep.refl _, hi⟩, h⟩
  induction code with
  | skip => intro K s L nx h; exact ⟨fun ρ a w hna hs hp hi => wpIn_skip (stay hna hs hp hi h)⟩
  | region id ops d =>
    intro K s L nx h
    cases d with
    | true => exact h
    | false =>
      refine ⟨fun ρ a w hna hs hp hi => wpIn_region_list ?_⟩
      have := vcOps_ok (Q := fun e a' w' => Fin n0 cx N na ρ w a' w' (K e)) hT hna hs hp hi (h (K .normal) fun _ _ _ h => h) (fun a' w' hf => hf)
      simpa using this
  | seq x y ihx ihy =>
    intro K s L nx h
    refine ⟨fun ρ a w hna hs hp hi => wpIn_seq (wpIn_mono ((ihx h).run ρ a w hna hs hp hi) ?_)⟩
    rintro e a' w' ⟨ρ', s', L', nx', h1, h2, h3, h4, h5, h6⟩
    cases e with
    | normal => exact wpIn_mono ((ihy h6).run ρ' a' w' h1 h3 h4 h5.2) fun e a2 w2 hf => Fin.trans h2 h5.1 hf
    | _ => exact ⟨ρ', s', L', nx', h1, h2, h3, h4, h5, h6⟩
  | cond c x y ihx ihy =>
    intro K s L nx h
    refine ⟨fun ρ a w hna hs hp hi => ?_⟩
    simp only [vc] at h
    split at h
    · rename_i hc
      exact wpIn_cond_true (hs.ev c _ hc).1 ((ihx h).run ρ a w hna hs hp hi)
    · rename_i hc
      exact wpIn_cond_false (hs.ev c _ hc).1 ((ihy h).run ρ a w hna hs hp hi)
    · rename_i p hc
      refine wpIn_cond_split (hs.ev c _ hc).1 (fun hp' => (ihx (h.1 hp')).run ρ a w hna hs hp hi) (fun hp' => (ihy (h.2 hp')).run ρ a w hna hs hp hi)
    · exact h.elim
  | block id c ih =>
    intro K s L nx h
    refine ⟨fun ρ a w hna hs hp hi => wpIn_block (wpIn_mono ((ih h).run ρ a w hna hs hp hi) ?_)⟩
    rintro e a' w' ⟨ρ', s', L', nx', h1, h2, h3, h4, h5, h6⟩
    cases e with
    | exit id' =>
      simp only at h6
      simp only [Exit.inBlock]
      cases hb : Nat.beq id' id with
      | true =>
        rw [hb] at h6
        rw [if_pos (Nat.eq_of_beq_eq_true hb)]
        exact ⟨ρ', s', L', nx', h1, h2, h3, h4, h5, h6⟩
      | false =>
        rw [hb] at h6
        rw [if_neg (fun he => by rw [he] at hb; simp at hb)]
        exact ⟨ρ', s', L', nx', h1, h2, h3, h4, h5, h6⟩
    | _ => exact ⟨ρ', s', L', nx', h1, h2, h3, h4, h5, h6⟩
  | loop c _ => intro K s L nx h; exact h
  | exit id => intro K s L nx h; exact ⟨fun ρ a w hna hs hp hi => wpIn_exit (stay hna hs hp hi h)⟩
  | scope c ih =>
    intro K s L nx h
    refine ⟨fun ρ a w hna hs hp hi => wpIn_scope_straight (wpIn_mono ((ih h).run ρ a w hna hs hp hi) ?_)⟩
    rintro e a' w' ⟨ρ', s', L', nx', h1, h2, h3, h4, h5, h6⟩
    cases e with
    | goto l => exact h6.elim
    | _ => exact ⟨ρ', s', L', nx', h1, h2, h3, h4, h5, h6⟩
  | label l => intro K s L nx h; exact ⟨fun ρ a w hna hs hp hi => wpIn_label (stay hna hs hp hi h)⟩
  | ret => intro K s L nx h; exact ⟨fun ρ a w hna hs hp hi => wpIn_ret (stay hna hs hp hi h)⟩
  | rangeFunc => intro K s L nx h; exact h
  | goto => intro K s L nx h; exact h
  | refuse => intro K s L nx h; exact h
end

end Go.Proofs.Ytjijjncddjkdlaa

