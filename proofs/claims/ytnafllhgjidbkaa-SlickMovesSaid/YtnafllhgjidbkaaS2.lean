/- What an operation that turns no memory asks and yields, computed over symbols. -/
import Derived.Test.YtnafllhgjidbkaaS1
namespace Go.Proofs.Ytnafllhgjidbkaa
open Go.RowKit
set_option linter.unusedVariables false
set_option linter.unusedSimpArgs false

abbrev S := List (Nat × V)
inductive TK where
  | int (k : IntKind)
  | bool
  | one
  | str (fs : List (Nat × Nat))
  | arr (n e : Nat)
  | sl (e : Nat)
structure TD where
  size : Nat
  bytes : Nat
  zero : List C
  kd : TK
def TK.agg : TK → Bool
  | .str _ => true
  | .arr _ _ => true
  | _ => false
def lookT (T : List (Nat × TD)) (t : Nat) : Option TD :=
  match T with
  | [] => none
  | (k, d) :: r => bif Nat.beq k t then some d else lookT r t
def TKOK (P : Program) (t : Nat) : TK → Prop
  | .int k => P.underlying t = some (.int k)
  | .bool => P.underlying t = some .bool
  | .one => ∃ u, P.underlying t = some u ∧ (match u with | .struct _ | .array _ _ => true | _ => false) = false
  | .str fs => ∃ F, P.underlying t = some (.struct F) ∧ F.toList.map (fun f => (f.offset, f.type)) = fs
  | .arr n e => P.underlying t = some (.array n e)
  | .sl e => P.underlying t = some (.slice e)
def TDOK (P : Program) (t : Nat) (d : TD) : Prop :=
  ∃ i z, P.info? t = some i ∧ i.size = d.size ∧ i.bytes = d.bytes ∧ i.zero = some z ∧ (∀ ρ, z.cells = (d.zero.map (C.den ρ)).toArray) ∧ d.zero.length = d.size ∧ (∀ c ∈ d.zero, c.wf 0) ∧ TKOK P t d.kd
def TOK (P : Program) (T : List (Nat × TD)) : Prop := ∀ p ∈ T, TDOK P p.1 p.2
theorem lookT_ok {P : Program} {T : List (Nat × TD)} (h : TOK P T) {t : Nat} {d : TD} (hl : lookT T t = some d) : TDOK P t d := by
  induction T with
  | nil => simp [lookT] at hl
  | cons p r ih =>
    obtain ⟨k, v⟩ := p
    simp only [lookT] at hl
    cases hb : Nat.beq k t with
    | true => rw [hb] at hl; cases hl; rw [← Nat.eq_of_beq_eq_true hb]; exact h _ (List.mem_cons_self)
    | false => rw [hb] at hl; exact ih (fun q hq => h q (by simp [hq])) hl
theorem TDOK.isAgg {P : Program} {t : Nat} {d : TD} (h : TDOK P t d) : ∃ u, P.underlying t = some u ∧ (match u with | .struct _ | .array _ _ => true | _ => false) = d.kd.agg := by
  obtain ⟨i, z, _, _, _, _, _, _, _, hk⟩ := h
  cases hd : d.kd <;> rw [hd] at hk <;> simp only [TKOK] at hk
  case int k => exact ⟨_, hk, rfl⟩
  case bool => exact ⟨_, hk, rfl⟩
  case one => obtain ⟨u, h1, h2⟩ := hk; exact ⟨u, h1, h2⟩
  case str fs => obtain ⟨F, h1, h2⟩ := hk; exact ⟨_, h1, rfl⟩
  case arr n e => exact ⟨_, hk, rfl⟩
  case sl e => exact ⟨_, hk, rfl⟩

def look (s : S) (t : Nat) : Option V :=
  match s with
  | [] => none
  | (k, v) :: r => bif Nat.beq k t then some v else look r t
def onV {α : Type} (o : Option α) (k : α → Prop) : Prop :=
  match o with
  | some x => k x
  | none => False
theorem onV_iff {α : Type} {o : Option α} {k : α → Prop} (h : onV o k) : ∃ x, o = some x ∧ k x := by
  cases o with
  | none => exact h.elim
  | some x => exact ⟨x, rfl, h⟩
def C.ofV : Value → Option C
  | .int k n => some (.int k n)
  | .bool true => some .tt
  | .bool false => some .ff
  | .slice none 0 0 => some .nil
  | .agg _ => none
  | .tuple _ => none
  | x => some (.v x)
theorem C.ofV_ok {x : Value} {c : C} (h : C.ofV x = some c) (ρ : Env) (n : Nat) : c.den ρ = x ∧ c.wf n := by
  unfold C.ofV at h
  split at h <;> first | cases h; done | (cases h; exact ⟨rfl, trivial⟩) | skip
  cases h
  refine ⟨rfl, ?_⟩
  simp only [C.wf]
  cases x <;> first | rfl | (exfalso; simp_all)
def seqO {α : Type} : List (Option α) → Option (List α)
  | [] => some []
  | none :: _ => none
  | some x :: r => match seqO r with
    | some l => some (x :: l)
    | none => none
theorem seqO_ok {α β : Type} {f : β → Option α} : ∀ {l : List β} {m : List α}, seqO (l.map f) = some m → l.length = m.length ∧ ∀ i (h : i < l.length) (h' : i < m.length), f l[i] = some m[i]
  | [], m, h => by simp [seqO] at h; subst h; simp
  | x :: l, m, h => by
    simp only [List.map_cons] at h
    cases hx : f x with
    | none => rw [hx] at h; simp [seqO] at h
    | some y =>
      rw [hx] at h
      simp only [seqO] at h
      cases hr : seqO (l.map f) with
      | none => rw [hr] at h; cases h
      | some k =>
        rw [hr] at h
        cases h
        obtain ⟨h1, h2⟩ := seqO_ok hr
        refine ⟨by simp [h1], fun i hi hi' => ?_⟩
        cases i with
        | zero => exact hx
        | succ i => exact h2 i (by simpa using hi) (by simpa using hi')
def V.ofV : Value → Option V
  | .agg cs => (match seqO (cs.toList.map C.ofV) with | some l => some (.agg l) | none => none)
  | .tuple vs => (match vs.toList with | [] => some (.tup []) | _ => none)
  | x => (match C.ofV x with | some c => some (V.c c) | none => none)
theorem V.ofV_ok {x : Value} {c : V} (h : V.ofV x = some c) (ρ : Env) (n : Nat) : c.den ρ = x ∧ c.wf n := by
  unfold V.ofV at h
  split at h
  · rename_i cs
    split at h
    · rename_i l hl
      cases h
      obtain ⟨h1, h2⟩ := seqO_ok hl
      constructor
      · simp only [V.den, A.den, Value.agg.injEq]
        apply Array.ext'
        apply List.ext_getElem
        · simpa using h1.symm
        · intro i hi hi'
          have h3 := h2 i hi' (by simpa using hi)
          simpa using (C.ofV_ok h3 ρ n).1
      · intro c hc
        obtain ⟨i, hi, rfl⟩ := List.mem_iff_getElem.1 hc
        exact (C.ofV_ok (h2 i (by omega) hi) ρ n).2
    · cases h
  · rename_i vs
    split at h
    · rename_i hv
      cases h
      refine ⟨?_, by simp [V.wf]⟩
      simp only [V.den, List.map_nil]
      congr 1
      apply Array.ext'
      simp [hv]
    · cases h
  · split at h
    · rename_i c' hc
      cases h
      exact C.ofV_ok hc ρ n
    · cases h
def ev (s : S) : Operand → Option V
  | .tmp t => look s t
  | .const v => V.ofV v
  | .func f => some (V.c (.fn f []))
  | .global _ => none
def evs (s : S) (l : List Operand) : Option (List V) := seqO (l.map (ev s))
/-- The operands hold what the symbols say. -/
def EvOK (ρ : Env) (a : Act) (s : S) (nx : Nat) (l : List Operand) : Prop := ∀ x ∈ l, ∀ v, ev s x = some v → a.eval x = v.den ρ ∧ v.wf nx

def inK (k : IntKind) (n : Int) : Prop :=
  match k with
  | .i64 => -9223372036854775808 ≤ n ∧ n ≤ 9223372036854775807
  | .u64 => 0 ≤ n ∧ n ≤ 18446744073709551615
  | .i32 => -2147483648 ≤ n ∧ n ≤ 2147483647
  | .u8 => 0 ≤ n ∧ n ≤ 255
  | _ => False
theorem inK_wrap {k : IntKind} {n : Int} (h : inK k n) : k.wrap n = n := by
  cases k <;> simp only [inK] at h
  case i64 => exact IntWalk.i64_in n h
  case u64 => simp [IntKind.wrap, IntKind.bits, IntKind.signed]; omega
  case i32 => exact IntWalk.i32_in n h
  case u8 => exact IntWalk.u8_in n h
def C.toB : C → Option Bool
  | .tt => some true
  | .ff => some false
  | .bool b => some b
  | _ => none
theorem C.toB_den {c : C} {b : Bool} (h : c.toB = some b) (ρ : Env) : c.den ρ = .bool b := by
  cases c <;> simp only [C.toB] at h <;> cases h <;> rfl
/-- The same kind of integers. -/
def sameK (k k' : IntKind) (p : Prop) : Prop :=
  match k, k' with
  | .i64, .i64 => p
  | .u8, .u8 => p
  | .u64, .u64 => p
  | .i32, .i32 => p
  | _, _ => False
theorem sameK_iff {k k' : IntKind} {p : Prop} (h : sameK k k' p) : k = k' ∧ p := by
  unfold sameK at h
  split at h <;> first | exact ⟨rfl, h⟩ | exact h.elim
def binI (op : BinOp) (k k' : IntKind) (x y : Int) (K : C → Prop) : Prop :=
  match op with
  | .add => sameK k k' (inK k (x + y) ∧ K (.int k (x + y)))
  | .sub => sameK k k' (inK k (x - y) ∧ K (.int k (x - y)))
  | .mul => sameK k k' (inK k (x * y) ∧ K (.int k (x * y)))
  | .quo => sameK k k' ((0 ≤ x ∧ 0 < y ∧ inK k (x / y)) ∧ K (.int k (x / y)))
  | .rem => sameK k k' ((0 ≤ x ∧ 0 < y) ∧ K (.int k (x % y)))
  | .shl => (k = .i64 ∧ 0 ≤ y ∧ y < 64 ∧ inK k (x * 2 ^ y.toNat)) ∧ K (.int k (x * 2 ^ y.toNat))
  | .eql => sameK k k' (K (.bool (decide (x = y))))
  | .neq => sameK k k' (K (.bool (decide (x ≠ y))))
  | .lss => sameK k k' (K (.bool (decide (x < y))))
  | .leq => sameK k k' (K (.bool (decide (x ≤ y))))
  | .gtr => sameK k k' (K (.bool (decide (x > y))))
  | .geq => sameK k k' (K (.bool (decide (x ≥ y))))
  | _ => False
def rdBin (T : List (Nat × TD)) (t : Nat) (op : BinOp) (x y : Option V) (K : C → Prop) : Prop :=
  match x, y with
  | some (.a (.c (.int k x))), some (.a (.c (.int k' y))) => binI op k k' x y K
  | some (.a (.c x)), some (.a (.c y)) => onV x.toB fun p => onV y.toB fun q => onV (lookT T t) fun d => match d.kd, op with
    | .bool, .eql => K (.bool (p == q))
    | .bool, .neq => K (.bool (p != q))
    | _, _ => False
  | _, _ => False
section
variable {P : Program} {w : World}
theorem binI_ok {op : BinOp} {k k' : IntKind} {x y : Int} {K : C → Prop} (t : TypeId) (h : binI op k k' x y K) (ρ : Env) : ∃ c, K c ∧ (∀ n, c.wf n) ∧ (binOp op t (.int k x) (.int k' y)).run P w = .ok (c.den ρ) w := by
  cases op <;> simp only [binI] at h <;> try exact h.elim
  case add => obtain ⟨rfl, h1, h2⟩ := sameK_iff h; exact ⟨_, h2, fun _ => trivial, by simp [binOp, Op.intArith, C.den, inK_wrap h1]⟩
  case sub => obtain ⟨rfl, h1, h2⟩ := sameK_iff h; exact ⟨_, h2, fun _ => trivial, by simp [binOp, Op.intArith, C.den, inK_wrap h1]⟩
  case mul => obtain ⟨rfl, h1, h2⟩ := sameK_iff h; exact ⟨_, h2, fun _ => trivial, by simp [binOp, Op.intArith, C.den, inK_wrap h1]⟩
  case quo =>
    obtain ⟨rfl, ⟨h1, h3, h4⟩, h2⟩ := sameK_iff h
    refine ⟨_, h2, fun _ => trivial, ?_⟩
    have : y ≠ 0 := by omega
    simp [binOp, Op.intDiv, C.den, this, Int.tdiv_eq_ediv_of_nonneg h1, inK_wrap h4]
  case rem =>
    obtain ⟨rfl, ⟨h1, h3⟩, h2⟩ := sameK_iff h
    refine ⟨_, h2, fun _ => trivial, ?_⟩
    have : y ≠ 0 := by omega
    simp [binOp, Op.intDiv, C.den, this, Int.tmod_eq_emod_of_nonneg h1]
  case shl =>
    obtain ⟨⟨rfl, h1, h3, h4⟩, h2⟩ := h
    refine ⟨_, h2, fun _ => trivial, ?_⟩
    have hy : ¬ y < 0 := by omega
    have hk : min y.toNat IntKind.i64.bits = y.toNat := by simp [IntKind.bits]; omega
    simp [binOp, Op.shift, C.den, hy, hk, inK_wrap h4]
  case eql => obtain ⟨rfl, h2⟩ := sameK_iff h; exact ⟨_, h2, fun _ => trivial, by simp [binOp, Op.intCmp, C.den]; rw [Bool.eq_iff_iff]; simp⟩
  case neq => obtain ⟨rfl, h2⟩ := sameK_iff h; exact ⟨_, h2, fun _ => trivial, by simp [binOp, Op.intCmp, C.den]; rw [Bool.eq_iff_iff]; simp⟩
  case lss => obtain ⟨rfl, h2⟩ := sameK_iff h; exact ⟨_, h2, fun _ => trivial, by simp [binOp, Op.intCmp, C.den]⟩
  case leq => obtain ⟨rfl, h2⟩ := sameK_iff h; exact ⟨_, h2, fun _ => trivial, by simp [binOp, Op.intCmp, C.den]⟩
  case gtr => obtain ⟨rfl, h2⟩ := sameK_iff h; exact ⟨_, h2, fun _ => trivial, by simp [binOp, Op.intCmp, C.den]⟩
  case geq => obtain ⟨rfl, h2⟩ := sameK_iff h; exact ⟨_, h2, fun _ => trivial, by simp [binOp, Op.intCmp, C.den]⟩
end
end Go.Proofs.Ytnafllhgjidbkaa
