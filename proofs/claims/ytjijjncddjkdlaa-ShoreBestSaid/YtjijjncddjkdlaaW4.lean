/- Texts of the proof, part 4: U18, U19, V1, V2, V3, U20, U21, U22, U23, U24, V4, O1, U25, V5, U26, N1, E3, G1, N2, N3, N4, N5. -/
import Derived.Test.YtjijjncddjkdlaaW3
import Derived.WalkKit
import Derived.Below
import Derived.Laws.OwnMore
import Derived.Maps.AppendAt
import Derived.Laws.IdiomCopy
import Derived.Laws.CopyRow
import Derived.IntWalk
import Derived.StillTail
import Derived.Scope
import Derived.ChangeKeysEq
import Derived.Laws.Small
import Derived.OrdersIn
import Derived.TacticsIn
import Derived.OwnWalkIn
import Derived.RangeFuncNested
import Derived.RangeFuncLeaves
import Derived.RangeFuncRecord
import Derived.Maps.Keyed
import Derived.Maps.RangeRun
import Derived.DeepKeys4
import Derived.Test.YtjijjncddjkdlaaRows
import Derived.KernelRfl
import Derived.ProofKit
import Derived.OpenShut
import Derived.Lib.SmallJoins
import Derived.Deep.Slices
import Derived.PlainAid
import Derived.StillTailTactics
import Derived.WalkSpells
import Derived.OwnWalk
import Derived.Lib.AppendZerosOnto
import Derived.Lib.AppendZeros
import Derived.Deep.AppendSrc
import Derived.Lib.SliceRun
import Derived.Lib.Walk
/- Shore: best. -/
namespace Go.Proofs.Ytjijjncddjkdlaa
open Go.RowKit
set_option linter.unusedVariables false
set_option linter.unusedSimpArgs false
theorem bool_or (b : Bool) : b = false ∨ b = true := by cases b <;> simp
def natsC (l : List Nat) : List Int := l.map Int.ofNat
@[simp] theorem natsC_len (l : List Nat) : (natsC l).length = l.length := by simp [natsC]
theorem natsC_get (l : List Nat) (k : Nat) : (natsC l).getD k 0 = (l.getD k 0 : Nat) := by
  simp only [natsC, List.getD_eq_getElem?_getD, List.getElem?_map]
  cases l[k]? <;> rfl
theorem natsL {l : List Nat} {k : Nat} {z : Int} (hz : z = k) (h : k < l.length) : ((natsC l).map C.i)[mulS z.toNat 1]? = some (C.i (l.getD k 0 : Nat)) := by
  rw [intLz hz (by rw [natsC_len]; exact h), natsC_get]
theorem natsS {l : List Nat} {b w : Nat} {z v : Int} (hz : z = b) (hv : v = w) : setL ((natsC l).map C.i) (mulS z.toNat 1) [C.i v] = (natsC (l.set b w)).map C.i := by
  subst hz hv
  rw [mulS_eq]
  simp only [setL, natsC, Int.toNat_natCast, Nat.mul_one, List.map_set]
  rfl
theorem natsA {l : List Nat} {b : Nat} {z : Int} (hz : z = b) : (natsC (l ++ [b])).map C.i = (natsC l).map C.i ++ [C.i z] := by
  subst hz; simp [natsC]
theorem nats_zero {n : Nat} : repC n [C.i 0] = (natsC (List.replicate n 0)).map C.i := by
  induction n with
  | zero => rfl
  | succ n ih => rw [List.replicate_succ, natsC, List.map_cons, List.map_cons, ← natsC, ← ih]; rfl
/-- A renaming that leaves the beaches alone. -/
def okR (R : Rn) : Bool := R.all fun p => Nat.ble 21 p.1 && (match p.2 with | some v => Nat.ble 21 v | none => true)
theorem renL_low : ∀ {R : Rn} {l : Nat}, okR R = true → l ≤ 20 → renL R l = some l
  | [], l, _, _ => rfl
  | p :: R, l, h, hl => by
    simp only [okR, List.all_cons, Bool.and_eq_true] at h
    have h1 := Nat.le_of_ble_eq_true h.1.1
    have : Nat.beq p.1 l = false := by
      cases hb : Nat.beq p.1 l with
      | false => rfl
      | true => have := Nat.eq_of_beq_eq_true hb; omega
    simp only [renL, this, cond_false]
    exact renL_low h.2 hl
theorem renL_high : ∀ {R : Rn} {l v : Nat}, okR R = true → 21 ≤ l → renL R l = some v → 21 ≤ v
  | [], l, v, _, hl, e => by cases e; exact hl
  | p :: R, l, v, h, hl, e => by
    simp only [okR, List.all_cons, Bool.and_eq_true] at h
    simp only [renL] at e
    cases hb : Nat.beq p.1 l with
    | true =>
      rw [hb] at e; simp only [cond_true] at e
      have := h.1.2; rw [e] at this
      exact Nat.le_of_ble_eq_true this
    | false =>
      rw [hb] at e; simp only [cond_false] at e
      exact renL_high h.2 hl e
theorem beq_ne {a b : Nat} (h : a ≠ b) : Nat.beq a b = false := by
  cases hb : Nat.beq a b with
  | false => rfl
  | true => exact absurd (Nat.eq_of_beq_eq_true hb) h
theorem injB_entCR {R : Rn} (hR : okR R = true) : ∀ {b : Nat} {j : Coast}, b + j.length ≤ 21 → injB R (entC b j) = true
  | b, [], _ => rfl
  | b, x :: r, h => by
    simp only [List.length_cons] at h
    simp only [entC, injB, Bool.and_eq_true]
    refine ⟨List.all_eq_true.2 fun e he => ?_, injB_entCR hR (by omega)⟩
    obtain ⟨k, hk, rfl⟩ := entC_mem he
    simp only [renL_low hR (show b ≤ 20 by omega), renL_low hR (show b + 1 + k ≤ 20 by omega), beq_ne (show b + 1 + k ≠ b by omega), beq_ne (show b ≠ b + 1 + k by omega)]
    rfl
theorem injB_entR {R : Rn} (hR : okR R = true) {j : Coast} (hj : j.length ≤ 20) : ∀ {p : List E}, (p.all fun e => Nat.beq e.lab 0 || Nat.ble 21 e.lab) = true → injB R p = true → injB R (p ++ entC 1 j) = true
  | [], _, _ => injB_entCR hR (by omega)
  | x :: p, h1, h2 => by
    simp only [List.all_cons, Bool.and_eq_true] at h1
    simp only [injB, Bool.and_eq_true] at h2
    simp only [List.cons_append, injB, Bool.and_eq_true]
    refine ⟨List.all_eq_true.2 fun e he => ?_, injB_entR hR hj h1.2 h2.2⟩
    rcases List.mem_append.1 he with he | he
    · exact List.all_eq_true.1 h2.1 e he
    · obtain ⟨k, hk, rfl⟩ := entC_mem he
      have hx : x.lab = 0 ∨ 21 ≤ x.lab := by
        have := h1.1
        simp only [Bool.or_eq_true] at this
        exact this.imp Nat.eq_of_beq_eq_true Nat.le_of_ble_eq_true
      simp only [renL_low hR (show 1 + k ≤ 20 by omega), beq_ne (show 1 + k ≠ x.lab by omega)]
      cases hv : renL R x.lab with
      | none => rfl
      | some v =>
        have : v ≠ 1 + k := by
          rcases hx with h0 | h0
          · rw [h0, renL_low hR (by omega)] at hv; cases hv; omega
          · have := renL_high hR h0 hv; omega
        simp only [beq_ne this]
        rfl
theorem covL_entR {R : Rn} (hR : okR R = true) {nx : Nat} {L : List E} {b : Nat} {j : Coast} (hb : b + j.length ≤ 21) (hnx : b + j.length ≤ nx) (hL : ∀ k, k < j.length → find L (b + k) = find (entC b j) (b + k)) : covL R nx L (entC b j) := by
  refine covL_all fun e he => ?_
  obtain ⟨k, hk, rfl⟩ := entC_mem he
  exact covE_some (renL_low hR (by simp only; omega)) (by simp only; omega) (wf_jobs _ _) ((hL k hk).trans (entC_find hk)) (ren_jobs _ _)
theorem ren_sls_of {R : Rn} (hR : ∀ l, l ≤ 20 → renL R l = some l) : ∀ {b : Nat} {j : Coast}, b + j.length ≤ 21 → seqO ((slsC b j).map (C.ren R)) = some (slsC b j)
  | b, [], _ => rfl
  | b, x :: r, h => by
    simp only [List.length_cons] at h
    simp only [slsC, List.map_cons, C.ren, hR b (show b ≤ 20 by omega), seqO, ren_sls_of hR (show b + 1 + r.length ≤ 21 by omega)]
theorem ren_sls {R : Rn} (hR : okR R = true) : ∀ {b : Nat} {j : Coast}, b + j.length ≤ 21 → seqO ((slsC b j).map (C.ren R)) = some (slsC b j)
  | b, [], _ => rfl
  | b, x :: r, h => by
    simp only [List.length_cons] at h
    simp only [slsC, List.map_cons, C.ren, renL_low hR (show b ≤ 20 by omega), seqO, ren_sls hR (show b + 1 + r.length ≤ 21 by omega)]
/-- The lead of a beach from a job on: hours, harm, last. -/
def leadS (l : List Job) (f : Nat) : Pc := (runS l f (l.length - f)).2
theorem leadS_bd {l : List Job} {f : Nat} (hj : JobsOk l) (hf : f ≤ l.length) (hl : l.length ≤ 100) : 0 ≤ (leadS l f).1 ∧ (leadS l f).1 ≤ 20000 ∧ 0 ≤ (leadS l f).2.1 ∧ (leadS l f).2.1 ≤ 20000 := by
  have := runS_bd (f := f) hj (l.length - f) (by omega)
  unfold leadS; omega
theorem leadS_end {l : List Job} {f : Nat} (hf : l.length ≤ f) : leadS l f = (0, 0, 0) := by
  unfold leadS; rw [show l.length - f = 0 by omega]; rfl
theorem runS_pos {l : List Job} {f : Nat} (hj : JobsOk l) : ∀ n, f + (n + 1) ≤ l.length → 0 < (runS l f (n + 1)).1.1 ∧ 0 < (runS l f (n + 1)).2.1 ∧ (f : Int) ≤ (runS l f (n + 1)).2.2.2 ∧ (runS l f (n + 1)).2.2.2 < ((f + (n + 1) : Nat) : Int)
  | 0, h => by
    have hb := hj (f + 0) (by omega)
    have e : aboveB (runS l f 0).2 ((runS l f 0).1.1 + (l.getD (f + 0) (0, 0)).1, (runS l f 0).1.2.1 + (l.getD (f + 0) (0, 0)).2, ((f + 0 : Nat) : Int)) = false := by
      have hb2 := hj f (by omega)
      simp [runS, aboveB]; rw [← List.getD_eq_getElem?_getD]; omega
    rw [runS]
    simp only [e]
    simp only [runS, Bool.false_eq_true, if_false]
    refine ⟨by omega, by omega, by omega, by omega⟩
  | n + 1, h => by
    have ih := runS_pos (f := f) hj n (by omega)
    have hb := hj (f + (n + 1)) (by omega)
    rw [runS]
    simp only
    refine ⟨by omega, ?_⟩
    split
    · exact ⟨ih.2.1, ih.2.2.1, by omega⟩
    · exact ⟨by simp only; omega, by simp only; omega, by simp only; omega⟩
theorem leadS_pos {l : List Job} {f : Nat} (hj : JobsOk l) (hf : f < l.length) : 0 < (leadS l f).1 ∧ (f : Int) ≤ (leadS l f).2.2 ∧ (leadS l f).2.2 < (l.length : Int) := by
  obtain ⟨n, hn⟩ : ∃ n, l.length - f = n + 1 := ⟨l.length - f - 1, by omega⟩
  have := runS_pos (f := f) hj n (by omega)
  unfold leadS; rw [hn]
  refine ⟨this.2.1, this.2.2.1, by have := this.2.2.2; omega⟩
/-- The greatest lead of the first k beaches, and its beach. -/
def topS (j : Coast) (nx : List Nat) : Nat → Pc × Nat
  | 0 => ((0, 0, 0), 0)
  | k + 1 => let p := leadS (j.getD k []) (nx.getD k 0); if 0 < p.1 ∧ aboveB p (topS j nx k).1 = true then (p, k) else topS j nx k
structure NxOk (j : Coast) (nx : List Nat) : Prop where
  len : nx.length = j.length
  le : ∀ b, b < j.length → nx.getD b 0 ≤ (j.getD b []).length
theorem topS_cases {j : Coast} {nx : List Nat} (hj : CoastOk j) (hn : NxOk j nx) : ∀ k, k ≤ j.length →
    (topS j nx k = ((0, 0, 0), 0) ∧ ∀ b, b < k → nx.getD b 0 = (j.getD b []).length) ∨
    (0 < (topS j nx k).1.1 ∧ (topS j nx k).2 < k ∧ nx.getD (topS j nx k).2 0 < (j.getD (topS j nx k).2 []).length ∧ (topS j nx k).1 = leadS (j.getD (topS j nx k).2 []) (nx.getD (topS j nx k).2 0))
  | 0, _ => .inl ⟨rfl, fun b hb => by omega⟩
  | k + 1, hk => by
    have ih := topS_cases hj hn k (by omega)
    have hle := hn.le k (by omega)
    simp only [topS]
    by_cases hp : nx.getD k 0 < (j.getD k []).length
    · have h1 := leadS_pos (hj.jobs k (by omega)).1 hp
      by_cases ha : aboveB (leadS (j.getD k []) (nx.getD k 0)) (topS j nx k).1 = true
      · rw [if_pos ⟨h1.1, ha⟩]
        exact .inr ⟨h1.1, by simp only; omega, hp, rfl⟩
      · rw [if_neg (fun h => ha h.2)]
        rcases ih with ⟨e, _⟩ | ⟨a1, a2, a3, a4⟩
        · rw [e] at ha; exact absurd rfl ha
        · exact .inr ⟨a1, by omega, a3, a4⟩
    · have h1 : leadS (j.getD k []) (nx.getD k 0) = (0, 0, 0) := leadS_end (by omega)
      rw [h1, if_neg (fun h => absurd h.1 (by simp only; omega))]
      rcases ih with ⟨e, h⟩ | ⟨a1, a2, a3, a4⟩
      · exact .inl ⟨e, fun b hb => by
          by_cases he : b = k
          · subst he; omega
          · exact h b (by omega)⟩
      · exact .inr ⟨a1, by omega, a3, a4⟩
theorem topS_bd {j : Coast} {nx : List Nat} (hj : CoastOk j) (hn : NxOk j nx) {k : Nat} (hk : k ≤ j.length) : 0 ≤ (topS j nx k).1.1 ∧ (topS j nx k).1.1 ≤ 20000 ∧ 0 ≤ (topS j nx k).1.2.1 ∧ (topS j nx k).1.2.1 ≤ 20000 := by
  rcases topS_cases hj hn k hk with ⟨e, _⟩ | ⟨a1, a2, a3, a4⟩
  · rw [e]; exact ⟨by simp only; omega, by simp only; omega, by simp only; omega, by simp only; omega⟩
  · rw [a4]; exact leadS_bd (hj.jobs _ (by omega)).1 (by omega) (hj.jobs _ (by omega)).2
/-- How many jobs the greatest lead has. -/
def takeS (j : Coast) (nx : List Nat) : Nat := ((topS j nx j.length).1.2.2 + 1).toNat - nx.getD (topS j nx j.length).2 0
/-- The order by leads, and how many jobs of each beach are in it, after some leads. -/
def bestF (j : Coast) : Nat → List Nat × List Nat
  | 0 => ([], List.replicate j.length 0)
  | i + 1 =>
    let s := bestF j i
    if s.1.length < manyN j j.length then
      let b := (topS j s.2 j.length).2
      (s.1 ++ List.replicate (takeS j s.2) b, s.2.set b (s.2.getD b 0 + takeS j s.2))
    else s
def bestO (j : Coast) : List Nat := (bestF j (manyN j j.length)).1
theorem sum_le_many {j : Coast} {nx : List Nat} (hn : NxOk j nx) : nx.sum ≤ manyN j j.length ∧ (nx.sum = manyN j j.length ↔ ∀ b, b < j.length → nx.getD b 0 = (j.getD b []).length) := by
  obtain ⟨h1, h2⟩ := hn
  have key : ∀ (j : Coast) (nx : List Nat), nx.length = j.length → (∀ b, b < j.length → nx.getD b 0 ≤ (j.getD b []).length) → nx.sum ≤ (j.map List.length).sum ∧ (nx.sum = (j.map List.length).sum ↔ ∀ b, b < j.length → nx.getD b 0 = (j.getD b []).length) := by
    intro j
    induction j with
    | nil => intro nx h1 _; rw [List.length_nil, List.length_eq_zero_iff] at h1; subst h1; simp
    | cons x j ih =>
      intro nx h1 h2
      match nx, h1 with
      | y :: nx, h1 =>
        simp only [List.length_cons, Nat.add_right_cancel_iff] at h1
        have h0 : y ≤ x.length := h2 0 (by simp)
        obtain ⟨i1, i2⟩ := ih nx h1 (fun b hb => h2 (b + 1) (by simp; omega))
        simp only [List.sum_cons, List.map_cons]
        refine ⟨by omega, ?_⟩
        constructor
        · intro h b hb
          match b with
          | 0 => show y = x.length; omega
          | b + 1 =>
            simp only [List.length_cons] at hb
            exact i2.1 (by omega) b (by omega)
        · intro h
          have e0 : y = x.length := h 0 (by simp)
          have := i2.2 (fun b hb => h (b + 1) (by simp; omega))
          omega
  unfold manyN
  rw [List.take_length]
  exact key j nx h1 h2
theorem set_sum {l : List Nat} {b m : Nat} (hb : b < l.length) : (l.set b (l.getD b 0 + m)).sum = l.sum + m := by
  induction l generalizing b with
  | nil => simp at hb
  | cons x l ih =>
    cases b with
    | zero => simp; omega
    | succ b =>
      simp only [List.length_cons, Nat.add_lt_add_iff_right] at hb
      simp only [List.set_cons_succ, List.getD_cons_succ, List.sum_cons, ih hb]; omega
theorem getD_set {l : List Nat} {b c v : Nat} (hb : b < l.length) : (l.set b v).getD c 0 = if c = b then v else l.getD c 0 := by
  simp only [List.getD_eq_getElem?_getD, List.getElem?_set]
  by_cases h : c = b
  · subst h; simp [hb]
  · rw [if_neg (fun e => h e.symm), if_neg h]
/-- What holds after some leads. -/
structure BOk (j : Coast) (s : List Nat × List Nat) : Prop where
  nx : NxOk j s.2
  sum : s.1.length = s.2.sum
theorem top_some {j : Coast} {s : List Nat × List Nat} (hj : CoastOk j) (h : BOk j s) (hlt : s.1.length < manyN j j.length) :
    let t := topS j s.2 j.length
    0 < t.1.1 ∧ t.2 < j.length ∧ s.2.getD t.2 0 < (j.getD t.2 []).length ∧ t.1 = leadS (j.getD t.2 []) (s.2.getD t.2 0) := by
  rcases topS_cases hj h.nx j.length (Nat.le_refl _) with ⟨_, e⟩ | h2
  · have := (sum_le_many h.nx).2.2 e
    have := h.sum
    omega
  · exact h2
theorem take_bd {j : Coast} {s : List Nat × List Nat} (hj : CoastOk j) (h : BOk j s) (hlt : s.1.length < manyN j j.length) :
    1 ≤ takeS j s.2 ∧ s.2.getD (topS j s.2 j.length).2 0 + takeS j s.2 ≤ (j.getD (topS j s.2 j.length).2 []).length ∧ ((s.2.getD (topS j s.2 j.length).2 0 + takeS j s.2 : Nat) : Int) = (topS j s.2 j.length).1.2.2 + 1 := by
  obtain ⟨a1, a2, a3, a4⟩ := top_some hj h hlt
  have h5 := leadS_pos (hj.jobs _ a2).1 a3
  rw [← a4] at h5
  unfold takeS; omega
theorem bestF_ok {j : Coast} (hj : CoastOk j) : ∀ i, BOk j (bestF j i)
  | 0 => ⟨⟨by simp [bestF], fun b hb => by simp [bestF, List.getD_eq_getElem?_getD, hb]⟩, by simp [bestF]⟩
  | i + 1 => by
    have ih := bestF_ok hj i
    simp only [bestF]
    split
    case isFalse => exact ih
    case isTrue hlt =>
      obtain ⟨a1, a2, a3, a4⟩ := top_some hj ih hlt
      obtain ⟨t1, t2, t3⟩ := take_bd hj ih hlt
      have hl := ih.nx.len
      refine ⟨⟨by simpa using hl, fun b hb => ?_⟩, ?_⟩
      · simp only
        rw [getD_set (by omega)]
        split
        · next h => subst h; exact t2
        · exact ih.nx.le b hb
      · simp only [List.length_append, List.length_replicate]
        rw [set_sum (by omega), ih.sum]
theorem bestF_grow {j : Coast} (hj : CoastOk j) : ∀ i, (bestF j i).1.length ≤ manyN j j.length ∧ (i ≤ (bestF j i).1.length ∨ (bestF j i).1.length = manyN j j.length)
  | 0 => ⟨by simp [bestF], .inl (by simp)⟩
  | i + 1 => by
    have ih := bestF_grow hj i
    have hk := bestF_ok hj (i + 1)
    have h1 := (sum_le_many hk.nx).1
    rw [← hk.sum] at h1
    refine ⟨h1, ?_⟩
    simp only [bestF] at *
    split
    case isTrue hlt =>
      obtain ⟨t1, t2, t3⟩ := take_bd hj (bestF_ok hj i) hlt
      rw [if_pos hlt] at h1
      simp only [List.length_append, List.length_replicate] at h1 ⊢
      omega
    case isFalse hlt => omega
theorem bestF_done {j : Coast} {i : Nat} (h : ¬ (bestF j i).1.length < manyN j j.length) : ∀ k, bestF j (i + k) = bestF j i
  | 0 => rfl
  | k + 1 => by
    have ih := bestF_done h k
    rw [show i + (k + 1) = (i + k) + 1 by omega]
    simp only [bestF]
    rw [ih, if_neg h]
theorem bestO_of {j : Coast} (hj : CoastOk j) {i : Nat} (h : ¬ (bestF j i).1.length < manyN j j.length) : (bestF j i).1 = bestO j := by
  unfold bestO
  by_cases hi : i ≤ manyN j j.length
  · obtain ⟨k, hk⟩ := Nat.exists_eq_add_of_le hi
    rw [hk, bestF_done h k]
  · have h2 := bestF_grow hj (manyN j j.length)
    obtain ⟨k, hk⟩ := Nat.exists_eq_add_of_le (show manyN j j.length ≤ i by omega)
    rw [hk, bestF_done (by omega) k]
theorem bestO_len {j : Coast} (hj : CoastOk j) : (bestO j).length = manyN j j.length := by
  have := bestF_grow hj (manyN j j.length)
  unfold bestO; omega
end Go.Proofs.Ytjijjncddjkdlaa

/- Shore: best, walked. -/
namespace Go.Proofs.Ytjijjncddjkdlaa
open Go.RowKit
set_option linter.unusedVariables false
set_option linter.unusedSimpArgs false
def intsR (l : List Int) (v : V) (L' : List E) : Prop := (v = V.c C.nil ∧ l = []) ∨ ∃ lab, v = V.c (C.sl lab l.length) ∧ find L' lab = some ⟨lab, .vec 3 1, l.map C.i⟩
theorem topS_yes {j : Coast} {nx : List Nat} {k : Nat} (h1 : 0 < (leadS (j.getD k []) (nx.getD k 0)).1) (h2 : aboveB (leadS (j.getD k []) (nx.getD k 0)) (topS j nx k).1 = true) : topS j nx (k + 1) = (leadS (j.getD k []) (nx.getD k 0), k) := by
  simp only [topS]; rw [if_pos ⟨h1, h2⟩]
theorem topS_no1 {j : Coast} {nx : List Nat} {k : Nat} (h1 : ¬ 0 < (leadS (j.getD k []) (nx.getD k 0)).1) : topS j nx (k + 1) = topS j nx k := by
  simp only [topS]; rw [if_neg (fun h => h1 h.1)]
theorem topS_no2 {j : Coast} {nx : List Nat} {k : Nat} (h2 : aboveB (leadS (j.getD k []) (nx.getD k 0)) (topS j nx k).1 = false) : topS j nx (k + 1) = topS j nx k := by
  simp only [topS]; rw [if_neg (fun h => by rw [h.2] at h2; cases h2)]
/-- After m jobs of the greatest lead. -/
def midF (j : Coast) (i m : Nat) : List Nat × List Nat :=
  let b := (topS j (bestF j i).2 j.length).2
  ((bestF j i).1 ++ List.replicate m b, (bestF j i).2.set b ((bestF j i).2.getD b 0 + m))
theorem midF_zero {j : Coast} {i : Nat} : midF j i 0 = bestF j i := by
  simp only [midF, List.replicate_zero, List.append_nil, Nat.add_zero]
  congr 1
  apply List.ext_getElem (by simp)
  intro n h1 h2
  rw [List.getElem_set]
  split
  · next h => subst h; rw [List.getD_eq_getElem?_getD, List.getElem?_eq_getElem h2]; rfl
  · rfl
theorem midF_last {j : Coast} {i : Nat} (h : (bestF j i).1.length < manyN j j.length) : midF j i (takeS j (bestF j i).2) = bestF j (i + 1) := by
  simp only [bestF]; rw [if_pos h]; rfl
theorem midF_len {j : Coast} {i m : Nat} : (midF j i m).1.length = (bestF j i).1.length + m ∧ (midF j i m).2.length = (bestF j i).2.length := by simp [midF]
@[simp] theorem midF_len1 {j : Coast} {i m : Nat} : (midF j i m).1.length = (bestF j i).1.length + m := midF_len.1
theorem midF_row {j : Coast} {i m : Nat} : (natsC (midF j i (m + 1)).1).map C.i = (natsC (midF j i m).1).map C.i ++ [C.i ((topS j (bestF j i).2 j.length).2 : Nat)] := by
  rw [← natsA rfl]
  simp only [midF, List.append_assoc]
  rw [← List.replicate_succ']
theorem midF_get {j : Coast} {i m : Nat} (hb : (topS j (bestF j i).2 j.length).2 < (bestF j i).2.length) : (midF j i m).2.getD (topS j (bestF j i).2 j.length).2 0 = (bestF j i).2.getD (topS j (bestF j i).2 j.length).2 0 + m := by
  simp only [midF]; rw [getD_set hb, if_pos rfl]
theorem midF_set {j : Coast} {i m : Nat} {z v : Int} (hz : z = (topS j (bestF j i).2 j.length).2) (hv : v = ((bestF j i).2.getD (topS j (bestF j i).2 j.length).2 0 + (m + 1) : Nat)) : setL ((natsC (midF j i m).2).map C.i) (mulS z.toNat 1) [C.i v] = (natsC (midF j i (m + 1)).2).map C.i := by
  rw [natsS hz hv]; simp only [midF, List.set_set]
theorem leadS_spec (l : List Job) (f : Nat) (hl : l.length ≤ 100) (hf : f ≤ l.length) (hj : JobsOk l) :
    Spec Try.prog 53 [V.c (.sl 0 l.length), V.i f] [⟨0, .ro 2, jobC l⟩] 1 (Is (V.agg [C.i (leadS l f).1, C.i (leadS l f).2.1, C.i (leadS l f).2.2])) := lead_spec l f hl hf hj
set_option maxHeartbeats 1000000 in
set_option maxRecDepth 100000 in
theorem best_spec (j : Coast) (hj : CoastOk j) (hs : Sized j) (hm12 : manyN j j.length ≤ 100) : Spec Try.prog 58 [V.c (.sl 0 j.length)] (⟨0, .ro 1, slsC 1 j⟩ :: entC 1 j) 32 (fun v L' _ => intsR (natsC (bestO j)) v L') := by
  have hj20 := hj.len
  have hsl := slsC_len (b := 1) (j := j)
  refine Spec.of tok Try.func58 rfl rfl rfl fun n0 cx => vc_ok tok ?_
  repeat ((conv => whnf); first | (refine And.intro (by first | omega | exact Nat.le_of_ble_eq_true rfl | (dsimp only [inK]; omega) | (simp only [mulS_eq]; omega) | (simp only [mulS_eq, setL_length]; omega) | (simp only [setL_length, List.length_map]; omega) | exact ⟨by omega, by omega, by first | exact Nat.le_of_ble_eq_true rfl | (dsimp only; omega) | (simp only [setL_length]; omega) | (simp only [setL_length, List.length_map]; omega)⟩ | exact ⟨by omega, by first | rfl | omega, by omega, Nat.le_of_ble_eq_true rfl, Nat.le_of_ble_eq_true rfl⟩ | exact ⟨rfl, rfl, rfl, Nat.le_of_ble_eq_true rfl, by first | rfl | omega | exact Nat.le_of_ble_eq_true rfl | (dsimp only; omega) | (simp; done) | (simp; omega), by first | rfl | omega | exact Nat.le_of_ble_eq_true rfl | (dsimp only; omega) | (simp; done) | (simp; omega), by omega, Nat.le_of_ble_eq_true rfl⟩ | exact Eq.refl true) ?_) | (refine Exists.intro _ (And.intro rfl ?_)) | (refine And.intro (And.intro rfl (chk_rowI _ _ _ _)) ?_) | (refine br_t (by omega) ?_) | (refine br_f (by omega) ?_) | (refine bs_t (by omega) ?_) | (refine bs_f (by omega) ?_) | (refine fun (K' : K3) hK' => ?_) | (refine hK' _ _ _ ?_; clear hK' K') | (refine draw_auto tok mixed (by kernel_rfl) ?_) | (refine bs_bt (Eq.refl true) ?_) | (refine bs_bf (Eq.refl false) ?_) | (refine br_bt (Eq.refl true) ?_) | (refine br_bf (Eq.refl false) ?_) | (refine CallK.m ?_) | (refine Two.l ?_) | (refine And.intro (And.intro rfl rfl) ?_))
  refine Tri.loop (γ := Nat) (fun _ => True) (fun i => [(0, V.c (.sl 0 j.length)), (3, V.c (.sl 33 (bestF j i).1.length)), (4, V.c (.sl 32 j.length))])
    (fun i => ⟨33, .vec 3 1, (natsC (bestF j i).1).map C.i⟩ :: ⟨32, .vec 3 1, (natsC (bestF j i).2).map C.i⟩ :: ⟨0, .ro 1, slsC 1 j⟩ :: entC 1 j) 34 (fun i => manyN j j.length - (bestF j i).1.length) 0 (R0 := [(33, none)]) ?_ ?_ ?_
  · trivial
  · skip
    refine ⟨?_, ?_, injB_entR (p := [_, _, _]) rfl (by omega) rfl rfl, rfl, by first | exact Nat.le_of_ble_eq_true rfl | exact Nat.le_refl _ | omega⟩
    · repeat (first | exact trivial | refine And.intro (covS_syn (by first | rfl) rfl (by first | exact trivial | exact Nat.le_of_ble_eq_true rfl | exact hy | exact (fun p hp => nomatch hp) | (show (_ : Nat) < _; omega))) ?_ | refine And.intro (covS_bool rfl rfl (by first | rfl)) ?_)
    · repeat (first | exact trivial | (exact covL_entR rfl (by omega) (by omega) (fun k hk => by (try simp only [flatN]); (repeat (first | rw [find_skip (by omega)] | rw [find_hi (by omega) (by rfl)])))) | (refine And.intro (covE_some rfl (Nat.le_of_ble_eq_true rfl) (wf_sls _ _ _ (by omega)) rfl (ren_sls rfl (by omega))) ?_) | refine And.intro (covE_nil rfl (Nat.le_of_ble_eq_true rfl) rfl rfl) ?_ | refine And.intro (covE_some rfl (Nat.le_of_ble_eq_true rfl) (by first | exact wf_ints _ _ | exact wf_bools _ _ | first | exact wf_sls _ _ _ (by omega) | exact wf_jobs _ _ | simp [C.wf]) rfl (by first | exact ren_ints _ _ | exact ren_bools _ _ | exact ren_shares _ _ | (refine (ren_ints _ _).trans (congrArg some ?_); exact nats_zero.symm) | rfl)) ?_)
  · rintro i -
    refine vc_ok tok ?_
    have hok := bestF_ok hj i
    have hgr := bestF_grow hj i
    have hnl := hok.nx.len
    by_cases hlt : (bestF j i).1.length < manyN j j.length
    · obtain ⟨a1, a2, a3, a4⟩ := top_some hj hok hlt
      obtain ⟨t1, t2, t3⟩ := take_bd hj hok hlt
      repeat ((conv => whnf); first | (refine And.intro (by first | omega | exact Nat.le_of_ble_eq_true rfl | (dsimp only [inK]; omega) | (simp only [mulS_eq]; omega) | (simp only [mulS_eq, setL_length]; omega) | (simp only [setL_length, List.length_map]; omega) | exact ⟨by omega, by omega, by first | exact Nat.le_of_ble_eq_true rfl | (dsimp only; omega) | (simp only [setL_length]; omega) | (simp only [setL_length, List.length_map]; omega)⟩ | exact ⟨by omega, by first | rfl | omega, by omega, Nat.le_of_ble_eq_true rfl, Nat.le_of_ble_eq_true rfl⟩ | exact ⟨rfl, rfl, rfl, Nat.le_of_ble_eq_true rfl, by first | rfl | omega | exact Nat.le_of_ble_eq_true rfl | (dsimp only; omega) | (simp; done) | (simp; omega), by first | rfl | omega | exact Nat.le_of_ble_eq_true rfl | (dsimp only; omega) | (simp; done) | (simp; omega), by omega, Nat.le_of_ble_eq_true rfl⟩ | exact Eq.refl true) ?_) | (refine Exists.intro _ (And.intro rfl ?_)) | (refine And.intro (And.intro rfl (chk_rowI _ _ _ _)) ?_) | (refine br_t (by omega) ?_) | (refine br_f (by omega) ?_) | (refine bs_t (by omega) ?_) | (refine bs_f (by omega) ?_) | (refine fun (K' : K3) hK' => ?_) | (refine hK' _ _ _ ?_; clear hK' K') | (refine draw_auto tok mixed (by kernel_rfl) ?_) | (refine CallK.val (R := []) (many_spec j hs.len hs.be) (by kernel_rfl) rfl (by simp [V.wf, A.wf, C.wf]) ⟨roE_id (by omega) (wf_sls _ _ _ (by omega)) rfl (.inr rfl) rfl, trivial⟩ rfl rfl trivial ?_) | (refine bs_bt (Eq.refl true) ?_) | (refine bs_bf (Eq.refl false) ?_) | (refine br_bt (Eq.refl true) ?_) | (refine br_bf (Eq.refl false) ?_) | (refine CallK.m ?_) | (refine Two.l ?_) | (refine And.intro (And.intro rfl rfl) ?_))
      refine Tri.loop (γ := Nat) (fun k => k ≤ j.length) (fun k => [(0, V.c (.sl 0 j.length)), (3, V.c (.sl 33 (bestF j i).1.length)), (4, V.c (.sl 32 j.length)), (5, V.c (.ptr 34 0)), (6, V.i ((topS j (bestF j i).2 k).2 : Nat)), (18, V.c (.sl 0 j.length)), (19, V.i j.length), (20, V.i (k : Nat))])
        (fun k => ⟨34, .own 62, [C.i (topS j (bestF j i).2 k).1.1, C.i (topS j (bestF j i).2 k).1.2.1, C.i (topS j (bestF j i).2 k).1.2.2]⟩ :: ⟨33, .vec 3 1, (natsC (bestF j i).1).map C.i⟩ :: ⟨32, .vec 3 1, (natsC (bestF j i).2).map C.i⟩ :: ⟨0, .ro 1, slsC 1 j⟩ :: entC 1 j) 35 (fun k => j.length - k) 0 (R0 := []) ?_ ?_ ?_
      · omega
      · skip
        refine ⟨?_, ?_, injB_ent (p := [_, _, _, _]) (by omega) rfl rfl, rfl, by first | exact Nat.le_of_ble_eq_true rfl | exact Nat.le_refl _ | omega⟩
        · repeat (first | exact trivial | refine And.intro (covS_syn (by first | rfl) rfl (by first | exact trivial | exact Nat.le_of_ble_eq_true rfl | exact hy | exact (fun p hp => nomatch hp) | (show (_ : Nat) < _; omega))) ?_ | refine And.intro (covS_bool rfl rfl (by first | rfl)) ?_)
        · repeat (first | exact trivial | (exact covL_ent (by omega) (fun k hk => by (try simp only [flatN]); (repeat (first | rw [find_skip (by omega)] | rw [find_hi (by omega) (by rfl)])))) | refine And.intro (covE_id (Nat.le_of_ble_eq_true rfl) (by first | exact wf_ints _ _ | exact wf_bools _ _ | first | exact wf_sls _ _ _ (by omega) | exact wf_jobs _ _ | simp [C.wf]) rfl (by first | rfl)) ?_)
      · rintro k hk
        refine vc_ok tok ?_
        have htb := topS_bd hj hok.nx hk
        have hnm : ((natsC (bestF j i).2).map C.i).length = j.length := by rw [List.length_map, natsC_len, hnl]
        by_cases hkl : k < j.length
        · have hle := hok.nx.le k hkl
          have hjk := hj.jobs k hkl
          have hlb := leadS_bd hjk.1 hle hjk.2
          by_cases hp : (leadS (j.getD k []) ((bestF j i).2.getD k 0)).1 > 0
          · rcases bool_or (aboveB (leadS (j.getD k []) ((bestF j i).2.getD k 0)) (topS j (bestF j i).2 k).1) with hab | hab
            · have hT := topS_no2 hab
              repeat ((conv => whnf); first | (refine And.intro (by first | omega | exact Nat.le_of_ble_eq_true rfl | (dsimp only [inK]; omega) | (simp only [mulS_eq]; omega) | (simp only [mulS_eq, setL_length]; omega) | (simp only [setL_length, List.length_map]; omega) | exact ⟨by omega, by omega, by first | exact Nat.le_of_ble_eq_true rfl | (dsimp only; omega) | (simp only [setL_length]; omega) | (simp only [setL_length, List.length_map]; omega)⟩ | exact ⟨by omega, by first | rfl | omega, by omega, Nat.le_of_ble_eq_true rfl, Nat.le_of_ble_eq_true rfl⟩ | exact ⟨rfl, rfl, rfl, Nat.le_of_ble_eq_true rfl, by first | rfl | omega | exact Nat.le_of_ble_eq_true rfl | (dsimp only; omega) | (simp; done) | (simp; omega), by first | rfl | omega | exact Nat.le_of_ble_eq_true rfl | (dsimp only; omega) | (simp; done) | (simp; omega), by omega, Nat.le_of_ble_eq_true rfl⟩ | exact Eq.refl true) ?_) | (with_reducible refine ld (slL hkl) ?_) | (with_reducible refine ld (natsL rfl (by omega)) ?_) | (refine Exists.intro _ (And.intro rfl ?_)) | (refine And.intro (And.intro rfl (chk_rowI _ _ _ _)) ?_) | (refine br_t (by omega) ?_) | (refine br_f (by omega) ?_) | (refine bs_t (by omega) ?_) | (refine bs_f (by omega) ?_) | (refine fun (K' : K3) hK' => ?_) | (refine hK' _ _ _ ?_; clear hK' K') | (refine draw_auto tok mixed (by kernel_rfl) ?_) | (refine CallK.val (R := [(0, some (1 + k))]) (leadS_spec (j.getD k []) ((bestF j i).2.getD k 0) hjk.2 hle hjk.1) (by kernel_rfl) rfl (by simp [V.wf, A.wf, C.wf, V.i]) (roE_beach (by omega) (by ((try (conv => lhs; arg 1; whnf)); (repeat (first | rw [find_skip (by omega)] | rw [find_hi (by omega) (by rfl)])); exact entC_find hkl)) (.inr rfl)) rfl rfl (by simp [V.wf, A.wf, C.wf]) ?_) | (refine bs_t hp ?_) | (with_reducible refine updK_ent (by omega) ?_) | (refine CallK.val (R := []) (above_spec (leadS (j.getD k []) ((bestF j i).2.getD k 0)) (topS j (bestF j i).2 k).1 (by omega) (by omega) (by omega) (by omega)) (by kernel_rfl) rfl (by simp [V.wf, A.wf, C.wf]) trivial rfl rfl trivial ?_) | (refine br_bf hab ?_) | (refine bs_bt (Eq.refl true) ?_) | (refine bs_bf (Eq.refl false) ?_) | (refine br_bt (Eq.refl true) ?_) | (refine br_bf (Eq.refl false) ?_) | (refine CallK.m ?_) | (refine Two.l ?_) | (refine And.intro (And.intro rfl rfl) ?_))
              refine ⟨k + 1, [], by omega, by omega, ?_⟩
              rw [hT]
              refine ⟨?_, ?_, injB_ent (p := [_, _, _, _]) (by omega) rfl rfl, rfl, by first | exact Nat.le_of_ble_eq_true rfl | exact Nat.le_refl _ | omega⟩
              · repeat (first | exact trivial | refine And.intro (covS_syn (by first | rfl | (refine congrArg some (congrArg V.i ?_); omega)) rfl (by first | exact trivial | exact Nat.le_of_ble_eq_true rfl | exact hy | exact (fun p hp => nomatch hp) | (show (_ : Nat) < _; omega))) ?_ | refine And.intro (covS_bool rfl rfl (by first | rfl)) ?_)
              · repeat (first | exact trivial | (exact covL_ent (by omega) (fun k hk => by (try simp only [flatN]); (repeat (first | rw [find_skip (by omega)] | rw [find_hi (by omega) (by rfl)])))) | refine And.intro (covE_id (Nat.le_of_ble_eq_true rfl) (by first | exact wf_ints _ _ | exact wf_bools _ _ | first | exact wf_sls _ _ _ (by omega) | exact wf_jobs _ _ | simp [C.wf]) rfl (by first | rfl)) ?_)
            · have hT := topS_yes hp hab
              repeat ((conv => whnf); first | (refine And.intro (by first | omega | exact Nat.le_of_ble_eq_true rfl | (dsimp only [inK]; omega) | (simp only [mulS_eq]; omega) | (simp only [mulS_eq, setL_length]; omega) | (simp only [setL_length, List.length_map]; omega) | exact ⟨by omega, by omega, by first | exact Nat.le_of_ble_eq_true rfl | (dsimp only; omega) | (simp only [setL_length]; omega) | (simp only [setL_length, List.length_map]; omega)⟩ | exact ⟨by omega, by first | rfl | omega, by omega, Nat.le_of_ble_eq_true rfl, Nat.le_of_ble_eq_true rfl⟩ | exact ⟨rfl, rfl, rfl, Nat.le_of_ble_eq_true rfl, by first | rfl | omega | exact Nat.le_of_ble_eq_true rfl | (dsimp only; omega) | (simp; done) | (simp; omega), by first | rfl | omega | exact Nat.le_of_ble_eq_true rfl | (dsimp only; omega) | (simp; done) | (simp; omega), by omega, Nat.le_of_ble_eq_true rfl⟩ | exact Eq.refl true) ?_) | (with_reducible refine ld (slL hkl) ?_) | (with_reducible refine ld (natsL rfl (by omega)) ?_) | (refine Exists.intro _ (And.intro rfl ?_)) | (refine And.intro (And.intro rfl (chk_rowI _ _ _ _)) ?_) | (refine br_t (by omega) ?_) | (refine br_f (by omega) ?_) | (refine bs_t (by omega) ?_) | (refine bs_f (by omega) ?_) | (refine fun (K' : K3) hK' => ?_) | (refine hK' _ _ _ ?_; clear hK' K') | (refine draw_auto tok mixed (by kernel_rfl) ?_) | (refine CallK.val (R := [(0, some (1 + k))]) (leadS_spec (j.getD k []) ((bestF j i).2.getD k 0) hjk.2 hle hjk.1) (by kernel_rfl) rfl (by simp [V.wf, A.wf, C.wf, V.i]) (roE_beach (by omega) (by ((try (conv => lhs; arg 1; whnf)); (repeat (first | rw [find_skip (by omega)] | rw [find_hi (by omega) (by rfl)])); exact entC_find hkl)) (.inr rfl)) rfl rfl (by simp [V.wf, A.wf, C.wf]) ?_) | (refine bs_t hp ?_) | (with_reducible refine updK_ent (by omega) ?_) | (refine CallK.val (R := []) (above_spec (leadS (j.getD k []) ((bestF j i).2.getD k 0)) (topS j (bestF j i).2 k).1 (by omega) (by omega) (by omega) (by omega)) (by kernel_rfl) rfl (by simp [V.wf, A.wf, C.wf]) trivial rfl rfl trivial ?_) | (refine br_bt hab ?_) | (refine bs_bt (Eq.refl true) ?_) | (refine bs_bf (Eq.refl false) ?_) | (refine br_bt (Eq.refl true) ?_) | (refine br_bf (Eq.refl false) ?_) | (refine CallK.m ?_) | (refine Two.l ?_) | (refine And.intro (And.intro rfl rfl) ?_))
              refine ⟨k + 1, [], by omega, by omega, ?_⟩
              rw [hT]
              refine ⟨?_, ?_, injB_ent (p := [_, _, _, _]) (by omega) rfl rfl, rfl, by first | exact Nat.le_of_ble_eq_true rfl | exact Nat.le_refl _ | omega⟩
              · repeat (first | exact trivial | refine And.intro (covS_syn (by first | rfl | (refine congrArg some (congrArg V.i ?_); omega)) rfl (by first | exact trivial | exact Nat.le_of_ble_eq_true rfl | exact hy | exact (fun p hp => nomatch hp) | (show (_ : Nat) < _; omega))) ?_ | refine And.intro (covS_bool rfl rfl (by first | rfl)) ?_)
              · repeat (first | exact trivial | (exact covL_ent (by omega) (fun k hk => by (try simp only [flatN]); (repeat (first | rw [find_skip (by omega)] | rw [find_hi (by omega) (by rfl)])))) | refine And.intro (covE_id (Nat.le_of_ble_eq_true rfl) (by first | exact wf_ints _ _ | exact wf_bools _ _ | first | exact wf_sls _ _ _ (by omega) | exact wf_jobs _ _ | simp [C.wf]) rfl (by first | rfl)) ?_)
          · have hT := topS_no1 hp
            repeat ((conv => whnf); first | (refine And.intro (by first | omega | exact Nat.le_of_ble_eq_true rfl | (dsimp only [inK]; omega) | (simp only [mulS_eq]; omega) | (simp only [mulS_eq, setL_length]; omega) | (simp only [setL_length, List.length_map]; omega) | exact ⟨by omega, by omega, by first | exact Nat.le_of_ble_eq_true rfl | (dsimp only; omega) | (simp only [setL_length]; omega) | (simp only [setL_length, List.length_map]; omega)⟩ | exact ⟨by omega, by first | rfl | omega, by omega, Nat.le_of_ble_eq_true rfl, Nat.le_of_ble_eq_true rfl⟩ | exact ⟨rfl, rfl, rfl, Nat.le_of_ble_eq_true rfl, by first | rfl | omega | exact Nat.le_of_ble_eq_true rfl | (dsimp only; omega) | (simp; done) | (simp; omega), by first | rfl | omega | exact Nat.le_of_ble_eq_true rfl | (dsimp only; omega) | (simp; done) | (simp; omega), by omega, Nat.le_of_ble_eq_true rfl⟩ | exact Eq.refl true) ?_) | (with_reducible refine ld (slL hkl) ?_) | (with_reducible refine ld (natsL rfl (by omega)) ?_) | (refine Exists.intro _ (And.intro rfl ?_)) | (refine And.intro (And.intro rfl (chk_rowI _ _ _ _)) ?_) | (refine br_t (by omega) ?_) | (refine br_f (by omega) ?_) | (refine bs_t (by omega) ?_) | (refine bs_f (by omega) ?_) | (refine fun (K' : K3) hK' => ?_) | (refine hK' _ _ _ ?_; clear hK' K') | (refine draw_auto tok mixed (by kernel_rfl) ?_) | (refine CallK.val (R := [(0, some (1 + k))]) (leadS_spec (j.getD k []) ((bestF j i).2.getD k 0) hjk.2 hle hjk.1) (by kernel_rfl) rfl (by simp [V.wf, A.wf, C.wf, V.i]) (roE_beach (by omega) (by ((try (conv => lhs; arg 1; whnf)); (repeat (first | rw [find_skip (by omega)] | rw [find_hi (by omega) (by rfl)])); exact entC_find hkl)) (.inr rfl)) rfl rfl (by simp [V.wf, A.wf, C.wf]) ?_) | (refine bs_f hp ?_) | (with_reducible refine updK_ent (by omega) ?_) | (refine br_f hp ?_) | (refine bs_bt (Eq.refl true) ?_) | (refine bs_bf (Eq.refl false) ?_) | (refine br_bt (Eq.refl true) ?_) | (refine br_bf (Eq.refl false) ?_) | (refine CallK.m ?_) | (refine Two.l ?_) | (refine And.intro (And.intro rfl rfl) ?_))
            refine ⟨k + 1, [], by omega, by omega, ?_⟩
            rw [hT]
            refine ⟨?_, ?_, injB_ent (p := [_, _, _, _]) (by omega) rfl rfl, rfl, by first | exact Nat.le_of_ble_eq_true rfl | exact Nat.le_refl _ | omega⟩
            · repeat (first | exact trivial | refine And.intro (covS_syn (by first | rfl | (refine congrArg some (congrArg V.i ?_); omega)) rfl (by first | exact trivial | exact Nat.le_of_ble_eq_true rfl | exact hy | exact (fun p hp => nomatch hp) | (show (_ : Nat) < _; omega))) ?_ | refine And.intro (covS_bool rfl rfl (by first | rfl)) ?_)
            · repeat (first | exact trivial | (exact covL_ent (by omega) (fun k hk => by (try simp only [flatN]); (repeat (first | rw [find_skip (by omega)] | rw [find_hi (by omega) (by rfl)])))) | refine And.intro (covE_id (Nat.le_of_ble_eq_true rfl) (by first | exact wf_ints _ _ | exact wf_bools _ _ | first | exact wf_sls _ _ _ (by omega) | exact wf_jobs _ _ | simp [C.wf]) rfl (by first | rfl)) ?_)
        · have hkj : k = j.length := by omega
          subst hkj
          repeat ((conv => whnf); first | (refine And.intro (by first | omega | exact Nat.le_of_ble_eq_true rfl | (dsimp only [inK]; omega) | (simp only [mulS_eq]; omega) | (simp only [mulS_eq, setL_length]; omega) | (simp only [setL_length, List.length_map]; omega) | exact ⟨by omega, by omega, by first | exact Nat.le_of_ble_eq_true rfl | (dsimp only; omega) | (simp only [setL_length]; omega) | (simp only [setL_length, List.length_map]; omega)⟩ | exact ⟨by omega, by first | rfl | omega, by omega, Nat.le_of_ble_eq_true rfl, Nat.le_of_ble_eq_true rfl⟩ | exact ⟨rfl, rfl, rfl, Nat.le_of_ble_eq_true rfl, by first | rfl | omega | exact Nat.le_of_ble_eq_true rfl | (dsimp only; omega) | (simp; done) | (simp; omega), by first | rfl | omega | exact Nat.le_of_ble_eq_true rfl | (dsimp only; omega) | (simp; done) | (simp; omega), by omega, Nat.le_of_ble_eq_true rfl⟩ | exact Eq.refl true) ?_) | (refine Exists.intro _ (And.intro rfl ?_)) | (refine And.intro (And.intro rfl (chk_rowI _ _ _ _)) ?_) | (refine br_t (by omega) ?_) | (refine br_f (by omega) ?_) | (refine bs_t (by omega) ?_) | (refine bs_f (by omega) ?_) | (refine fun (K' : K3) hK' => ?_) | (refine hK' _ _ _ ?_; clear hK' K') | (refine draw_auto tok mixed (by kernel_rfl) ?_) | (refine bs_bt (Eq.refl true) ?_) | (refine bs_bf (Eq.refl false) ?_) | (refine br_bt (Eq.refl true) ?_) | (refine br_bf (Eq.refl false) ?_) | (refine CallK.m ?_) | (refine Two.l ?_) | (refine And.intro (And.intro rfl rfl) ?_))
          refine Tri.loop (γ := Nat) (fun m => m ≤ takeS j (bestF j i).2) (fun m => [(0, V.c (.sl 0 j.length)), (3, V.c (.sl 33 ((bestF j i).1.length + m))), (4, V.c (.sl 32 j.length)), (5, V.c (.ptr 34 0)), (6, V.i ((topS j (bestF j i).2 j.length).2 : Nat))])
            (fun m => ⟨34, .own 62, [C.i (topS j (bestF j i).2 j.length).1.1, C.i (topS j (bestF j i).2 j.length).1.2.1, C.i (topS j (bestF j i).2 j.length).1.2.2]⟩ :: ⟨33, .vec 3 1, (natsC (midF j i m).1).map C.i⟩ :: ⟨32, .vec 3 1, (natsC (midF j i m).2).map C.i⟩ :: ⟨0, .ro 1, slsC 1 j⟩ :: entC 1 j) 35 (fun m => takeS j (bestF j i).2 - m) 0 (R0 := []) ?_ ?_ ?_
          · omega
          · rw [midF_zero]
            refine ⟨?_, ?_, injB_ent (p := [_, _, _, _]) (by omega) rfl rfl, rfl, by first | exact Nat.le_of_ble_eq_true rfl | exact Nat.le_refl _ | omega⟩
            · repeat (first | exact trivial | refine And.intro (covS_syn (by first | rfl) rfl (by first | exact trivial | exact Nat.le_of_ble_eq_true rfl | exact hy | exact (fun p hp => nomatch hp) | (show (_ : Nat) < _; omega))) ?_ | refine And.intro (covS_bool rfl rfl (by first | rfl)) ?_)
            · repeat (first | exact trivial | (exact covL_ent (by omega) (fun k hk => by (try simp only [flatN]); (repeat (first | rw [find_skip (by omega)] | rw [find_hi (by omega) (by rfl)])))) | refine And.intro (covE_id (Nat.le_of_ble_eq_true rfl) (by first | exact wf_ints _ _ | exact wf_bools _ _ | first | exact wf_sls _ _ _ (by omega) | exact wf_jobs _ _ | simp [C.wf]) rfl (by first | rfl)) ?_)
          · rintro m hm
            refine vc_ok tok ?_
            obtain ⟨ml1, ml2⟩ := midF_len (j := j) (i := i) (m := m)
            have hmg := midF_get (j := j) (i := i) (m := m) (by omega)
            have hnm2 : ((natsC (midF j i m).2).map C.i).length = j.length := by rw [List.length_map, natsC_len]; omega
            have hol : ((natsC (midF j i m).1).map C.i).length = (midF j i m).1.length := by rw [List.length_map, natsC_len]
            have hld := natsL (l := (midF j i m).2) (k := (topS j (bestF j i).2 j.length).2) rfl (by omega)
            rw [hmg] at hld
            by_cases hmt : m < takeS j (bestF j i).2
            · have hbl := (hj.jobs _ a2).2
              repeat ((conv => whnf); first | (refine And.intro (by first | omega | exact Nat.le_of_ble_eq_true rfl | (dsimp only [inK]; omega) | (simp only [mulS_eq]; omega) | (simp only [mulS_eq, setL_length]; omega) | (simp only [setL_length, List.length_map]; omega) | exact ⟨by omega, by omega, by first | exact Nat.le_of_ble_eq_true rfl | (dsimp only; omega) | (simp only [setL_length]; omega) | (simp only [setL_length, List.length_map]; omega)⟩ | exact ⟨by omega, by first | rfl | omega, by omega, Nat.le_of_ble_eq_true rfl, Nat.le_of_ble_eq_true rfl⟩ | exact ⟨rfl, rfl, rfl, Nat.le_of_ble_eq_true rfl, by first | rfl | omega | exact Nat.le_of_ble_eq_true rfl | (dsimp only; omega) | (simp; done) | (simp; omega), by first | rfl | omega | exact Nat.le_of_ble_eq_true rfl | (dsimp only; omega) | (simp; done) | (simp; omega), by omega, Nat.le_of_ble_eq_true rfl⟩ | exact Eq.refl true) ?_) | (with_reducible refine ld (hld) ?_) | (refine Exists.intro _ (And.intro rfl ?_)) | (refine And.intro (And.intro rfl (chk_rowI _ _ _ _)) ?_) | (refine br_t (by omega) ?_) | (refine br_f (by omega) ?_) | (refine bs_t (by omega) ?_) | (refine bs_f (by omega) ?_) | (refine fun (K' : K3) hK' => ?_) | (refine hK' _ _ _ ?_; clear hK' K') | (refine draw_auto tok mixed (by kernel_rfl) ?_) | (with_reducible refine updK_ent (by omega) ?_) | (with_reducible refine rmK_ent (by omega) ?_) | (refine bs_bt (Eq.refl true) ?_) | (refine bs_bf (Eq.refl false) ?_) | (refine br_bt (Eq.refl true) ?_) | (refine br_bf (Eq.refl false) ?_) | (refine CallK.m ?_) | (refine Two.l ?_) | (refine And.intro (And.intro rfl rfl) ?_))
              refine ⟨m + 1, [(33, some 36)], by omega, by omega, ?_⟩
              refine ⟨?_, ?_, injB_entR (p := [_, _, _, _]) rfl (by omega) rfl rfl, rfl, by first | exact Nat.le_of_ble_eq_true rfl | exact Nat.le_refl _ | omega⟩
              · repeat (first | exact trivial | refine And.intro (covS_syn (by first | rfl) rfl (by first | exact trivial | exact Nat.le_of_ble_eq_true rfl | exact hy | exact (fun p hp => nomatch hp) | (show (_ : Nat) < _; omega))) ?_ | refine And.intro (covS_bool rfl rfl (by first | rfl)) ?_)
              · repeat (first | exact trivial | (exact covL_entR rfl (by omega) (by omega) (fun k hk => by (try simp only [flatN]); (repeat (first | rw [find_skip (by omega)] | rw [find_hi (by omega) (by rfl)])))) | (refine And.intro (covE_some rfl (Nat.le_of_ble_eq_true rfl) (wf_sls _ _ _ (by omega)) rfl (ren_sls rfl (by omega))) ?_) | refine And.intro (covE_nil rfl (Nat.le_of_ble_eq_true rfl) rfl rfl) ?_ | refine And.intro (covE_some rfl (Nat.le_of_ble_eq_true rfl) (by first | exact wf_ints _ _ | exact wf_bools _ _ | first | exact wf_sls _ _ _ (by omega) | exact wf_jobs _ _ | simp [C.wf]) rfl (by first | exact ren_ints _ _ | exact ren_bools _ _ | exact ren_shares _ _ | (refine (ren_ints _ _).trans (congrArg some ?_); exact midF_row) | (refine (ren_ints _ _).trans (congrArg some ?_); exact (midF_set rfl (by omega)).symm) | rfl)) ?_)
            · have hme : m = takeS j (bestF j i).2 := by omega
              subst hme
              repeat ((conv => whnf); first | (refine And.intro (by first | omega | exact Nat.le_of_ble_eq_true rfl | (dsimp only [inK]; omega) | (simp only [mulS_eq]; omega) | (simp only [mulS_eq, setL_length]; omega) | (simp only [setL_length, List.length_map]; omega) | exact ⟨by omega, by omega, by first | exact Nat.le_of_ble_eq_true rfl | (dsimp only; omega) | (simp only [setL_length]; omega) | (simp only [setL_length, List.length_map]; omega)⟩ | exact ⟨by omega, by first | rfl | omega, by omega, Nat.le_of_ble_eq_true rfl, Nat.le_of_ble_eq_true rfl⟩ | exact ⟨rfl, rfl, rfl, Nat.le_of_ble_eq_true rfl, by first | rfl | omega | exact Nat.le_of_ble_eq_true rfl | (dsimp only; omega) | (simp; done) | (simp; omega), by first | rfl | omega | exact Nat.le_of_ble_eq_true rfl | (dsimp only; omega) | (simp; done) | (simp; omega), by omega, Nat.le_of_ble_eq_true rfl⟩ | exact Eq.refl true) ?_) | (with_reducible refine ld (hld) ?_) | (refine Exists.intro _ (And.intro rfl ?_)) | (refine And.intro (And.intro rfl (chk_rowI _ _ _ _)) ?_) | (refine br_t (by omega) ?_) | (refine br_f (by omega) ?_) | (refine bs_t (by omega) ?_) | (refine bs_f (by omega) ?_) | (refine fun (K' : K3) hK' => ?_) | (refine hK' _ _ _ ?_; clear hK' K') | (refine draw_auto tok mixed (by kernel_rfl) ?_) | (refine bs_bt (Eq.refl true) ?_) | (refine bs_bf (Eq.refl false) ?_) | (refine br_bt (Eq.refl true) ?_) | (refine br_bf (Eq.refl false) ?_) | (refine CallK.m ?_) | (refine Two.l ?_) | (refine And.intro (And.intro rfl rfl) ?_))
              refine ⟨i + 1, [], trivial, ?_, ?_⟩
              · rw [← midF_last hlt, midF_len.1]; omega
              · rw [← midF_last hlt, midF_len1]
                refine ⟨?_, ?_, injB_ent (p := [_, _, _]) (by omega) rfl rfl, rfl, by first | exact Nat.le_of_ble_eq_true rfl | exact Nat.le_refl _ | omega⟩
                · repeat (first | exact trivial | refine And.intro (covS_syn (by first | rfl) rfl (by first | exact trivial | exact Nat.le_of_ble_eq_true rfl | exact hy | exact (fun p hp => nomatch hp) | (show (_ : Nat) < _; omega))) ?_ | refine And.intro (covS_bool rfl rfl (by first | rfl)) ?_)
                · repeat (first | exact trivial | (exact covL_ent (by omega) (fun k hk => by (try simp only [flatN]); (repeat (first | rw [find_skip (by omega)] | rw [find_hi (by omega) (by rfl)])))) | refine And.intro (covE_id (Nat.le_of_ble_eq_true rfl) (by first | exact wf_ints _ _ | exact wf_bools _ _ | first | exact wf_sls _ _ _ (by omega) | exact wf_jobs _ _ | simp [C.wf]) rfl (by first | rfl)) ?_)
    · repeat ((conv => whnf); first | (refine And.intro (by first | omega | exact Nat.le_of_ble_eq_true rfl | (dsimp only [inK]; omega) | (simp only [mulS_eq]; omega) | (simp only [mulS_eq, setL_length]; omega) | (simp only [setL_length, List.length_map]; omega) | exact ⟨by omega, by omega, by first | exact Nat.le_of_ble_eq_true rfl | (dsimp only; omega) | (simp only [setL_length]; omega) | (simp only [setL_length, List.length_map]; omega)⟩ | exact ⟨by omega, by first | rfl | omega, by omega, Nat.le_of_ble_eq_true rfl, Nat.le_of_ble_eq_true rfl⟩ | exact ⟨rfl, rfl, rfl, Nat.le_of_ble_eq_true rfl, by first | rfl | omega | exact Nat.le_of_ble_eq_true rfl | (dsimp only; omega) | (simp; done) | (simp; omega), by first | rfl | omega | exact Nat.le_of_ble_eq_true rfl | (dsimp only; omega) | (simp; done) | (simp; omega), by omega, Nat.le_of_ble_eq_true rfl⟩ | exact Eq.refl true) ?_) | (refine Exists.intro _ (And.intro rfl ?_)) | (refine And.intro (And.intro rfl (chk_rowI _ _ _ _)) ?_) | (refine br_t (by omega) ?_) | (refine br_f (by omega) ?_) | (refine bs_t (by omega) ?_) | (refine bs_f (by omega) ?_) | (refine fun (K' : K3) hK' => ?_) | (refine hK' _ _ _ ?_; clear hK' K') | (refine draw_auto tok mixed (by kernel_rfl) ?_) | (refine CallK.val (R := []) (many_spec j hs.len hs.be) (by kernel_rfl) rfl (by simp [V.wf, A.wf, C.wf]) ⟨roE_id (by omega) (wf_sls _ _ _ (by omega)) rfl (.inr rfl) rfl, trivial⟩ rfl rfl trivial ?_) | (refine bs_bt (Eq.refl true) ?_) | (refine bs_bf (Eq.refl false) ?_) | (refine br_bt (Eq.refl true) ?_) | (refine br_bf (Eq.refl false) ?_) | (refine CallK.m ?_) | (refine Two.l ?_) | (refine And.intro (And.intro rfl rfl) ?_))
      rw [← bestO_of hj hlt]
      exact .inr ⟨33, by rw [natsC_len]; rfl, rfl⟩
end Go.Proofs.Ytjijjncddjkdlaa

/- Orders of chains of jobs: the order by leads has the least harm of all. Plain law. -/
namespace Go.Proofs.Ytjijjncddjkdlaa
open Go.RowKit
set_option linter.unusedVariables false
set_option linter.unusedSimpArgs false
/-- Hours and harm of jobs. -/
def hS (l : List Job) : Int := (l.map Prod.fst).sum
def wS (l : List Job) : Int := (l.map Prod.snd).sum
theorem hS_cons (x : Job) (l : List Job) : hS (x :: l) = x.1 + hS l := by simp [hS]
theorem wS_cons (x : Job) (l : List Job) : wS (x :: l) = x.2 + wS l := by simp [wS]
theorem hS_nil : hS [] = 0 := rfl
/-- The harm of jobs one after the other, from an hour on. -/
def costS : Int → List Job → Int
  | _, [] => 0
  | t, x :: r => x.2 * (t + x.1) + costS (t + x.1) r
theorem costS_app (t : Int) (a b : List Job) : costS t (a ++ b) = costS t a + costS (t + hS a) b := by
  induction a generalizing t with
  | nil => simp [costS, hS]
  | cons x a ih => simp only [List.cons_append, costS, ih, hS_cons, Int.add_assoc]
theorem costS_shift (t s : Int) (a : List Job) : costS (t + s) a = costS t a + s * wS a := by
  induction a generalizing t with
  | nil => simp [costS, wS]
  | cons x a ih =>
    simp only [costS, wS_cons]
    rw [show t + s + x.1 = (t + x.1) + s by omega, ih]
    grind
theorem costS_swap (t : Int) (x : Job) (B R : List Job) : x.2 * (t + x.1) + costS (t + x.1) (B ++ R) = costS t (B ++ x :: R) + (x.1 * wS B - x.2 * hS B) := by
  rw [costS_app, costS_app, costS_shift t x.1 B]
  simp only [costS]
  rw [show t + x.1 + hS B = t + hS B + x.1 by omega]
  grind
theorem getD_lt {α : Type} {l : List α} {k : Nat} {d : α} (h : k < l.length) : l.getD k d = l[k] := by simp [List.getD_eq_getElem?_getD, h]
def upd (f : Nat → Nat) (b k : Nat) : Nat → Nat := fun c => if c = b then f c + k else f c
theorem upd_same (f : Nat → Nat) (b k : Nat) : upd f b k b = f b + k := by simp [upd]
theorem upd_ne {f : Nat → Nat} {b c k : Nat} (h : c ≠ b) : upd f b k c = f c := by simp [upd, h]
theorem upd_upd (f : Nat → Nat) (b k m : Nat) : upd (upd f b k) b m = upd f b (k + m) := by
  funext c; simp only [upd]; split <;> omega
theorem upd_comm (f : Nat → Nat) {b c : Nat} (k m : Nat) : upd (upd f b k) c m = upd (upd f c m) b k := by
  funext d; simp only [upd]; split <;> split <;> omega
theorem upd_zero (f : Nat → Nat) (b : Nat) : upd f b 0 = f := by
  funext c; simp only [upd]; split <;> omega
/-- What is left of a beach. -/
def remC (j : Coast) (f : Nat → Nat) (b : Nat) : List Job := (j.getD b []).drop (f b)
/-- The jobs of an order, where some of each beach are done. -/
def jobsF (j : Coast) : (Nat → Nat) → List Nat → List Job
  | _, [] => []
  | f, b :: o => (j.getD b []).getD (f b) (0, 0) :: jobsF j (upd f b 1) o
/-- An order of what is left. -/
structure OrdF (j : Coast) (f : Nat → Nat) (o : List Nat) : Prop where
  lt : ∀ x ∈ o, x < j.length
  cnt : ∀ b, b < j.length → f b + o.count b = (j.getD b []).length
theorem OrdF.tail {j : Coast} {f : Nat → Nat} {c : Nat} {o : List Nat} (h : OrdF j f (c :: o)) : OrdF j (upd f c 1) o := by
  refine ⟨fun x hx => h.lt x (by simp [hx]), fun b hb => ?_⟩
  have := h.cnt b hb
  rw [List.count_cons] at this
  by_cases hc : b = c
  · subst hc; rw [upd_same]; rw [beq_self_eq_true, if_pos rfl] at this; omega
  · rw [upd_ne hc]
    have h2 : (c == b) = false := by simpa using fun e => hc e.symm
    rw [h2] at this; simpa using this
theorem OrdF.head {j : Coast} {f : Nat → Nat} {c : Nat} {o : List Nat} (h : OrdF j f (c :: o)) : remC j f c = (j.getD c []).getD (f c) (0, 0) :: remC j (upd f c 1) c := by
  have hc := h.lt c (by simp)
  have := h.cnt c hc
  rw [List.count_cons_self] at this
  unfold remC
  rw [upd_same]
  have hlt : f c < (j.getD c []).length := by omega
  rw [List.drop_eq_getElem_cons hlt, getD_lt hlt]
theorem remC_upd_ne {j : Coast} {f : Nat → Nat} {b c k : Nat} (h : c ≠ b) : remC j (upd f b k) c = remC j f c := by
  unfold remC; rw [upd_ne h]
/-- An order without the first k of a beach. -/
def eraseK (b : Nat) : Nat → List Nat → List Nat
  | 0, o => o
  | _ + 1, [] => []
  | k + 1, c :: o => if c = b then eraseK b k o else c :: eraseK b (k + 1) o
theorem eraseK_mem {b : Nat} : ∀ {k : Nat} {o : List Nat} {x : Nat}, x ∈ eraseK b k o → x ∈ o
  | 0, o, x, h => by simpa [eraseK] using h
  | k + 1, [], x, h => by simp [eraseK] at h
  | k + 1, c :: o, x, h => by
    simp only [eraseK] at h
    split at h
    · exact List.mem_cons_of_mem _ (eraseK_mem h)
    · rcases List.mem_cons.1 h with rfl | h
      · simp
      · exact List.mem_cons_of_mem _ (eraseK_mem h)
theorem eraseK_count {b : Nat} : ∀ {k : Nat} {o : List Nat} (c : Nat), k ≤ o.count b → (eraseK b k o).count c + (if c = b then k else 0) = o.count c
  | 0, o, c, _ => by simp [eraseK]
  | k + 1, [], c, h => by simp at h
  | k + 1, d :: o, c, h => by
    simp only [eraseK]
    by_cases hd : d = b
    · subst hd
      rw [if_pos rfl]
      simp at h
      have ih := eraseK_count (k := k) (o := o) (b := d) c (by omega)
      rw [List.count_cons]
      by_cases hc : c = d
      · subst hc; simp at ih ⊢; omega
      · have : (d == c) = false := by simpa using fun e => hc e.symm
        rw [if_neg hc] at ih ⊢
        rw [this]; simpa using ih
    · rw [if_neg hd]
      have h2 : (d == b) = false := by simpa using hd
      rw [List.count_cons, h2] at h
      have ih := eraseK_count (k := k + 1) (o := o) (b := b) c (by simpa using h)
      rw [List.count_cons, List.count_cons]
      omega
theorem OrdF.erase {j : Coast} {f : Nat → Nat} {o : List Nat} {b k : Nat} (h : OrdF j f o) (hk : k ≤ o.count b) : OrdF j (upd f b k) (eraseK b k o) := by
  refine ⟨fun x hx => h.lt x (eraseK_mem hx), fun c hc => ?_⟩
  have h1 := h.cnt c hc
  have h2 := eraseK_count c hk
  by_cases hcb : c = b
  · subst hcb; rw [upd_same]; simp at h2; omega
  · rw [upd_ne hcb]; rw [if_neg hcb] at h2; omega
/-- Sums over the first n. -/
def sumZ : Nat → (Nat → Int) → Int
  | 0, _ => 0
  | n + 1, F => sumZ n F + F n
theorem sumZ_congr {F G : Nat → Int} : ∀ {n : Nat}, (∀ i, i < n → F i = G i) → sumZ n F = sumZ n G
  | 0, _ => rfl
  | n + 1, h => by simp only [sumZ, sumZ_congr (n := n) (fun i hi => h i (by omega)), h n (by omega)]
theorem sumZ_upd {F G : Nat → Int} {c : Nat} {d : Int} : ∀ {n : Nat}, c < n → F c = G c + d → (∀ i, i < n → i ≠ c → F i = G i) → sumZ n F = sumZ n G + d
  | n + 1, hc, h1, h2 => by
    simp only [sumZ]
    by_cases he : c = n
    · subst he
      rw [sumZ_congr (n := c) (fun i hi => h2 i (by omega) (by omega)), h1]; omega
    · rw [sumZ_upd (n := n) (by omega) h1 (fun i hi => h2 i (by omega)), h2 n (by omega) (fun e => he e.symm)]; omega
theorem sumZ_le {F G : Nat → Int} : ∀ {n : Nat}, (∀ i, i < n → F i ≤ G i) → sumZ n F ≤ sumZ n G
  | 0, _ => Int.le_refl _
  | n + 1, h => by
    have := sumZ_le (n := n) (fun i hi => h i (by omega))
    have := h n (by omega)
    simp only [sumZ]; omega
theorem sumZ_zero : ∀ {n : Nat}, sumZ n (fun _ => 0) = 0
  | 0 => rfl
  | n + 1 => by simp only [sumZ, sumZ_zero (n := n)]; omega
/-- How far jobs are above a rate. -/
def eS (D N : Int) (l : List Job) : Int := D * wS l - N * hS l
theorem eS_cons (D N : Int) (x : Job) (l : List Job) : eS D N (x :: l) = (D * x.2 - N * x.1) + eS D N l := by
  simp only [eS, hS_cons, wS_cons]; grind
/-- Jobs put ahead, whose rate at every end is not below the one that all others have at most. -/
theorem exch (j : Coast) (D N : Int) (b : Nat) (hD : 0 < D) (hH : ∀ c, c < j.length → ∀ x ∈ j.getD c [], 0 ≤ x.1) :
    ∀ (o : List Nat) (f : Nat → Nat) (k : Nat) (t E : Int), OrdF j f o → k ≤ o.count b →
      (∀ i, i ≤ k → 0 ≤ eS D N (((remC j f b).take k).drop i)) →
      (∀ g : Nat → Nat, E + sumZ j.length (fun c => if c = b then 0 else eS D N ((remC j f c).take (g c))) ≤ 0) →
      E * hS ((remC j f b).take k) ≤ D * (costS t (jobsF j f o) - costS t ((remC j f b).take k ++ jobsF j (upd f b k) (eraseK b k o)))
  | o, f, 0, t, E, ho, hk, ha, hb => by
    simp [eraseK, upd_zero, hS]
  | [], f, k + 1, t, E, ho, hk, ha, hb => by simp at hk
  | c :: o, f, k + 1, t, E, ho, hk, ha, hb => by
    have hE : E ≤ 0 := by
      have := hb (fun _ => 0)
      rw [sumZ_congr (G := fun _ => 0) (fun i _ => by simp [eS, hS, wS]), sumZ_zero] at this
      omega
    have hcl := ho.lt c (by simp)
    have hx := ho.head
    obtain ⟨x, hxe⟩ : ∃ x, x = (j.getD c []).getD (f c) (0, 0) := ⟨_, rfl⟩
    rw [← hxe] at hx
    have hx0 : 0 ≤ x.1 := by
      refine hH c hcl x ?_
      have : x ∈ remC j f c := by rw [hx]; simp
      exact List.mem_of_mem_drop this
    by_cases hcb : c = b
    · subst hcb
      have hk' : k ≤ o.count c := by simp at hk; omega
      have ih := exch j D N c hD hH o (upd f c 1) k (t + x.1) E ho.tail hk' ?_ ?_
      · rw [hx, List.take_succ_cons, hS_cons]
        simp only [jobsF, eraseK, if_pos, List.cons_append, costS]
        rw [← hxe, Nat.add_comm k 1, ← upd_upd]
        have h1 : E * (x.1 + hS ((remC j (upd f c 1) c).take k)) = E * x.1 + E * hS ((remC j (upd f c 1) c).take k) := Int.mul_add _ _ _
        have h2 : E * x.1 ≤ 0 := Int.mul_nonpos_of_nonpos_of_nonneg hE hx0
        rw [h1]
        rw [show x.2 * (t + x.1) + costS (t + x.1) (jobsF j (upd f c 1) o) - (x.2 * (t + x.1) + costS (t + x.1) ((remC j (upd f c 1) c).take k ++ jobsF j (upd (upd f c 1) c k) (eraseK c k o))) = costS (t + x.1) (jobsF j (upd f c 1) o) - costS (t + x.1) ((remC j (upd f c 1) c).take k ++ jobsF j (upd (upd f c 1) c k) (eraseK c k o)) by omega]
        omega
      · intro i hi
        have := ha (i + 1) (by omega)
        rw [hx, List.take_succ_cons, List.drop_succ_cons] at this
        exact this
      · intro g
        have := hb g
        rw [sumZ_congr (G := fun d => if d = c then 0 else eS D N ((remC j f d).take (g d))) (fun d _ => by
          by_cases hd : d = c
          · rw [if_pos hd, if_pos hd]
          · rw [if_neg hd, if_neg hd, remC_upd_ne hd])]
        exact this
    · have hbe : (c == b) = false := by simpa using hcb
      have hk' : k + 1 ≤ o.count b := by rw [List.count_cons, hbe] at hk; simpa using hk
      have hrb : remC j (upd f c 1) b = remC j f b := remC_upd_ne (fun e => hcb e.symm)
      have ih := exch j D N b hD hH o (upd f c 1) (k + 1) (t + x.1) (E + (D * x.2 - N * x.1)) ho.tail hk' ?_ ?_
      · rw [hrb] at ih
        have ha0 := ha 0 (by omega)
        rw [List.drop_zero] at ha0
        simp only [jobsF, eraseK, if_neg hcb, costS]
        rw [← hxe, upd_ne hcb, ← hxe]
        rw [upd_comm (c := b) (b := c)] at ih
        have hsw := costS_swap t x ((remC j f b).take (k + 1)) (jobsF j (upd (upd f b (k + 1)) c 1) (eraseK b (k + 1) o))
        generalize costS (t + x.1) (jobsF j (upd f c 1) o) = C1 at *
        generalize costS (t + x.1) ((remC j f b).take (k + 1) ++ jobsF j (upd (upd f b (k + 1)) c 1) (eraseK b (k + 1) o)) = C2 at *
        generalize costS t ((remC j f b).take (k + 1) ++ x :: jobsF j (upd (upd f b (k + 1)) c 1) (eraseK b (k + 1) o)) = C3 at *
        unfold eS at ha0
        generalize hS ((remC j f b).take (k + 1)) = HB at *
        generalize wS ((remC j f b).take (k + 1)) = WB at *
        have h3 : 0 ≤ x.1 * (D * WB - N * HB) := Int.mul_nonneg hx0 ha0
        have h4 : D * (x.2 * (t + x.1) + C1 - C3) = D * (C1 - C2) + D * (x.1 * WB - x.2 * HB) := by
          rw [show x.2 * (t + x.1) = C3 + (x.1 * WB - x.2 * HB) - C2 by omega]; grind
        have h5 : D * (x.1 * WB - x.2 * HB) = x.1 * (D * WB - N * HB) - (D * x.2 - N * x.1) * HB := by grind
        have h6 : (E + (D * x.2 - N * x.1)) * HB = E * HB + (D * x.2 - N * x.1) * HB := Int.add_mul _ _ _
        rw [h6] at ih
        rw [h4, h5]
        omega
      · intro i hi
        rw [hrb]; exact ha i hi
      · intro g
        have := hb (upd g c 1)
        rw [sumZ_upd (c := c) (d := D * x.2 - N * x.1) (G := fun d => if d = b then 0 else eS D N ((remC j (upd f c 1) d).take (g d))) hcl] at this
        · omega
        · simp only [if_neg hcb]
          rw [hx, upd_same, List.take_succ_cons, eS_cons]; omega
        · intro d _ hd
          by_cases hdb : d = b
          · simp [hdb]
          · simp only [if_neg hdb]
            rw [remC_upd_ne hd, upd_ne hd]
/-- A lead of the greatest rate. -/
structure TopF (j : Coast) (f : Nat → Nat) (b k : Nat) : Prop where
  lt : b < j.length
  k1 : 1 ≤ k
  le : f b + k ≤ (j.getD b []).length
  pos : 0 < hS ((remC j f b).take k)
  most : ∀ c, c < j.length → ∀ m, wS ((remC j f c).take m) * hS ((remC j f b).take k) ≤ wS ((remC j f b).take k) * hS ((remC j f c).take m)
inductive LedF (j : Coast) : (Nat → Nat) → List Nat → Prop
  | nil {f : Nat → Nat} : (∀ b, b < j.length → f b = (j.getD b []).length) → LedF j f []
  | cons {f : Nat → Nat} {b k : Nat} {o : List Nat} : TopF j f b k → LedF j (upd f b k) o → LedF j f (List.replicate k b ++ o)
theorem jobsF_block {j : Coast} {b : Nat} : ∀ {k : Nat} {f : Nat → Nat} {o : List Nat}, f b + k ≤ (j.getD b []).length → jobsF j f (List.replicate k b ++ o) = (remC j f b).take k ++ jobsF j (upd f b k) o
  | 0, f, o, _ => by simp [upd_zero]
  | k + 1, f, o, h => by
    rw [List.replicate_succ, List.cons_append]
    simp only [jobsF]
    rw [jobsF_block (by rw [upd_same]; omega), upd_upd, Nat.add_comm 1 k]
    have hlt : f b < (j.getD b []).length := by omega
    have : remC j f b = (j.getD b []).getD (f b) (0, 0) :: remC j (upd f b 1) b := by
      unfold remC
      rw [upd_same, List.drop_eq_getElem_cons hlt, getD_lt hlt]
    rw [this, List.take_succ_cons, List.cons_append]
theorem take_drop_eS (D N : Int) (l : List Job) (i : Nat) : eS D N l = eS D N (l.take i) + eS D N (l.drop i) := by
  induction l generalizing i with
  | nil => simp [eS, hS, wS]
  | cons x l ih =>
    cases i with
    | zero => simp [eS, hS, wS]
    | succ i => rw [List.take_succ_cons, List.drop_succ_cons, eS_cons, eS_cons, ih i]; omega
theorem OrdF.done {j : Coast} {f : Nat → Nat} {o : List Nat} (h : OrdF j f o) (hd : ∀ b, b < j.length → f b = (j.getD b []).length) : o = [] := by
  cases o with
  | nil => rfl
  | cons c o =>
    have hc := h.lt c (by simp)
    have := h.cnt c hc
    have := hd c hc
    rw [List.count_cons_self] at *
    omega
/-- The order by leads has the least harm. -/
theorem led_least {j : Coast} (hH : ∀ c, c < j.length → ∀ x ∈ j.getD c [], 0 ≤ x.1) {f : Nat → Nat} {o : List Nat} (h : LedF j f o) : ∀ (t : Int) (o' : List Nat), OrdF j f o' → costS t (jobsF j f o) ≤ costS t (jobsF j f o') := by
  induction h with
  | nil hd =>
    intro t o' ho
    rw [ho.done hd]; exact Int.le_refl _
  | @cons f b k o ht hl ih =>
    intro t o' ho
    have hcnt := ho.cnt b ht.lt
    have hk : k ≤ o'.count b := by have := ht.le; omega
    have h1 := exch j (hS ((remC j f b).take k)) (wS ((remC j f b).take k)) b ht.pos hH o' f k t 0 ho hk (fun i hi => ?_) (fun g => ?_)
    · rw [jobsF_block ht.le, costS_app]
      have h2 := ih (t + hS ((remC j f b).take k)) _ (ho.erase hk)
      rw [costS_app] at h1
      rw [Int.zero_mul] at h1
      have h3 := Int.le_of_mul_le_mul_left (Int.le_trans (Int.le_of_eq (Int.mul_zero _)) h1) ht.pos
      omega
    · have e0 : eS (hS ((remC j f b).take k)) (wS ((remC j f b).take k)) ((remC j f b).take k) = 0 := by unfold eS; rw [Int.mul_comm]; omega
      rw [take_drop_eS _ _ _ i, List.take_take, Nat.min_eq_left hi] at e0
      have h2 := ht.most b ht.lt i
      have h3 : eS (hS ((remC j f b).take k)) (wS ((remC j f b).take k)) ((remC j f b).take i) ≤ 0 := by
        unfold eS; rw [Int.mul_comm (hS ((remC j f b).take k))]; omega
      omega
    · have : sumZ j.length (fun c => if c = b then 0 else eS (hS ((remC j f b).take k)) (wS ((remC j f b).take k)) ((remC j f c).take (g c))) ≤ sumZ j.length (fun _ => 0) := sumZ_le fun c hc => by
        split
        · exact Int.le_refl _
        · have := ht.most c hc (g c)
          unfold eS; rw [Int.mul_comm (hS ((remC j f b).take k))]; omega
      rw [sumZ_zero] at this
      omega
theorem LedF.ord {j : Coast} {f : Nat → Nat} {o : List Nat} (h : LedF j f o) : OrdF j f o := by
  induction h with
  | nil hd => exact ⟨by simp, fun b hb => by rw [hd b hb]; simp⟩
  | @cons f b k o ht hl ih =>
    refine ⟨fun x hx => ?_, fun c hc => ?_⟩
    · rcases List.mem_append.1 hx with hx | hx
      · rw [(List.mem_replicate.1 hx).2]; exact ht.lt
      · exact ih.lt x hx
    · have := ih.cnt c hc
      rw [List.count_append, List.count_replicate]
      by_cases hcb : c = b
      · subst hcb; rw [upd_same] at this; rw [beq_self_eq_true, if_pos rfl]; omega
      · rw [upd_ne hcb] at this
        have h2 : (b == c) = false := by simpa using fun e => hcb e.symm
        rw [h2]; simpa using this
end Go.Proofs.Ytjijjncddjkdlaa

/- The order of shore's best is the order by leads. Plain law. -/
namespace Go.Proofs.Ytjijjncddjkdlaa
open Go.RowKit
set_option linter.unusedVariables false
set_option linter.unusedSimpArgs false
theorem take_succ_getD {α : Type} {l : List α} {n : Nat} {d : α} (h : n < l.length) : l.take (n + 1) = l.take n ++ [l.getD n d] := by
  rw [List.take_add_one, List.getElem?_eq_getElem h, getD_lt h]; rfl
theorem hS_app (a b : List Job) : hS (a ++ b) = hS a + hS b := by simp [hS]
theorem wS_app (a b : List Job) : wS (a ++ b) = wS a + wS b := by simp [wS]
theorem drop_getD {α : Type} {l : List α} {f n : Nat} {d : α} : (l.drop f).getD n d = l.getD (f + n) d := by
  simp [List.getD_eq_getElem?_getD]
theorem take_drop_succ {l : List Job} {f n : Nat} (h : f + n < l.length) : (l.drop f).take (n + 1) = (l.drop f).take n ++ [l.getD (f + n) (0, 0)] := by
  rw [take_succ_getD (d := (0, 0)) (by rw [List.length_drop]; omega), drop_getD]
theorem runS_sums {l : List Job} {f : Nat} : ∀ {n : Nat}, f + n ≤ l.length → (runS l f n).1.1 = hS ((l.drop f).take n) ∧ (runS l f n).1.2.1 = wS ((l.drop f).take n)
  | 0, _ => by simp [runS, hS, wS]
  | n + 1, h => by
    obtain ⟨h1, h2⟩ := runS_sums (l := l) (f := f) (n := n) (by omega)
    rw [take_drop_succ (by omega), hS_app, wS_app, ← h1, ← h2]
    simp [runS, hS, wS]
theorem hS_nonneg {l : List Job} (h : ∀ x ∈ l, 0 ≤ x.1) : 0 ≤ hS l := by
  induction l with
  | nil => simp [hS]
  | cons x l ih => rw [hS_cons]; have := h x (by simp); have := ih (fun y hy => h y (by simp [hy])); omega
theorem JobsOk.mem {l : List Job} (h : JobsOk l) {x : Job} (hx : x ∈ l) : 1 ≤ x.1 ∧ x.1 ≤ 100 ∧ 0 ≤ x.2 ∧ x.2 ≤ 100 := by
  obtain ⟨k, hk, rfl⟩ := List.mem_iff_getElem.1 hx
  have := h k hk
  rw [getD_lt hk] at this
  exact this
theorem part_pos {l : List Job} {f m : Nat} (hj : JobsOk l) (hf : f < l.length) (hm : 1 ≤ m) : 0 < hS ((l.drop f).take m) := by
  obtain ⟨m, rfl⟩ : ∃ k, m = k + 1 := ⟨m - 1, by omega⟩
  rw [List.drop_eq_getElem_cons hf, List.take_succ_cons, hS_cons]
  have h1 := hj.mem (List.getElem_mem hf)
  have := hS_nonneg (l := (l.drop (f + 1)).take m) (fun x hx => by have := hj.mem (List.mem_of_mem_drop (List.mem_of_mem_take hx)); omega)
  omega
theorem part_nonneg {l : List Job} {f m : Nat} (hj : JobsOk l) : 0 ≤ hS ((l.drop f).take m) :=
  hS_nonneg fun x hx => by have := hj.mem (List.mem_of_mem_drop (List.mem_of_mem_take hx)); omega
/-- Rates, one not above the next. -/
theorem rate_trans {w1 h1 w2 h2 w3 h3 : Int} (p1 : 0 ≤ h1) (p2 : 0 < h2) (p3 : 0 ≤ h3) (a : w1 * h2 ≤ w2 * h1) (b : w2 * h3 ≤ w3 * h2) : w1 * h3 ≤ w3 * h1 := by
  have a' := Int.mul_le_mul_of_nonneg_left a p3
  have b' := Int.mul_le_mul_of_nonneg_left b p1
  refine Int.le_of_mul_le_mul_left (a := h2) ?_ p2
  have e1 : h2 * (w1 * h3) = h3 * (w1 * h2) := by grind
  have e2 : h3 * (w2 * h1) = h1 * (w2 * h3) := by grind
  have e3 : h1 * (w3 * h2) = h2 * (w3 * h1) := by grind
  omega
theorem runS_best {l : List Job} {f : Nat} (hj : JobsOk l) : ∀ {n : Nat}, f + (n + 1) ≤ l.length →
    ∃ k, 1 ≤ k ∧ k ≤ n + 1 ∧ (runS l f (n + 1)).2 = (hS ((l.drop f).take k), wS ((l.drop f).take k), ((f + k - 1 : Nat) : Int)) ∧ ∀ m, m ≤ n + 1 → wS ((l.drop f).take m) * hS ((l.drop f).take k) ≤ wS ((l.drop f).take k) * hS ((l.drop f).take m)
  | 0, h => by
    refine ⟨1, by omega, by omega, ?_, ?_⟩
    · obtain ⟨h1, h2⟩ := runS_sums (l := l) (f := f) (n := 0) (by omega)
      rw [take_drop_succ (by omega)]
      have e : aboveB (runS l f 0).2 ((runS l f 0).1.1 + (l.getD (f + 0) (0, 0)).1, (runS l f 0).1.2.1 + (l.getD (f + 0) (0, 0)).2, ((f + 0 : Nat) : Int)) = false := by
        have hb2 := hj f (by omega)
        simp [runS, aboveB]; rw [← List.getD_eq_getElem?_getD]; omega
      rw [runS]
      simp only [e]
      simp [runS, hS, wS]
    · intro m hm
      match m with
      | 0 => simp [hS, wS]
      | 1 => exact Int.le_refl _
  | n + 1, h => by
    obtain ⟨k, k1, k2, k3, k4⟩ := runS_best (f := f) hj (n := n) (by omega)
    obtain ⟨h1, h2⟩ := runS_sums (l := l) (f := f) (n := n + 1) (by omega)
    have e1 : (runS l f (n + 1)).1.1 + (l.getD (f + (n + 1)) (0, 0)).1 = hS ((l.drop f).take (n + 2)) := by
      rw [take_drop_succ (by omega), hS_app, ← h1]; simp [hS]
    have e2 : (runS l f (n + 1)).1.2.1 + (l.getD (f + (n + 1)) (0, 0)).2 = wS ((l.drop f).take (n + 2)) := by
      rw [take_drop_succ (by omega), wS_app, ← h2]; simp [wS]
    have p2 := part_pos (f := f) (m := n + 2) hj (by omega) (by omega)
    have pk := part_pos (f := f) (m := k) hj (by omega) k1
    rw [runS]
    simp only [e1, e2]
    cases hab : aboveB (runS l f (n + 1)).2 (hS ((l.drop f).take (n + 2)), wS ((l.drop f).take (n + 2)), ((f + (n + 1) : Nat) : Int)) with
    | true =>
      refine ⟨k, k1, by omega, by rw [if_pos rfl]; exact k3, fun m hm => ?_⟩
      by_cases hm2 : m ≤ n + 1
      · exact k4 m hm2
      · have : m = n + 2 := by omega
        subst this
        rw [k3] at hab
        simp only [aboveB, Bool.or_eq_true, decide_eq_true_eq] at hab
        omega
    | false =>
      refine ⟨n + 2, by omega, by omega, ?_, fun m hm => ?_⟩
      · simp only [Bool.false_eq_true, if_false]
        rw [show f + (n + 2) - 1 = f + (n + 1) by omega]
      · by_cases hm2 : m ≤ n + 1
        · rw [k3] at hab
          simp only [aboveB, Bool.or_eq_false_iff, decide_eq_false_iff_not] at hab
          exact rate_trans (part_nonneg hj) pk (by omega) (k4 m hm2) (by omega)
        · have : m = n + 2 := by omega
          subst this
          exact Int.le_refl _
theorem leadS_best {l : List Job} {f : Nat} (hj : JobsOk l) (hf : f < l.length) :
    ∃ k, 1 ≤ k ∧ f + k ≤ l.length ∧ leadS l f = (hS ((l.drop f).take k), wS ((l.drop f).take k), ((f + k - 1 : Nat) : Int)) ∧ ∀ m, wS ((l.drop f).take m) * hS ((l.drop f).take k) ≤ wS ((l.drop f).take k) * hS ((l.drop f).take m) := by
  obtain ⟨n, hn⟩ : ∃ n, l.length - f = n + 1 := ⟨l.length - f - 1, by omega⟩
  obtain ⟨k, k1, k2, k3, k4⟩ := runS_best (f := f) hj (n := n) (by omega)
  refine ⟨k, k1, by omega, by unfold leadS; rw [hn]; exact k3, fun m => ?_⟩
  by_cases hm : m ≤ n + 1
  · exact k4 m hm
  · have := k4 (n + 1) (Nat.le_refl _)
    rw [List.take_of_length_le (show (l.drop f).length ≤ n + 1 by rw [List.length_drop]; omega)] at this
    rw [List.take_of_length_le (show (l.drop f).length ≤ m by rw [List.length_drop]; omega)]
    exact this
theorem topS_most {j : Coast} {nx : List Nat} (hj : CoastOk j) (hn : NxOk j nx) : ∀ k, k ≤ j.length → ∀ b, b < k → nx.getD b 0 < (j.getD b []).length →
    (leadS (j.getD b []) (nx.getD b 0)).2.1 * (topS j nx k).1.1 ≤ (topS j nx k).1.2.1 * (leadS (j.getD b []) (nx.getD b 0)).1
  | 0, _, b, hb, _ => by omega
  | k + 1, hk, b, hb, hlt => by
    have ih := topS_most hj hn k (by omega)
    by_cases hp : 0 < (leadS (j.getD k []) (nx.getD k 0)).1
    · rcases bool_or (aboveB (leadS (j.getD k []) (nx.getD k 0)) (topS j nx k).1) with ha | ha
      · have e : topS j nx (k + 1) = topS j nx k := by
          simp only [topS]; rw [if_neg (fun h => by rw [h.2] at ha; cases ha)]
        rw [e]
        by_cases hbk : b = k
        · subst hbk
          simp only [aboveB, Bool.or_eq_false_iff, decide_eq_false_iff_not] at ha
          omega
        · exact ih b (by omega) hlt
      · have e : topS j nx (k + 1) = (leadS (j.getD k []) (nx.getD k 0), k) := by
          simp only [topS]; rw [if_pos ⟨hp, ha⟩]
        rw [e]
        by_cases hbk : b = k
        · subst hbk; exact Int.le_refl _
        · have h1 := ih b (by omega) hlt
          have hlb := leadS_pos (hj.jobs b (by omega)).1 hlt
          rcases topS_cases hj hn k (by omega) with ⟨e2, h2⟩ | ⟨a1, a2, a3, a4⟩
          · have := h2 b (by omega); omega
          · simp only [aboveB, Bool.or_eq_true, decide_eq_true_eq] at ha
            exact rate_trans (by omega) a1 (Int.le_of_lt hp) h1 (by simp only; omega)
    · have e : topS j nx (k + 1) = topS j nx k := by
        simp only [topS]; rw [if_neg (fun h => hp h.1)]
      rw [e]
      by_cases hbk : b = k
      · subst hbk
        exact absurd (leadS_pos (hj.jobs b (by omega)).1 hlt).1 hp
      · exact ih b (by omega) hlt
/-- Counters, as a function. -/
def cntF (nx : List Nat) : Nat → Nat := fun b => nx.getD b 0
theorem cntF_set {nx : List Nat} {b m : Nat} (hb : b < nx.length) : cntF (nx.set b (nx.getD b 0 + m)) = upd (cntF nx) b m := by
  funext c
  simp only [cntF, upd, getD_set hb]
  split
  · next h => subst h; rfl
  · rfl
theorem top_lead {j : Coast} {s : List Nat × List Nat} (hj : CoastOk j) (h : BOk j s) (hlt : s.1.length < manyN j j.length) : TopF j (cntF s.2) (topS j s.2 j.length).2 (takeS j s.2) := by
  obtain ⟨a1, a2, a3, a4⟩ := top_some hj h hlt
  obtain ⟨t1, t2, t3⟩ := take_bd hj h hlt
  obtain ⟨k, k1, k2, k3, k4⟩ := leadS_best (hj.jobs _ a2).1 a3
  have hk : takeS j s.2 = k := by
    rw [a4, k3] at t3
    simp only at t3
    omega
  have e : remC j (cntF s.2) (topS j s.2 j.length).2 = (j.getD (topS j s.2 j.length).2 []).drop (s.2.getD (topS j s.2 j.length).2 0) := rfl
  have hpos := part_pos (f := s.2.getD (topS j s.2 j.length).2 0) (m := k) (hj.jobs _ a2).1 a3 k1
  rw [hk]
  refine ⟨a2, k1, k2, by rw [e]; exact hpos, fun c hc m => ?_⟩
  rw [e]
  by_cases hcl : s.2.getD c 0 < (j.getD c []).length
  · have h1 := topS_most hj h.nx j.length (Nat.le_refl _) c hc hcl
    rw [a4, k3] at h1
    obtain ⟨q, q1, q2, q3, q4⟩ := leadS_best (hj.jobs c hc).1 hcl
    rw [q3] at h1
    exact rate_trans (part_nonneg (hj.jobs c hc).1) (part_pos (hj.jobs c hc).1 hcl q1) (by omega) (q4 m) h1
  · have : remC j (cntF s.2) c = [] := by unfold remC cntF; exact List.drop_of_length_le (by omega)
    rw [this]; simp [hS, wS]
theorem bestF_led {j : Coast} (hj : CoastOk j) : ∀ i o, LedF j (cntF (bestF j i).2) o → LedF j (fun _ => 0) ((bestF j i).1 ++ o)
  | 0, o, h => by
    have : cntF (bestF j 0).2 = fun _ => 0 := by
      funext b
      simp only [cntF, bestF, List.getD_eq_getElem?_getD, List.getElem?_replicate]
      split <;> rfl
    rw [this] at h
    exact h
  | i + 1, o, h => by
    have hok := bestF_ok hj i
    by_cases hlt : (bestF j i).1.length < manyN j j.length
    · obtain ⟨a1, a2, a3, a4⟩ := top_some hj hok hlt
      simp only [bestF] at h ⊢
      rw [if_pos hlt] at h ⊢
      simp only at h ⊢
      rw [cntF_set (by rw [hok.nx.len]; exact a2)] at h
      rw [List.append_assoc]
      exact bestF_led hj i _ (.cons (top_lead hj hok hlt) h)
    · have e : bestF j (i + 1) = bestF j i := bestF_done hlt 1
      rw [e] at h ⊢
      exact bestF_led hj i o h
theorem bestO_led {j : Coast} (hj : CoastOk j) : LedF j (fun _ => 0) (bestO j) := by
  have h := bestF_led hj (manyN j j.length) [] (.nil fun b hb => ?_)
  · rw [List.append_nil] at h; exact h
  · have hok := bestF_ok hj (manyN j j.length)
    have hlen := bestO_len hj
    unfold bestO at hlen
    exact (sum_le_many hok.nx).2.1 (by rw [← hok.sum, hlen]) b hb
theorem bestO_ord {j : Coast} (hj : CoastOk j) : OrdF j (fun _ => 0) (bestO j) := (bestO_led hj).ord
theorem CoastOk.hours {j : Coast} (hj : CoastOk j) : ∀ c, c < j.length → ∀ x ∈ j.getD c [], 0 ≤ x.1 := fun c hc x hx => by
  have := (hj.jobs c hc).1.mem hx; omega
theorem bestO_least {j : Coast} (hj : CoastOk j) {o : List Nat} (ho : OrdF j (fun _ => 0) o) : costS 0 (jobsF j (fun _ => 0) (bestO j)) ≤ costS 0 (jobsF j (fun _ => 0) o) :=
  led_least hj.hours (bestO_led hj) 0 o ho
/-- The harm of an order, both ways. -/
theorem jobsF_app {j : Coast} {b : Nat} : ∀ {o : List Nat} {f : Nat → Nat}, jobsF j f (o ++ [b]) = jobsF j f o ++ [(j.getD b []).getD (f b + o.count b) (0, 0)]
  | [], f => by simp [jobsF]
  | c :: o, f => by
    simp only [List.cons_append, jobsF]
    rw [jobsF_app, List.count_cons]
    by_cases h : c = b
    · subst h
      rw [upd_same, beq_self_eq_true, if_pos rfl, show f c + 1 + List.count c o = f c + (List.count c o + 1) by omega]
    · rw [upd_ne (fun e => h e.symm)]
      have : (c == b) = false := by simpa using h
      rw [this]; rfl
theorem natsC_beach (o : List Nat) (i : Nat) : beachO (natsC o) i = o.getD i 0 := by
  unfold beachO; rw [natsC_get]; rfl
theorem natsC_count (o : List Nat) (b : Nat) : (natsC o).count (b : Int) = o.count b := by
  induction o with
  | nil => rfl
  | cons x o ih =>
    have : natsC (x :: o) = (x : Int) :: natsC o := rfl
    rw [this, List.count_cons, List.count_cons, ih]
    congr 1
    by_cases h : x = b
    · subst h; simp
    · have h2 : (x == b) = false := by simpa using h
      have h3 : ((x : Int) == (b : Int)) = false := by simp; omega
      rw [h2, h3]
theorem natsC_take (o : List Nat) (i : Nat) : (natsC o).take i = natsC (o.take i) := by simp [natsC]
theorem natsC_cnt (o : List Nat) (i b : Nat) : cntO (natsC o) i b = (o.take i).count b := by
  unfold cntO; rw [natsC_take, natsC_count]
theorem harm_cost {j : Coast} {o : List Nat} : ∀ i, i ≤ o.length → hourO j (natsC o) i = hS (jobsF j (fun _ => 0) (o.take i)) ∧ harmO j (natsC o) i = costS 0 (jobsF j (fun _ => 0) (o.take i))
  | 0, _ => by simp [hourO, harmO, jobsF, hS, costS]
  | i + 1, h => by
    obtain ⟨h1, h2⟩ := harm_cost (j := j) (o := o) i (by omega)
    have e : jobO j (natsC o) i = (j.getD (o.getD i 0) []).getD (0 + (o.take i).count (o.getD i 0)) (0, 0) := by
      unfold jobO; rw [natsC_beach, natsC_cnt, Nat.zero_add]
    rw [take_succ_getD (d := 0) (by omega), jobsF_app]
    have h3 : hourO j (natsC o) (i + 1) = hS (jobsF j (fun _ => 0) (o.take i) ++ [(j.getD (o.getD i 0) []).getD (0 + (o.take i).count (o.getD i 0)) (0, 0)]) := by
      rw [hS_app, ← h1]; simp only [hourO]; rw [e]; simp [hS]
    refine ⟨h3, ?_⟩
    simp only [harmO]
    rw [costS_app, ← h2, h3, e, hS_app]
    simp only [costS, hS_cons, hS_nil, Int.add_zero, Int.zero_add]
theorem harm_costS {j : Coast} {o : List Nat} : harmO j (natsC o) (natsC o).length = costS 0 (jobsF j (fun _ => 0) o) := by
  have := (harm_cost (j := j) (o := o) o.length (Nat.le_refl _)).2
  rw [List.take_length] at this
  rw [natsC_len]; exact this
end Go.Proofs.Ytjijjncddjkdlaa

/- What an order is: all numbers in range, each as often as the beach has jobs. Plain law. -/
namespace Go.Proofs.Ytjijjncddjkdlaa
open Go.RowKit
set_option linter.unusedVariables false
set_option linter.unusedSimpArgs false
theorem sum_map_add {n : Nat} {F G : Nat → Nat} : ((List.range n).map fun i => F i + G i).sum = ((List.range n).map F).sum + ((List.range n).map G).sum := by
  induction n with
  | zero => rfl
  | succ n ih => simp only [List.range_succ, List.map_append, List.sum_append, ih, List.map_cons, List.map_nil, List.sum_cons, List.sum_nil]; omega
theorem sum_one {n x : Nat} (h : x < n) : ((List.range n).map fun i => if x = i then 1 else 0).sum = 1 := by
  have z : ∀ m, m ≤ x → ((List.range m).map fun i => if x = i then 1 else 0).sum = 0 := by
    intro m hm
    induction m with
    | zero => rfl
    | succ m ih =>
      simp only [List.range_succ, List.map_append, List.sum_append, ih (by omega), List.map_cons, List.map_nil, List.sum_cons, List.sum_nil]
      rw [if_neg (by omega)]; rfl
  induction n with
  | zero => omega
  | succ n ih =>
    simp only [List.range_succ, List.map_append, List.sum_append, List.map_cons, List.map_nil, List.sum_cons, List.sum_nil]
    by_cases hx : x = n
    · subst hx; rw [z x (Nat.le_refl _)]; simp
    · rw [ih (by omega), if_neg hx]; rfl
theorem len_counts {n : Nat} : ∀ {o : List Nat}, (∀ x ∈ o, x < n) → o.length = ((List.range n).map fun b => o.count b).sum
  | [], _ => by
    induction n with
    | zero => rfl
    | succ n ih => simp only [List.range_succ, List.map_append, List.sum_append]; simpa using ih
  | x :: o, h => by
    have ih := len_counts (o := o) (fun y hy => h y (by simp [hy]))
    have e : (fun b => (x :: o).count b) = fun b => o.count b + if x = b then 1 else 0 := by
      funext b
      rw [List.count_cons]
      congr 1
      by_cases hb : x = b
      · subst hb; simp
      · have : (x == b) = false := by simpa using hb
        rw [this, if_neg hb]; rfl
    rw [e, sum_map_add, ← ih, sum_one (h x (by simp))]
    rfl
/-- How often each beach is named. -/
def cntsL (j : Coast) (o : List Nat) : List Nat := (List.range j.length).map fun b => o.count b
theorem cntsL_get {j : Coast} {o : List Nat} {b : Nat} (hb : b < j.length) : (cntsL j o).getD b 0 = o.count b := by
  simp [cntsL, List.getD_eq_getElem?_getD, hb]
theorem ord_len {j : Coast} {o : List Nat} (h : OrdF j (fun _ => 0) o) : o.length = manyN j j.length := by
  rw [len_counts h.lt]
  have hn : NxOk j (cntsL j o) := ⟨by simp [cntsL], fun b hb => by rw [cntsL_get hb]; have := h.cnt b hb; omega⟩
  exact (sum_le_many hn).2.2 fun b hb => by rw [cntsL_get hb]; have := h.cnt b hb; omega
theorem ord_of_le {j : Coast} {o : List Nat} (h1 : ∀ x ∈ o, x < j.length) (h2 : ∀ b, b < j.length → o.count b ≤ (j.getD b []).length) (h3 : o.length = manyN j j.length) : OrdF j (fun _ => 0) o := by
  refine ⟨h1, fun b hb => ?_⟩
  have hn : NxOk j (cntsL j o) := ⟨by simp [cntsL], fun b hb => by rw [cntsL_get hb]; exact h2 b hb⟩
  have := (sum_le_many hn).2.1 (by rw [← h3, len_counts h1]; rfl) b hb
  rw [cntsL_get hb] at this
  omega
theorem natsC_toNat : ∀ {o : List Int}, (∀ x ∈ o, 0 ≤ x) → natsC (o.map Int.toNat) = o
  | [], _ => rfl
  | x :: o, h => by
    have h0 := h x (by simp)
    have ih := natsC_toNat (o := o) (fun y hy => h y (by simp [hy]))
    show (x.toNat : Int) :: natsC (o.map Int.toNat) = x :: o
    rw [ih]; congr 1; omega
theorem isOrd_iff {j : Coast} (hm : manyN j j.length ≤ 100) {o : List Int} : isOrdB j o = true ↔ ∃ o', o = natsC o' ∧ OrdF j (fun _ => 0) o' := by
  constructor
  · intro h
    have hok := h
    simp only [isOrdB, Bool.and_eq_true, decide_eq_true_eq] at h
    obtain ⟨⟨h1, h2⟩, h3⟩ := h
    have hg : ∀ i, i < o.length → goodAt j o i = true := fun i hi => List.all_eq_true.1 h2 i (List.mem_range.2 hi)
    have hge : ∀ x ∈ o, 0 ≤ x ∧ x.toNat < j.length := fun x hx => by
      obtain ⟨i, hi, rfl⟩ := List.mem_iff_getElem.1 hx
      obtain ⟨g1, g2, _⟩ := goodAt_b (hg i hi)
      rw [getD_lt hi] at g1
      rw [g1]; simpa using g2
    have e := natsC_toNat (fun x hx => (hge x hx).1)
    refine ⟨o.map Int.toNat, e.symm, ord_of_le (fun x hx => ?_) (fun b hb => ?_) (by rw [List.length_map]; omega)⟩
    · obtain ⟨y, hy, rfl⟩ := List.mem_map.1 hx
      exact (hge y hy).2
    · have := cnt_le (b := b) (Nat.le_refl o.length) hg
      unfold cntO at this
      rw [List.take_length, ← e, natsC_count] at this
      exact this
  · rintro ⟨o', rfl, h⟩
    have hl := ord_len h
    have hg : (List.range (natsC o').length).all (goodAt j (natsC o')) = true := List.all_eq_true.2 fun i hi => by
      have hi' := List.mem_range.1 hi
      rw [natsC_len] at hi'
      have hb := h.lt (o'.getD i 0) (by rw [getD_lt hi']; exact List.getElem_mem hi')
      have hc := h.cnt _ hb
      simp only [goodAt, Bool.and_eq_true, decide_eq_true_eq]
      rw [natsC_beach, natsC_cnt, natsC_get]
      refine ⟨by omega, ?_⟩
      have h1 : (o'.take (i + 1)).count (o'.getD i 0) ≤ o'.count (o'.getD i 0) := (List.take_sublist _ _).count_le _
      rw [take_succ_getD (d := 0) hi', List.count_append] at h1
      simp only [List.count_singleton_self] at h1
      omega
    simp only [isOrdB, hg, Bool.and_eq_true, decide_eq_true_eq, natsC_len]
    exact ⟨⟨by omega, by rw [natsC_len] at hg; exact hg⟩, by omega⟩
theorem natsC_ok {j : Coast} {o : List Nat} (hm : manyN j j.length ≤ 100) (h : OrdF j (fun _ => 0) o) : OrdOk j (natsC o) := isOrd_ok ((isOrd_iff hm).2 ⟨o, rfl, h⟩)
end Go.Proofs.Ytjijjncddjkdlaa

/- Shore: results that are rows; Least; Sane. -/
namespace Go.Proofs.Ytjijjncddjkdlaa
open Go.RowKit
set_option linter.unusedVariables false
set_option linter.unusedSimpArgs false
theorem renL_one (nx : Nat) (o : Option Nat) : renL [(nx, o)] nx = o := by simp [renL]
theorem inLab_one (nx : Nat) : inLab nx (nx + 1) nx = true := by simp [inLab, Nat.ble_eq, Nat.blt_eq]
/-- A callee that gives numbers, nil if there are none. -/
theorem CallK.ints {P : Program} {n0 nx nac : Nat} {f : FuncId} {vs vs' : List V} {Lc L : List E} {R : Rn} {K : V → List E → Nat → Prop} {l : List Int} (spec : Spec P f vs Lc nac (fun v L' _ => intsR l v L')) (hok : callB P f = true)
    (hv : renVs R vs = some vs') (hvw : ∀ v ∈ vs, v.wf nac) (hL : roL R nac L Lc) (hLc : injB [] Lc = true)
    (hK : K (V.c (.sl nx l.length)) [⟨nx, .vec 3 1, l.map C.i⟩] (nx + 1)) : CallK P n0 f vs' L nx K := by
  refine CallK.mk' hok spec hv hvw hL hLc ?_
  rintro v L' nx' hw (⟨rfl, rfl⟩ | ⟨lab, rfl, hf⟩)
  · refine ⟨V.c (.sl nx 0), [⟨nx, .vec 3 1, []⟩], nx + 1, [(nx, none)], ⟨Nat.le_succ _, ?_, ?_, ⟨covE_nil (renL_one _ _) (Nat.lt_succ_self nx) rfl rfl, trivial⟩, rfl, ?_⟩, hK⟩
    · simp only [V.ren, A.ren, C.ren, renL_one]
    · simp only [V.chk, A.chk, C.chk]; exact inLab_one nx
    · simp only [List.all_cons, List.all_nil, Bool.and_true, inLab_one, Kd.isRo, Bool.not_false]
  · refine ⟨V.c (.sl nx l.length), [⟨nx, .vec 3 1, l.map C.i⟩], nx + 1, [(nx, some lab)], ⟨Nat.le_succ _, ?_, ?_, ⟨covE_some (renL_one _ _) (Nat.lt_succ_self nx) (wf_ints _ _) hf (ren_ints _ _), trivial⟩, rfl, ?_⟩, hK⟩
    · simp only [V.ren, A.ren, C.ren, renL_one]
    · simp only [V.chk, A.chk, C.chk]; exact inLab_one nx
    · simp only [List.all_cons, List.all_nil, Bool.and_true, inLab_one, Kd.isRo, Bool.not_false, Bool.true_and]
      exact chk_ints _ _
/-- Numbers and an error. -/
def intsX (l : List Int) (Er : Int) (v : V) (L' : List E) : Prop :=
  ∃ o : C, v = V.tup [A.c o, A.c (C.i Er)] ∧ ((o = C.nil ∧ l = []) ∨ ∃ lab, o = C.sl lab l.length ∧ find L' lab = some ⟨lab, .vec 3 1, l.map C.i⟩)
theorem CallK.intsE {P : Program} {n0 nx nac : Nat} {f : FuncId} {vs vs' : List V} {Lc L : List E} {R : Rn} {K : V → List E → Nat → Prop} {l : List Int} {Er : Int} (spec : Spec P f vs Lc nac (fun v L' _ => intsX l Er v L')) (hok : callB P f = true)
    (hv : renVs R vs = some vs') (hvw : ∀ v ∈ vs, v.wf nac) (hL : roL R nac L Lc) (hLc : injB [] Lc = true)
    (hK : K (V.tup [A.c (.sl nx l.length), A.c (C.i Er)]) [⟨nx, .vec 3 1, l.map C.i⟩] (nx + 1)) : CallK P n0 f vs' L nx K := by
  refine CallK.mk' hok spec hv hvw hL hLc ?_
  rintro v L' nx' hw ⟨o, rfl, ⟨rfl, rfl⟩ | ⟨lab, rfl, hf⟩⟩
  · refine ⟨V.tup [A.c (.sl nx 0), A.c (C.i Er)], [⟨nx, .vec 3 1, []⟩], nx + 1, [(nx, none)], ⟨Nat.le_succ _, ?_, ?_, ⟨covE_nil (renL_one _ _) (Nat.lt_succ_self nx) rfl rfl, trivial⟩, rfl, ?_⟩, hK⟩
    · simp [V.ren, A.ren, C.ren, renL_one, C.i, seqO]
    · simp [V.chk, A.chk, C.chk, inLab_one, C.i]
    · simp only [List.all_cons, List.all_nil, Bool.and_true, inLab_one, Kd.isRo, Bool.not_false]
  · refine ⟨V.tup [A.c (.sl nx l.length), A.c (C.i Er)], [⟨nx, .vec 3 1, l.map C.i⟩], nx + 1, [(nx, some lab)], ⟨Nat.le_succ _, ?_, ?_, ⟨covE_some (renL_one _ _) (Nat.lt_succ_self nx) (wf_ints _ _) hf (ren_ints _ _), trivial⟩, rfl, ?_⟩, hK⟩
    · simp [V.ren, A.ren, C.ren, renL_one, C.i, seqO]
    · simp [V.chk, A.chk, C.chk, inLab_one, C.i]
    · simp only [List.all_cons, List.all_nil, Bool.and_true, inLab_one, Kd.isRo, Bool.not_false, Bool.true_and]
      exact chk_ints _ _
theorem validL_many {j : Coast} (hv : validL j = true) : manyN j j.length ≤ 12 := by
  simp only [validL, Bool.and_eq_true, decide_eq_true_eq] at hv; omega
def leastO (j : Coast) : Int := harmO j (natsC (bestO j)) (natsC (bestO j)).length
theorem HasC.roO {L : List E} {j : Coast} {o : List Int} {a : Nat} {k : Kd} (h : HasC L j) (hj : Sized j) (ho : find L a = some ⟨a, k, o.map C.i⟩) : roL [(21, some a)] 32 L (⟨0, .ro 1, slsC 1 j⟩ :: ⟨21, .ro 0, o.map C.i⟩ :: entC 1 j) := by
  have := hj.len
  refine ⟨⟨Nat.le_of_ble_eq_true rfl, wf_sls _ _ _ (by omega), .ro 1, slsC 1 j, h.sl, .inr rfl, ren_sls_of (fun l hl => by simp [renL, beq_ne (show 21 ≠ l by omega)]) (by omega)⟩, ⟨Nat.le_of_ble_eq_true rfl, wf_ints _ _, k, o.map C.i, ho, .inl rfl, ren_ints _ _⟩, roL_all fun e he => ?_⟩
  obtain ⟨i, hi, rfl⟩ := entC_mem he
  have hr : renL [(21, some a)] (1 + i) = some (1 + i) := by simp [renL, beq_ne (show 21 ≠ 1 + i by omega)]
  unfold roE
  simp only [hr]
  exact ⟨by omega, wf_jobs _ _, .ro 2, _, h.be i hi, .inr rfl, ren_jobs _ _⟩
theorem least_spec (j : Coast) (hj : Sized j) : Spec Try.prog 19 [V.c (.sl 0 j.length)] (⟨0, .ro 1, slsC 1 j⟩ :: entC 1 j) 32 (Is (if validL j then .tup [.c (.i (leastO j)), .c (.i 0)] else .tup [.c (.i 0), .c (.i 60)])) := by
  have hj20 := hj.len
  have hC : HasC (⟨0, .ro 1, slsC 1 j⟩ :: entC 1 j) j := ⟨rfl, fun k hk => by (repeat (first | rw [find_skip (by omega)] | rw [find_hi (by omega) (by rfl)])); exact entC_find hk⟩
  refine Spec.of tok Try.func19 rfl rfl rfl fun n0 cx => vc_ok tok ?_
  cases hv : validL j with
  | true =>
    have hm := validL_many hv
    have hc := validL_coast hj hv
    repeat ((conv => whnf); first | (refine And.intro (by first | omega | exact Nat.le_of_ble_eq_true rfl | (dsimp only [inK]; omega) | (simp only [mulS_eq]; omega) | (simp only [mulS_eq, setL_length]; omega) | (simp only [setL_length, List.length_map]; omega) | exact ⟨by omega, by omega, by first | exact Nat.le_of_ble_eq_true rfl | (dsimp only; omega) | (simp only [setL_length]; omega) | (simp only [setL_length, List.length_map]; omega)⟩ | exact ⟨by omega, by first | rfl | omega, by omega, Nat.le_of_ble_eq_true rfl, Nat.le_of_ble_eq_true rfl⟩ | exact ⟨rfl, rfl, rfl, Nat.le_of_ble_eq_true rfl, by first | rfl | omega | exact Nat.le_of_ble_eq_true rfl | (dsimp only; omega) | (simp; done) | (simp; omega), by first | rfl | omega | exact Nat.le_of_ble_eq_true rfl | (dsimp only; omega) | (simp; done) | (simp; omega), by omega, Nat.le_of_ble_eq_true rfl⟩ | exact Eq.refl true) ?_) | (refine Exists.intro _ (And.intro rfl ?_)) | (refine And.intro (And.intro rfl (chk_rowI _ _ _ _)) ?_) | (refine br_t (by omega) ?_) | (refine br_f (by omega) ?_) | (refine bs_t (by omega) ?_) | (refine bs_f (by omega) ?_) | (refine fun (K' : K3) hK' => ?_) | (refine hK' _ _ _ ?_; clear hK' K') | (refine CallM.eq (by kernel_rfl) (open_spec j hj _ _ hC) ?_) | (refine draw_auto tok mixed (by kernel_rfl) ?_) | (rw [hv]) | (refine CallK.ints (R := []) (best_spec j hc hj (by omega)) (by kernel_rfl) rfl (by simp [V.wf, A.wf, C.wf]) (hC.ro hj) (injC hj) ?_) | (refine CallK.val (R := [(21, some 32)]) (harm_spec j (natsC (bestO j)) hc (natsC_ok (by omega) (bestO_ord hc))) (by kernel_rfl) rfl (by simp [V.wf, A.wf, C.wf]) (HasC.roO ⟨rfl, fun k hk => by (repeat (first | rw [find_skip (by omega)] | rw [find_hi (by omega) (by rfl)])); exact entC_find hk⟩ hj rfl) (injO hj) rfl trivial ?_) | (refine bs_bt (Eq.refl true) ?_) | (refine bs_bf (Eq.refl false) ?_) | (refine br_bt (Eq.refl true) ?_) | (refine br_bf (Eq.refl false) ?_) | (refine CallK.m ?_) | (refine Two.l ?_) | (refine And.intro (And.intro rfl rfl) ?_))
    intro ρ; rfl
  | false =>
    repeat ((conv => whnf); first | (refine And.intro (by first | omega | exact Nat.le_of_ble_eq_true rfl | (dsimp only [inK]; omega) | (simp only [mulS_eq]; omega) | (simp only [mulS_eq, setL_length]; omega) | (simp only [setL_length, List.length_map]; omega) | exact ⟨by omega, by omega, by first | exact Nat.le_of_ble_eq_true rfl | (dsimp only; omega) | (simp only [setL_length]; omega) | (simp only [setL_length, List.length_map]; omega)⟩ | exact ⟨by omega, by first | rfl | omega, by omega, Nat.le_of_ble_eq_true rfl, Nat.le_of_ble_eq_true rfl⟩ | exact ⟨rfl, rfl, rfl, Nat.le_of_ble_eq_true rfl, by first | rfl | omega | exact Nat.le_of_ble_eq_true rfl | (dsimp only; omega) | (simp; done) | (simp; omega), by first | rfl | omega | exact Nat.le_of_ble_eq_true rfl | (dsimp only; omega) | (simp; done) | (simp; omega), by omega, Nat.le_of_ble_eq_true rfl⟩ | exact Eq.refl true) ?_) | (refine Exists.intro _ (And.intro rfl ?_)) | (refine And.intro (And.intro rfl (chk_rowI _ _ _ _)) ?_) | (refine br_t (by omega) ?_) | (refine br_f (by omega) ?_) | (refine bs_t (by omega) ?_) | (refine bs_f (by omega) ?_) | (refine fun (K' : K3) hK' => ?_) | (refine hK' _ _ _ ?_; clear hK' K') | (refine CallM.eq (by kernel_rfl) (open_spec j hj _ _ hC) ?_) | (refine draw_auto tok mixed (by kernel_rfl) ?_) | (rw [hv]) | (refine bs_bt (Eq.refl true) ?_) | (refine bs_bf (Eq.refl false) ?_) | (refine br_bt (Eq.refl true) ?_) | (refine br_bf (Eq.refl false) ?_) | (refine CallK.m ?_) | (refine Two.l ?_) | (refine And.intro (And.intro rfl rfl) ?_))
    intro ρ; rfl
end Go.Proofs.Ytjijjncddjkdlaa

/- Shore: Sane, Long. -/
namespace Go.Proofs.Ytjijjncddjkdlaa
open Go.RowKit
set_option linter.unusedVariables false
set_option linter.unusedSimpArgs false
def saneJ : Coast := [[(2, 6)], [(1, 1), (1, 9)]]
theorem sane_least : leastO saneJ = 43 := by decide +kernel
theorem sane_valid : validL saneJ = true := by decide +kernel
theorem sane_sized : Sized saneJ := ⟨by decide, by decide⟩
theorem sane_spec : Spec Try.prog 15 [] [] 0 (Is (V.c (.bool true))) := by
  refine Spec.of tok Try.func15 rfl rfl rfl fun n0 cx => vc_ok tok ?_
  repeat ((conv => whnf); first | (refine And.intro (by first | omega | exact Nat.le_of_ble_eq_true rfl | (dsimp only [inK]; omega) | (simp only [mulS_eq]; omega) | (simp only [mulS_eq, setL_length]; omega) | (simp only [setL_length, List.length_map]; omega) | exact ⟨by omega, by omega, by first | exact Nat.le_of_ble_eq_true rfl | (dsimp only; omega) | (simp only [setL_length]; omega) | (simp only [setL_length, List.length_map]; omega)⟩ | exact ⟨by omega, by first | rfl | omega, by omega, Nat.le_of_ble_eq_true rfl, Nat.le_of_ble_eq_true rfl⟩ | exact ⟨rfl, rfl, rfl, Nat.le_of_ble_eq_true rfl, by first | rfl | omega | exact Nat.le_of_ble_eq_true rfl | (dsimp only; omega) | (simp; done) | (simp; omega), by first | rfl | omega | exact Nat.le_of_ble_eq_true rfl | (dsimp only; omega) | (simp; done) | (simp; omega), by omega, Nat.le_of_ble_eq_true rfl⟩ | exact Eq.refl true) ?_) | (refine Exists.intro _ (And.intro rfl ?_)) | (refine And.intro (And.intro rfl (chk_rowI _ _ _ _)) ?_) | (refine br_t (by omega) ?_) | (refine br_f (by omega) ?_) | (refine bs_t (by omega) ?_) | (refine bs_f (by omega) ?_) | (refine fun (K' : K3) hK' => ?_) | (refine hK' _ _ _ ?_; clear hK' K') | (refine draw_auto tok mixed (by kernel_rfl) ?_) | (refine CallK.val (R := [(0, some 2), (1, some 0), (2, some 1)]) (least_spec saneJ sane_sized) (by kernel_rfl) rfl (by simp [V.wf, A.wf, C.wf]) ⟨⟨by simp only; omega, by simp [slsC, saneJ, C.wf], _, _, rfl, .inr rfl, rfl⟩, ⟨by simp only; omega, by simp [jobC, C.i, C.wf], _, _, rfl, .inr rfl, rfl⟩, ⟨by simp only; omega, by simp [jobC, C.i, C.wf], _, _, rfl, .inr rfl, rfl⟩, trivial⟩ rfl (by rw [sane_valid]; rfl) (by rw [sane_valid]; simp [V.wf, A.wf, C.wf]) ?_) | (rw [sane_valid, sane_least]) | (refine bs_bt (Eq.refl true) ?_) | (refine bs_bf (Eq.refl false) ?_) | (refine br_bt (Eq.refl true) ?_) | (refine br_bf (Eq.refl false) ?_) | (refine CallK.m ?_) | (refine Two.l ?_) | (refine And.intro (And.intro rfl rfl) ?_))
  intro ρ; rfl
def longB (j : Coast) : Bool := (j.any fun b => decide (100 < b.length)) || decide (20 < j.length)
theorem longB_sized {j : Coast} (h : longB j = false) : Sized j := by
  simp only [longB, Bool.or_eq_false_iff, decide_eq_false_iff_not] at h
  refine ⟨by omega, fun k hk => ?_⟩
  have := List.any_eq_false.1 h.1 _ (List.getElem_mem hk)
  rw [List.getD_eq_getElem?_getD, List.getElem?_eq_getElem hk]
  simpa using this
theorem long_any (j : Coast) (hj : j.length < 9223372036854775808) : Spec Try.prog 14 [V.c (.sl 0 j.length)] [⟨0, .ro 1, slsC 1 j⟩] (j.length + 32) (Is (V.c (.bool (longB j)))) := by
  have hlen := slsC_len (b := 1) (j := j)
  refine Spec.of tok Try.func14 rfl rfl rfl fun n0 cx => vc_ok tok ?_
  repeat ((conv => whnf); first | (refine And.intro (by first | omega | exact Nat.le_of_ble_eq_true rfl | (dsimp only [inK]; omega) | (simp only [mulS_eq]; omega) | (simp only [mulS_eq, setL_length]; omega) | (simp only [setL_length, List.length_map]; omega) | exact ⟨by omega, by omega, by first | exact Nat.le_of_ble_eq_true rfl | (dsimp only; omega) | (simp only [setL_length]; omega) | (simp only [setL_length, List.length_map]; omega)⟩ | exact ⟨by omega, by first | rfl | omega, by omega, Nat.le_of_ble_eq_true rfl, Nat.le_of_ble_eq_true rfl⟩ | exact ⟨rfl, rfl, rfl, Nat.le_of_ble_eq_true rfl, by first | rfl | omega | exact Nat.le_of_ble_eq_true rfl | (dsimp only; omega) | (simp; done) | (simp; omega), by first | rfl | omega | exact Nat.le_of_ble_eq_true rfl | (dsimp only; omega) | (simp; done) | (simp; omega), by omega, Nat.le_of_ble_eq_true rfl⟩ | exact Eq.refl true) ?_) | (refine Exists.intro _ (And.intro rfl ?_)) | (refine And.intro (And.intro rfl (chk_rowI _ _ _ _)) ?_) | (refine br_t (by omega) ?_) | (refine br_f (by omega) ?_) | (refine bs_t (by omega) ?_) | (refine bs_f (by omega) ?_) | (refine fun (K' : K3) hK' => ?_) | (refine hK' _ _ _ ?_; clear hK' K') | (refine draw_auto tok mixed (by kernel_rfl) ?_) | (refine bs_bt (Eq.refl true) ?_) | (refine bs_bf (Eq.refl false) ?_) | (refine br_bt (Eq.refl true) ?_) | (refine br_bf (Eq.refl false) ?_) | (refine CallK.m ?_) | (refine Two.l ?_) | (refine And.intro (And.intro rfl rfl) ?_))
  refine Tri.loop (γ := Nat) (fun k => k ≤ j.length ∧ ∀ i, i < k → ¬ 100 < (j.getD i []).length) (fun k => [(0, V.c (.sl 0 j.length)), (3, V.i (k : Nat))])
    (fun k => [⟨0, .ro 1, slsC 1 j⟩]) (j.length + 32) (fun k => j.length - k) 0 (R0 := []) ?_ ?_ ?_
  · exact ⟨by omega, by omega⟩
  · skip
    refine ⟨?_, ?_, rfl, rfl, by first | exact Nat.le_of_ble_eq_true rfl | exact Nat.le_refl _ | omega⟩
    · repeat (first | exact trivial | refine And.intro (covS_syn (by first | rfl) rfl (by first | exact trivial | exact Nat.le_of_ble_eq_true rfl | exact hy | exact (fun p hp => nomatch hp) | (show (_ : Nat) < _; omega))) ?_ | refine And.intro (covS_bool rfl rfl (by first | rfl)) ?_)
    · repeat (first | exact trivial | refine And.intro (covE_id (Nat.le_of_ble_eq_true rfl) (by first | exact wf_ints _ _ | exact wf_bools _ _ | first | exact wf_sls _ _ _ (by omega) | exact wf_jobs _ _ | simp [C.wf]) rfl (by first | rfl)) ?_)
  · rintro k ⟨hk, hb⟩
    refine vc_ok tok ?_
    by_cases hlt : k < j.length
    · by_cases hbig : 100 < (j.getD k []).length
      · repeat ((conv => whnf); first | (refine And.intro (by first | omega | exact Nat.le_of_ble_eq_true rfl | (dsimp only [inK]; omega) | (simp only [mulS_eq]; omega) | (simp only [mulS_eq, setL_length]; omega) | (simp only [setL_length, List.length_map]; omega) | exact ⟨by omega, by omega, by first | exact Nat.le_of_ble_eq_true rfl | (dsimp only; omega) | (simp only [setL_length]; omega) | (simp only [setL_length, List.length_map]; omega)⟩ | exact ⟨by omega, by first | rfl | omega, by omega, Nat.le_of_ble_eq_true rfl, Nat.le_of_ble_eq_true rfl⟩ | exact ⟨rfl, rfl, rfl, Nat.le_of_ble_eq_true rfl, by first | rfl | omega | exact Nat.le_of_ble_eq_true rfl | (dsimp only; omega) | (simp; done) | (simp; omega), by first | rfl | omega | exact Nat.le_of_ble_eq_true rfl | (dsimp only; omega) | (simp; done) | (simp; omega), by omega, Nat.le_of_ble_eq_true rfl⟩ | exact Eq.refl true) ?_) | (with_reducible refine ld (slL hlt) ?_) | (refine Exists.intro _ (And.intro rfl ?_)) | (refine And.intro (And.intro rfl (chk_rowI _ _ _ _)) ?_) | (refine br_t (by omega) ?_) | (refine br_f (by omega) ?_) | (refine bs_t (by omega) ?_) | (refine bs_f (by omega) ?_) | (refine fun (K' : K3) hK' => ?_) | (refine hK' _ _ _ ?_; clear hK' K') | (refine draw_auto tok mixed (by kernel_rfl) ?_) | (refine br_t (by omega) ?_) | (refine bs_bt (Eq.refl true) ?_) | (refine bs_bf (Eq.refl false) ?_) | (refine br_bt (Eq.refl true) ?_) | (refine br_bf (Eq.refl false) ?_) | (refine CallK.m ?_) | (refine Two.l ?_) | (refine And.intro (And.intro rfl rfl) ?_))
        intro ρ; show Value.bool _ = Value.bool _
        congr 1
        symm
        have : (j.any fun b => decide (100 < b.length)) = true := by
          refine List.any_eq_true.2 ⟨j[k], List.getElem_mem hlt, ?_⟩
          rw [List.getD_eq_getElem?_getD, List.getElem?_eq_getElem hlt] at hbig
          simpa using hbig
        simp [longB, this]
      · repeat ((conv => whnf); first | (refine And.intro (by first | omega | exact Nat.le_of_ble_eq_true rfl | (dsimp only [inK]; omega) | (simp only [mulS_eq]; omega) | (simp only [mulS_eq, setL_length]; omega) | (simp only [setL_length, List.length_map]; omega) | exact ⟨by omega, by omega, by first | exact Nat.le_of_ble_eq_true rfl | (dsimp only; omega) | (simp only [setL_length]; omega) | (simp only [setL_length, List.length_map]; omega)⟩ | exact ⟨by omega, by first | rfl | omega, by omega, Nat.le_of_ble_eq_true rfl, Nat.le_of_ble_eq_true rfl⟩ | exact ⟨rfl, rfl, rfl, Nat.le_of_ble_eq_true rfl, by first | rfl | omega | exact Nat.le_of_ble_eq_true rfl | (dsimp only; omega) | (simp; done) | (simp; omega), by first | rfl | omega | exact Nat.le_of_ble_eq_true rfl | (dsimp only; omega) | (simp; done) | (simp; omega), by omega, Nat.le_of_ble_eq_true rfl⟩ | exact Eq.refl true) ?_) | (with_reducible refine ld (slL hlt) ?_) | (refine Exists.intro _ (And.intro rfl ?_)) | (refine And.intro (And.intro rfl (chk_rowI _ _ _ _)) ?_) | (refine br_t (by omega) ?_) | (refine br_f (by omega) ?_) | (refine bs_t (by omega) ?_) | (refine bs_f (by omega) ?_) | (refine fun (K' : K3) hK' => ?_) | (refine hK' _ _ _ ?_; clear hK' K') | (refine draw_auto tok mixed (by kernel_rfl) ?_) | (refine br_f (by omega) ?_) | (refine bs_bt (Eq.refl true) ?_) | (refine bs_bf (Eq.refl false) ?_) | (refine br_bt (Eq.refl true) ?_) | (refine br_bf (Eq.refl false) ?_) | (refine CallK.m ?_) | (refine Two.l ?_) | (refine And.intro (And.intro rfl rfl) ?_))
        refine ⟨k + 1, [], ⟨by omega, fun i hi => ?_⟩, by omega, ?_⟩
        · by_cases h : i = k
          · rw [h]; exact hbig
          · exact hb i (by omega)
        refine ⟨?_, ?_, rfl, rfl, by first | exact Nat.le_of_ble_eq_true rfl | exact Nat.le_refl _ | omega⟩
        · repeat (first | exact trivial | refine And.intro (covS_syn (by first | rfl | (refine congrArg some (congrArg V.i ?_); omega)) rfl (by first | exact trivial | exact Nat.le_of_ble_eq_true rfl | exact hy | exact (fun p hp => nomatch hp) | (show (_ : Nat) < _; omega))) ?_ | refine And.intro (covS_bool rfl rfl (by first | rfl)) ?_)
        · repeat (first | exact trivial | refine And.intro (covE_id (Nat.le_of_ble_eq_true rfl) (by first | exact wf_ints _ _ | exact wf_bools _ _ | first | exact wf_sls _ _ _ (by omega) | exact wf_jobs _ _ | simp [C.wf]) rfl (by first | rfl)) ?_)
    · repeat ((conv => whnf); first | (refine And.intro (by first | omega | exact Nat.le_of_ble_eq_true rfl | (dsimp only [inK]; omega) | (simp only [mulS_eq]; omega) | (simp only [mulS_eq, setL_length]; omega) | (simp only [setL_length, List.length_map]; omega) | exact ⟨by omega, by omega, by first | exact Nat.le_of_ble_eq_true rfl | (dsimp only; omega) | (simp only [setL_length]; omega) | (simp only [setL_length, List.length_map]; omega)⟩ | exact ⟨by omega, by first | rfl | omega, by omega, Nat.le_of_ble_eq_true rfl, Nat.le_of_ble_eq_true rfl⟩ | exact ⟨rfl, rfl, rfl, Nat.le_of_ble_eq_true rfl, by first | rfl | omega | exact Nat.le_of_ble_eq_true rfl | (dsimp only; omega) | (simp; done) | (simp; omega), by first | rfl | omega | exact Nat.le_of_ble_eq_true rfl | (dsimp only; omega) | (simp; done) | (simp; omega), by omega, Nat.le_of_ble_eq_true rfl⟩ | exact Eq.refl true) ?_) | (refine Exists.intro _ (And.intro rfl ?_)) | (refine And.intro (And.intro rfl (chk_rowI _ _ _ _)) ?_) | (refine br_t (by omega) ?_) | (refine br_f (by omega) ?_) | (refine bs_t (by omega) ?_) | (refine bs_f (by omega) ?_) | (refine fun (K' : K3) hK' => ?_) | (refine hK' _ _ _ ?_; clear hK' K') | (refine draw_auto tok mixed (by kernel_rfl) ?_) | (refine bs_bt (Eq.refl true) ?_) | (refine bs_bf (Eq.refl false) ?_) | (refine br_bt (Eq.refl true) ?_) | (refine br_bf (Eq.refl false) ?_) | (refine CallK.m ?_) | (refine Two.l ?_) | (refine And.intro (And.intro rfl rfl) ?_))
      intro ρ; show Value.bool _ = Value.bool _
      congr 1
      have : (j.any fun b => decide (100 < b.length)) = false := by
        refine Bool.eq_false_iff.2 fun h => ?_
        obtain ⟨x, hx, h2⟩ := List.any_eq_true.1 h
        obtain ⟨i, hi, rfl⟩ := List.mem_iff_getElem.1 hx
        have := hb i (by omega)
        rw [List.getD_eq_getElem?_getD, List.getElem?_eq_getElem hi] at this
        exact this (by simpa using h2)
      simp only [longB, this, Bool.false_or]
      congr 1
      simp only [gt_iff_lt, eq_iff_iff]
      omega
end Go.Proofs.Ytjijjncddjkdlaa

/- Shore: Lead. -/
namespace Go.Proofs.Ytjijjncddjkdlaa
open Go.RowKit
set_option linter.unusedVariables false
set_option linter.unusedSimpArgs false
/-- What Lead gives: the last job of a lead, and its rate. -/
def leadG (p : Pc) : Int := (Nat.gcd p.1.toNat p.2.1.toNat : Nat)
def leadV (j : Coast) (b f : Int) : V :=
  if validL j then
    if 0 ≤ b ∧ b ≤ (j.length : Int) - 1 ∧ 0 ≤ f ∧ f ≤ ((j.getD b.toNat []).length : Int) - 1 then
      .tup [.c (.i (leadS (j.getD b.toNat []) f.toNat).2.2), .agg [.i ((leadS (j.getD b.toNat []) f.toNat).2.1 / leadG (leadS (j.getD b.toNat []) f.toNat)), .i ((leadS (j.getD b.toNat []) f.toNat).1 / leadG (leadS (j.getD b.toNat []) f.toNat))], .c (.i 0)]
    else .tup [.c (.i 0), .agg [.i 0, .i 0], .c (.i 2)]
  else .tup [.c (.i 0), .agg [.i 0, .i 0], .c (.i 60)]
end Go.Proofs.Ytjijjncddjkdlaa

/- Shore: the reference's ratio and Lead. -/
namespace Go.Proofs.Ytjijjncddjkdlaa
open Go.RowKit
set_option linter.unusedVariables false
set_option linter.unusedSimpArgs false
theorem beach_many {j : Coast} {b : Nat} (hb : b < j.length) : (j.getD b []).length ≤ manyN j j.length := by
  have key : ∀ k, k ≤ j.length → b < k → (j.getD b []).length ≤ manyN j k := by
    intro k
    induction k with
    | zero => intro _ h; omega
    | succ k ih =>
      intro hk hbk
      rw [manyN_succ (by omega)]
      by_cases h : b = k
      · subst h; omega
      · have := ih (by omega) (by omega); omega
  exact key j.length (Nat.le_refl _) hb
theorem runRS {l : List Job} {f : Nat} (hj : JobsOk l) : ∀ n, f + n ≤ l.length → (runR l f n).1.1 = (runS l f n).1.2.1 ∧ (runR l f n).1.2.1 = (runS l f n).1.1 ∧ (runR l f n).2.1 = (runS l f n).2.2.1 ∧ (runR l f n).2.2.1 = (runS l f n).2.1 ∧ (runR l f n).2.2.2 = (runS l f n).2.2.2
  | 0, _ => by simp [runR, runS]
  | n + 1, h => by
    obtain ⟨h1, h2, h3, h4, h5⟩ := runRS (f := f) hj n (by omega)
    have hb := hj (f + n) (by omega)
    have hbd := runS_bd (f := f) hj n (by omega)
    have hpos : 0 < (runS l f n).1.1 + (l.getD (f + n) (0, 0)).1 := by omega
    simp only [runR, runS]
    rw [h1, h2, h3, h4]
    refine ⟨rfl, rfl, ?_⟩
    by_cases hn : n = 0
    · subst hn
      have hab : aboveB (runS l f 0).2 ((runS l f 0).1.1 + (l.getD (f + 0) (0, 0)).1, (runS l f 0).1.2.1 + (l.getD (f + 0) (0, 0)).2, ((f + 0 : Nat) : Int)) = false := by
        simp only [aboveB, Bool.or_eq_false_iff, decide_eq_false_iff_not]
        refine ⟨by omega, ?_⟩
        simp only [runS]; omega
      rw [if_pos (.inl (by omega)), hab]
      exact ⟨rfl, rfl, rfl⟩
    · cases hab : aboveB (runS l f n).2 ((runS l f n).1.1 + (l.getD (f + n) (0, 0)).1, (runS l f n).1.2.1 + (l.getD (f + n) (0, 0)).2, ((f + n : Nat) : Int)) with
      | true =>
        simp only [aboveB, Bool.or_eq_true, decide_eq_true_eq] at hab
        rw [if_neg (by rintro (e | e) <;> omega), if_pos rfl]
        exact ⟨h3, h4, h5⟩
      | false =>
        simp only [aboveB, Bool.or_eq_false_iff, decide_eq_false_iff_not] at hab
        rw [if_pos (.inr (by omega))]
        exact ⟨rfl, rfl, rfl⟩
theorem rleadS_spec (l : List Job) (f : Nat) (hl : l.length ≤ 12) (hf : f ≤ l.length) (hj : JobsOk l) :
    Spec Try.prog 54 [V.c (.sl 0 l.length), V.i f] [⟨0, .ro 2, jobC l⟩] 1 (Is (V.agg [C.i (leadS l f).2.1, C.i (leadS l f).1, C.i (leadS l f).2.2])) := by
  have h := rlead_spec l f hl hf hj
  obtain ⟨_, _, h3, h4, h5⟩ := runRS (f := f) hj (l.length - f) (by omega)
  rw [h3, h4, h5] at h
  exact h
end Go.Proofs.Ytjijjncddjkdlaa

/- Shore: the pairs' bound. -/
namespace Go.Proofs.Ytjijjncddjkdlaa
open Go.RowKit
set_option linter.unusedVariables false
set_option linter.unusedSimpArgs false
theorem sumZ_bd {F : Nat → Int} {M : Int} : ∀ {n : Nat}, (∀ i, i < n → 0 ≤ F i ∧ F i ≤ M) → 0 ≤ sumZ n F ∧ sumZ n F ≤ n * M
  | 0, _ => by simp [sumZ]
  | n + 1, h => by
    have ih := sumZ_bd (n := n) (fun i hi => h i (by omega))
    have := h n (by omega)
    simp only [sumZ]
    rw [show ((n + 1 : Nat) : Int) * M = n * M + M by rw [Int.natCast_add, Int.add_mul]; simp]
    omega
/-- A job of a beach. -/
def jobA (j : Coast) (b i : Nat) : Job := (j.getD b []).getD i (0, 0)
def tailF (j : Coast) (b i : Nat) : Nat → Int := fun k => (jobA j b i).1 * (jobA j b (i + k)).2
def minF (j : Coast) (b i c : Nat) : Nat → Int := fun k => if (jobA j c k).1 * (jobA j b i).2 < (jobA j b i).1 * (jobA j c k).2 then (jobA j c k).1 * (jobA j b i).2 else (jobA j b i).1 * (jobA j c k).2
def pairF (j : Coast) (b i : Nat) : Nat → Int := fun c => sumZ (j.getD c []).length (minF j b i c)
def rowF (j : Coast) (b : Nat) : Nat → Int := fun i => sumZ ((j.getD b []).length - i) (tailF j b i) + sumZ b (pairF j b i)
def beachF (j : Coast) : Nat → Int := fun b => sumZ (j.getD b []).length (rowF j b)
def boundO (j : Coast) : Int := sumZ j.length (beachF j)
theorem jobA_bd {j : Coast} (hc : CoastOk j) {b i : Nat} (hb : b < j.length) (hi : i < (j.getD b []).length) : 1 ≤ (jobA j b i).1 ∧ (jobA j b i).1 ≤ 100 ∧ 0 ≤ (jobA j b i).2 ∧ (jobA j b i).2 ≤ 100 := (hc.jobs b hb).1 i hi
theorem tailF_bd {j : Coast} (hc : CoastOk j) {b i k : Nat} (hb : b < j.length) (hi : i + k < (j.getD b []).length) : 0 ≤ tailF j b i k ∧ tailF j b i k ≤ 10000 := by
  have h1 := jobA_bd hc hb (show i < _ by omega)
  have h2 := jobA_bd hc hb hi
  exact mul_bd (A := 100) (B := 100) (by omega) h1.2.1 h2.2.2.1 h2.2.2.2
theorem minF_bd {j : Coast} (hc : CoastOk j) {b i c k : Nat} (hb : b < j.length) (hi : i < (j.getD b []).length) (hcl : c < j.length) (hk : k < (j.getD c []).length) : 0 ≤ minF j b i c k ∧ minF j b i c k ≤ 10000 := by
  have h1 := jobA_bd hc hb hi
  have h2 := jobA_bd hc hcl hk
  have p1 := mul_bd (a := (jobA j c k).1) (b := (jobA j b i).2) (A := 100) (B := 100) (by omega) h2.2.1 h1.2.2.1 h1.2.2.2
  have p2 := mul_bd (a := (jobA j b i).1) (b := (jobA j c k).2) (A := 100) (B := 100) (by omega) h1.2.1 h2.2.2.1 h2.2.2.2
  unfold minF
  split <;> omega
theorem small_mul {n : Nat} {N M : Int} (hn : (n : Int) ≤ N) (hM : 0 ≤ M) : (n : Int) * M ≤ N * M := Int.mul_le_mul_of_nonneg_right hn hM
theorem pairF_bd {j : Coast} (hc : CoastOk j) (h12 : ∀ b, b < j.length → (j.getD b []).length ≤ 12) {b i c : Nat} (hb : b < j.length) (hi : i < (j.getD b []).length) (hcl : c < j.length) : 0 ≤ pairF j b i c ∧ pairF j b i c ≤ 120000 := by
  have := sumZ_bd (n := (j.getD c []).length) (F := minF j b i c) (M := 10000) (fun k hk => minF_bd hc hb hi hcl hk)
  have := small_mul (n := (j.getD c []).length) (N := 12) (M := 10000) (by have := h12 c hcl; omega) (by omega)
  unfold pairF; omega
theorem rowF_bd {j : Coast} (hc : CoastOk j) (h12 : ∀ b, b < j.length → (j.getD b []).length ≤ 12) (h6 : j.length ≤ 6) {b i : Nat} (hb : b < j.length) (hi : i < (j.getD b []).length) : 0 ≤ rowF j b i ∧ rowF j b i ≤ 1000000 := by
  have h1 := sumZ_bd (n := (j.getD b []).length - i) (F := tailF j b i) (M := 10000) (fun k hk => tailF_bd hc hb (by omega))
  have h2 := small_mul (n := (j.getD b []).length - i) (N := 12) (M := 10000) (by have := h12 b hb; omega) (by omega)
  have h3 := sumZ_bd (n := b) (F := pairF j b i) (M := 120000) (fun c hcb => pairF_bd hc h12 hb hi (by omega))
  have h4 := small_mul (n := b) (N := 6) (M := 120000) (by omega) (by omega)
  unfold rowF; omega
theorem beachF_bd {j : Coast} (hc : CoastOk j) (h12 : ∀ b, b < j.length → (j.getD b []).length ≤ 12) (h6 : j.length ≤ 6) {b : Nat} (hb : b < j.length) : 0 ≤ beachF j b ∧ beachF j b ≤ 12000000 := by
  have h1 := sumZ_bd (n := (j.getD b []).length) (F := rowF j b) (M := 1000000) (fun i hi => rowF_bd hc h12 h6 hb hi)
  have h2 := small_mul (n := (j.getD b []).length) (N := 12) (M := 1000000) (by have := h12 b hb; omega) (by omega)
  unfold beachF; omega
theorem validL_len {j : Coast} (hv : validL j = true) : 1 ≤ j.length ∧ j.length ≤ 6 := by
  simp only [validL, Bool.and_eq_true, decide_eq_true_eq] at hv; omega
set_option maxHeartbeats 2000000 in
set_option maxRecDepth 100000 in
theorem bound_spec (j : Coast) (hj : Sized j) : Spec Try.prog 20 [V.c (.sl 0 j.length)] (⟨0, .ro 1, slsC 1 j⟩ :: entC 1 j) 32 (Is (if validL j then .tup [.c (.i (boundO j)), .c (.i 0)] else .tup [.c (.i 0), .c (.i 60)])) := by
  have hj20 := hj.len
  have hlen := slsC_len (b := 1) (j := j)
  have hC : HasC (⟨0, .ro 1, slsC 1 j⟩ :: entC 1 j) j := ⟨rfl, fun k hk => by (repeat (first | rw [find_skip (by omega)] | rw [find_hi (by omega) (by rfl)])); exact entC_find hk⟩
  cases hv : validL j with
  | false =>
    refine Spec.of tok Try.func20 rfl rfl rfl fun n0 cx => vc_ok tok ?_
    repeat ((conv => whnf); first | (refine And.intro (by first | omega | exact Nat.le_of_ble_eq_true rfl | (dsimp only [inK]; omega) | (simp only [mulS_eq]; omega) | (simp only [mulS_eq, setL_length]; omega) | (simp only [setL_length, List.length_map]; omega) | exact ⟨by omega, by omega, by first | exact Nat.le_of_ble_eq_true rfl | (dsimp only; omega) | (simp only [setL_length]; omega) | (simp only [setL_length, List.length_map]; omega)⟩ | exact ⟨by omega, by first | rfl | omega, by omega, Nat.le_of_ble_eq_true rfl, Nat.le_of_ble_eq_true rfl⟩ | exact ⟨rfl, rfl, rfl, Nat.le_of_ble_eq_true rfl, by first | rfl | omega | exact Nat.le_of_ble_eq_true rfl | (dsimp only; omega) | (simp; done) | (simp; omega), by first | rfl | omega | exact Nat.le_of_ble_eq_true rfl | (dsimp only; omega) | (simp; done) | (simp; omega), by omega, Nat.le_of_ble_eq_true rfl⟩ | exact Eq.refl true) ?_) | (refine Exists.intro _ (And.intro rfl ?_)) | (refine And.intro (And.intro rfl (chk_rowI _ _ _ _)) ?_) | (refine br_t (by omega) ?_) | (refine br_f (by omega) ?_) | (refine bs_t (by omega) ?_) | (refine bs_f (by omega) ?_) | (refine fun (K' : K3) hK' => ?_) | (refine hK' _ _ _ ?_; clear hK' K') | (refine CallM.eq (by kernel_rfl) (open_spec j hj _ _ hC) ?_) | (refine draw_auto tok mixed (by kernel_rfl) ?_) | (rw [hv]) | (refine bs_bt (Eq.refl true) ?_) | (refine bs_bf (Eq.refl false) ?_) | (refine br_bt (Eq.refl true) ?_) | (refine br_bf (Eq.refl false) ?_) | (refine CallK.m ?_) | (refine Two.l ?_) | (refine And.intro (And.intro rfl rfl) ?_))
    refine Tri.loop (γ := Unit) (fun _ => True) (fun _ => [(5, V.i 60), (6, V.i 0), (23, V.i 0), (24, V.i 0)]) (fun _ => []) 32 (fun _ => 0) () (R0 := []) ?_ ?_ ?_
    · trivial
    · skip
      refine ⟨?_, ?_, rfl, rfl, by first | exact Nat.le_of_ble_eq_true rfl | exact Nat.le_refl _ | omega⟩
      · repeat (first | exact trivial | refine And.intro (covS_syn (by first | rfl) rfl (by first | exact trivial | exact Nat.le_of_ble_eq_true rfl | exact hy | exact (fun p hp => nomatch hp) | (show (_ : Nat) < _; omega))) ?_ | refine And.intro (covS_bool rfl rfl (by first | rfl)) ?_)
      · repeat (first | exact trivial | refine And.intro (covE_id (Nat.le_of_ble_eq_true rfl) (by first | exact wf_ints _ _ | exact wf_bools _ _ | first | exact wf_sls _ _ _ (by omega) | exact wf_jobs _ _ | exact fun c hc => wf_sls _ _ _ (by omega) c (List.mem_of_mem_take hc) | simp [C.wf]) rfl (by first | rfl)) ?_)
    · rintro g -
      refine vc_ok tok ?_
      repeat ((conv => whnf); first | (refine And.intro (by first | omega | exact Nat.le_of_ble_eq_true rfl | (dsimp only [inK]; omega) | (simp only [mulS_eq]; omega) | (simp only [mulS_eq, setL_length]; omega) | (simp only [setL_length, List.length_map]; omega) | exact ⟨by omega, by omega, by first | exact Nat.le_of_ble_eq_true rfl | (dsimp only; omega) | (simp only [setL_length]; omega) | (simp only [setL_length, List.length_map]; omega)⟩ | exact ⟨by omega, by first | rfl | omega, by omega, Nat.le_of_ble_eq_true rfl, Nat.le_of_ble_eq_true rfl⟩ | exact ⟨rfl, rfl, rfl, Nat.le_of_ble_eq_true rfl, by first | rfl | omega | exact Nat.le_of_ble_eq_true rfl | (dsimp only; omega) | (simp; done) | (simp; omega), by first | rfl | omega | exact Nat.le_of_ble_eq_true rfl | (dsimp only; omega) | (simp; done) | (simp; omega), by omega, Nat.le_of_ble_eq_true rfl⟩ | exact Eq.refl true) ?_) | (refine Exists.intro _ (And.intro rfl ?_)) | (refine And.intro (And.intro rfl (chk_rowI _ _ _ _)) ?_) | (refine br_t (by omega) ?_) | (refine br_f (by omega) ?_) | (refine bs_t (by omega) ?_) | (refine bs_f (by omega) ?_) | (refine fun (K' : K3) hK' => ?_) | (refine hK' _ _ _ ?_; clear hK' K') | (refine draw_auto tok mixed (by kernel_rfl) ?_) | (refine bs_bt (Eq.refl true) ?_) | (refine bs_bf (Eq.refl false) ?_) | (refine br_bt (Eq.refl true) ?_) | (refine br_bf (Eq.refl false) ?_) | (refine CallK.m ?_) | (refine Two.l ?_) | (refine And.intro (And.intro rfl rfl) ?_))
      intro ρ; rfl
  | true =>
    have hc := validL_coast hj hv
    have hm := validL_many hv
    have h6 := (validL_len hv).2
    have h12 : ∀ b, b < j.length → (j.getD b []).length ≤ 12 := fun b hb => by have := beach_many hb; omega
    refine Spec.of tok Try.func20 rfl rfl rfl fun n0 cx => vc_ok tok ?_
    repeat ((conv => whnf); first | (refine And.intro (by first | omega | exact Nat.le_of_ble_eq_true rfl | (dsimp only [inK]; omega) | (simp only [mulS_eq]; omega) | (simp only [mulS_eq, setL_length]; omega) | (simp only [setL_length, List.length_map]; omega) | exact ⟨by omega, by omega, by first | exact Nat.le_of_ble_eq_true rfl | (dsimp only; omega) | (simp only [setL_length]; omega) | (simp only [setL_length, List.length_map]; omega)⟩ | exact ⟨by omega, by first | rfl | omega, by omega, Nat.le_of_ble_eq_true rfl, Nat.le_of_ble_eq_true rfl⟩ | exact ⟨rfl, rfl, rfl, Nat.le_of_ble_eq_true rfl, by first | rfl | omega | exact Nat.le_of_ble_eq_true rfl | (dsimp only; omega) | (simp; done) | (simp; omega), by first | rfl | omega | exact Nat.le_of_ble_eq_true rfl | (dsimp only; omega) | (simp; done) | (simp; omega), by omega, Nat.le_of_ble_eq_true rfl⟩ | exact Eq.refl true) ?_) | (refine Exists.intro _ (And.intro rfl ?_)) | (refine And.intro (And.intro rfl (chk_rowI _ _ _ _)) ?_) | (refine br_t (by omega) ?_) | (refine br_f (by omega) ?_) | (refine bs_t (by omega) ?_) | (refine bs_f (by omega) ?_) | (refine fun (K' : K3) hK' => ?_) | (refine hK' _ _ _ ?_; clear hK' K') | (refine CallM.eq (by kernel_rfl) (open_spec j hj _ _ hC) ?_) | (refine draw_auto tok mixed (by kernel_rfl) ?_) | (rw [hv]) | (refine bs_bt (Eq.refl true) ?_) | (refine bs_bf (Eq.refl false) ?_) | (refine br_bt (Eq.refl true) ?_) | (refine br_bf (Eq.refl false) ?_) | (refine CallK.m ?_) | (refine Two.l ?_) | (refine And.intro (And.intro rfl rfl) ?_))
    refine Tri.loop (γ := Nat) (fun b => b ≤ j.length) (fun b => [(4, V.c (.sl 0 j.length)), (5, V.i 0), (6, V.i (sumZ b (beachF j))), (22, V.c (.sl 0 j.length)), (23, V.i j.length), (24, V.i (b : Nat))])
      (fun b => ⟨0, .ro 1, slsC 1 j⟩ :: entC 1 j) 32 (fun b => j.length - b) 0 (R0 := []) ?_ ?_ ?_
    · omega
    · skip
      refine ⟨?_, ?_, injB_ent (p := [_]) (by omega) rfl rfl, rfl, by first | exact Nat.le_of_ble_eq_true rfl | exact Nat.le_refl _ | omega⟩
      · repeat (first | exact trivial | refine And.intro (covS_syn (by first | rfl) rfl (by first | exact trivial | exact Nat.le_of_ble_eq_true rfl | exact hy | exact (fun p hp => nomatch hp) | (show (_ : Nat) < _; omega))) ?_ | refine And.intro (covS_bool rfl rfl (by first | rfl)) ?_)
      · repeat (first | exact trivial | (exact covL_ent (by omega) (fun k hk => by (try simp only [flatN]); (repeat (first | rw [find_skip (by omega)] | rw [find_hi (by omega) (by rfl)])))) | refine And.intro (covE_id (Nat.le_of_ble_eq_true rfl) (by first | exact wf_ints _ _ | exact wf_bools _ _ | first | exact wf_sls _ _ _ (by omega) | exact wf_jobs _ _ | exact fun c hc => wf_sls _ _ _ (by omega) c (List.mem_of_mem_take hc) | simp [C.wf]) rfl (by first | rfl)) ?_)
    · rintro b hb
      refine vc_ok tok ?_
      by_cases hbl : b < j.length
      · have hjl := jobC_len (j.getD b [])
        have hl12 := h12 b hbl
        have bd1 := sumZ_bd (n := b) (F := beachF j) (M := 12000000) (fun c hcb => beachF_bd hc h12 h6 (by omega))
        have bd1' := small_mul (n := b) (N := 6) (M := 12000000) (by omega) (by omega)
        repeat ((conv => whnf); first | (refine And.intro (by first | omega | exact Nat.le_of_ble_eq_true rfl | (dsimp only [inK]; omega) | (simp only [mulS_eq]; omega) | (simp only [mulS_eq, setL_length]; omega) | (simp only [setL_length, List.length_map]; omega) | exact ⟨by omega, by omega, by first | exact Nat.le_of_ble_eq_true rfl | (dsimp only; omega) | (simp only [setL_length]; omega) | (simp only [setL_length, List.length_map]; omega)⟩ | exact ⟨by omega, by first | rfl | omega, by omega, Nat.le_of_ble_eq_true rfl, Nat.le_of_ble_eq_true rfl⟩ | exact ⟨rfl, rfl, rfl, Nat.le_of_ble_eq_true rfl, by first | rfl | omega | exact Nat.le_of_ble_eq_true rfl | (dsimp only; omega) | (simp; done) | (simp; omega), by first | rfl | omega | exact Nat.le_of_ble_eq_true rfl | (dsimp only; omega) | (simp; done) | (simp; omega), by omega, Nat.le_of_ble_eq_true rfl⟩ | exact Eq.refl true) ?_) | (with_reducible refine ld (slL hbl) ?_) | (refine Exists.intro _ (And.intro rfl ?_)) | (refine And.intro (And.intro rfl (chk_rowI _ _ _ _)) ?_) | (refine br_t (by omega) ?_) | (refine br_f (by omega) ?_) | (refine bs_t (by omega) ?_) | (refine bs_f (by omega) ?_) | (refine fun (K' : K3) hK' => ?_) | (refine hK' _ _ _ ?_; clear hK' K') | (refine draw_auto tok mixed (by kernel_rfl) ?_) | (refine bs_bt (Eq.refl true) ?_) | (refine bs_bf (Eq.refl false) ?_) | (refine br_bt (Eq.refl true) ?_) | (refine br_bf (Eq.refl false) ?_) | (refine CallK.m ?_) | (refine Two.l ?_) | (refine And.intro (And.intro rfl rfl) ?_))
        refine Tri.loop (γ := Nat) (fun i => i ≤ (j.getD b []).length) (fun i => [(4, V.c (.sl 0 j.length)), (5, V.i 0), (6, V.i (sumZ b (beachF j) + sumZ i (rowF j b))), (7, V.i (b : Nat)), (8, V.c (.sl (1 + b) (j.getD b []).length)), (22, V.c (.sl 0 j.length)), (23, V.i j.length), (24, V.i (b : Nat)), (29, V.c (.sl (1 + b) (j.getD b []).length)), (30, V.i (j.getD b []).length), (31, V.i (i : Nat))])
          (fun i => ⟨0, .ro 1, slsC 1 j⟩ :: entC 1 j) 32 (fun i => (j.getD b []).length - i) 0 (R0 := []) ?_ ?_ ?_
        · omega
        · skip
          refine ⟨?_, ?_, injB_ent (p := [_]) (by omega) rfl rfl, rfl, by first | exact Nat.le_of_ble_eq_true rfl | exact Nat.le_refl _ | omega⟩
          · repeat (first | exact trivial | refine And.intro (covS_syn (by first | rfl | (refine congrArg some (congrArg V.i ?_); exact (Int.add_zero _).symm)) rfl (by first | exact trivial | exact Nat.le_of_ble_eq_true rfl | exact hy | exact (fun p hp => nomatch hp) | (show (_ : Nat) < _; omega))) ?_ | refine And.intro (covS_bool rfl rfl (by first | rfl)) ?_)
          · repeat (first | exact trivial | (exact covL_ent (by omega) (fun k hk => by (try simp only [flatN]); (repeat (first | rw [find_skip (by omega)] | rw [find_hi (by omega) (by rfl)])))) | refine And.intro (covE_id (Nat.le_of_ble_eq_true rfl) (by first | exact wf_ints _ _ | exact wf_bools _ _ | first | exact wf_sls _ _ _ (by omega) | exact wf_jobs _ _ | exact fun c hc => wf_sls _ _ _ (by omega) c (List.mem_of_mem_take hc) | simp [C.wf]) rfl (by first | rfl)) ?_)
        · rintro i hi
          refine vc_ok tok ?_
          by_cases hil : i < (j.getD b []).length
          · have bd2 := sumZ_bd (n := i) (F := rowF j b) (M := 1000000) (fun i' hi' => rowF_bd hc h12 h6 hbl (by omega))
            have bd2' := small_mul (n := i) (N := 12) (M := 1000000) (by omega) (by omega)
            repeat ((conv => whnf); first | (refine And.intro (by first | omega | exact Nat.le_of_ble_eq_true rfl | (dsimp only [inK]; omega) | (simp only [mulS_eq]; omega) | (simp only [mulS_eq, setL_length]; omega) | (simp only [setL_length, List.length_map]; omega) | exact ⟨by omega, by omega, by first | exact Nat.le_of_ble_eq_true rfl | (dsimp only; omega) | (simp only [setL_length]; omega) | (simp only [setL_length, List.length_map]; omega)⟩ | exact ⟨by omega, by first | rfl | omega, by omega, Nat.le_of_ble_eq_true rfl, Nat.le_of_ble_eq_true rfl⟩ | exact ⟨rfl, rfl, rfl, Nat.le_of_ble_eq_true rfl, by first | rfl | omega | exact Nat.le_of_ble_eq_true rfl | (dsimp only; omega) | (simp; done) | (simp; omega), by first | rfl | omega | exact Nat.le_of_ble_eq_true rfl | (dsimp only; omega) | (simp; done) | (simp; omega), by omega, Nat.le_of_ble_eq_true rfl⟩ | exact Eq.refl true) ?_) | (with_reducible refine ld (jobT rfl hil) ?_) | (refine Exists.intro _ (And.intro rfl ?_)) | (refine And.intro (And.intro rfl (chk_rowI _ _ _ _)) ?_) | (refine br_t (by omega) ?_) | (refine br_f (by omega) ?_) | (refine bs_t (by omega) ?_) | (refine bs_f (by omega) ?_) | (refine fun (K' : K3) hK' => ?_) | (refine hK' _ _ _ ?_; clear hK' K') | (refine draw_auto tok mixed (by kernel_rfl) ?_) | (refine onV_ld (c := ⟨1 + b, .ro 2, jobC (j.getD b [])⟩) (by ((try (conv => lhs; arg 1; whnf)); (repeat (first | rw [find_skip (by omega)] | rw [find_hi (by omega) (by rfl)])); exact entC_find hbl)) ?_) | (with_reducible refine updK_ent (by omega) ?_) | (refine bs_bt (Eq.refl true) ?_) | (refine bs_bf (Eq.refl false) ?_) | (refine br_bt (Eq.refl true) ?_) | (refine br_bf (Eq.refl false) ?_) | (refine CallK.m ?_) | (refine Two.l ?_) | (refine And.intro (And.intro rfl rfl) ?_))
            refine Tri.loop (γ := Nat) (fun k => i + k ≤ (j.getD b []).length) (fun k => [(4, V.c (.sl 0 j.length)), (5, V.i 0), (6, V.i (sumZ b (beachF j) + sumZ i (rowF j b) + sumZ k (tailF j b i))), (7, V.i (b : Nat)), (8, V.c (.sl (1 + b) (j.getD b []).length)), (10, V.c (.ptr 32 0)), (22, V.c (.sl 0 j.length)), (23, V.i j.length), (24, V.i (b : Nat)), (29, V.c (.sl (1 + b) (j.getD b []).length)), (30, V.i (j.getD b []).length), (31, V.i (i : Nat)), (38, V.c (.sl 33 ((j.getD b []).length - i))), (39, V.i ((j.getD b []).length - i : Nat)), (40, V.i (k : Nat))])
              (fun k => ⟨33, .ro 2, jobC ((j.getD b []).drop i)⟩ :: ⟨32, .own 47, [C.i (jobA j b i).1, C.i (jobA j b i).2]⟩ :: ⟨0, .ro 1, slsC 1 j⟩ :: entC 1 j) 34 (fun k => (j.getD b []).length - (i + k)) 0 (R0 := []) ?_ ?_ ?_
            · omega
            · skip
              refine ⟨?_, ?_, injB_ent (p := [_, _, _]) (by omega) rfl rfl, rfl, by first | exact Nat.le_of_ble_eq_true rfl | exact Nat.le_refl _ | omega⟩
              · repeat (first | exact trivial | refine And.intro (covS_syn (by first | rfl | (refine congrArg some (congrArg V.i ?_); exact (Int.add_zero _).symm) | (refine congrArg some (congrArg V.i ?_); omega)) rfl (by first | exact trivial | exact Nat.le_of_ble_eq_true rfl | exact hy | exact (fun p hp => nomatch hp) | (show (_ : Nat) < _; omega))) ?_ | refine And.intro (covS_bool rfl rfl (by first | rfl)) ?_)
              · repeat (first | exact trivial | (exact covL_ent (by omega) (fun k hk => by (try simp only [flatN]); (repeat (first | rw [find_skip (by omega)] | rw [find_hi (by omega) (by rfl)])))) | refine And.intro (covE_id (Nat.le_of_ble_eq_true rfl) (by first | exact wf_ints _ _ | exact wf_bools _ _ | first | exact wf_sls _ _ _ (by omega) | exact wf_jobs _ _ | exact fun c hc => wf_sls _ _ _ (by omega) c (List.mem_of_mem_take hc) | simp [C.wf]) rfl (by first | rfl | (exact jobC_td))) ?_)
            · rintro k hk
              refine vc_ok tok ?_
              have hdl : (jobC ((j.getD b []).drop i)).length = 2 * ((j.getD b []).length - i) := by rw [jobC_len]; simp
              have bd3 := sumZ_bd (n := k) (F := tailF j b i) (M := 10000) (fun k' hk' => tailF_bd hc hbl (by omega))
              have bd3' := small_mul (n := k) (N := 12) (M := 10000) (by omega) (by omega)
              by_cases hkl : i + k < (j.getD b []).length
              · have ht : 0 ≤ (jobA j b i).1 * ((j.getD b []).getD (i + k) (0, 0)).2 ∧ (jobA j b i).1 * ((j.getD b []).getD (i + k) (0, 0)).2 ≤ 10000 := tailF_bd hc hbl hkl
                repeat ((conv => whnf); first | (refine And.intro (by first | omega | exact Nat.le_of_ble_eq_true rfl | (dsimp only [inK]; omega) | (simp only [mulS_eq]; omega) | (simp only [mulS_eq, setL_length]; omega) | (simp only [setL_length, List.length_map]; omega) | exact ⟨by omega, by omega, by first | exact Nat.le_of_ble_eq_true rfl | (dsimp only; omega) | (simp only [setL_length]; omega) | (simp only [setL_length, List.length_map]; omega)⟩ | exact ⟨by omega, by first | rfl | omega, by omega, Nat.le_of_ble_eq_true rfl, Nat.le_of_ble_eq_true rfl⟩ | exact ⟨rfl, rfl, rfl, Nat.le_of_ble_eq_true rfl, by first | rfl | omega | exact Nat.le_of_ble_eq_true rfl | (dsimp only; omega) | (simp; done) | (simp; omega), by first | rfl | omega | exact Nat.le_of_ble_eq_true rfl | (dsimp only; omega) | (simp; done) | (simp; omega), by omega, Nat.le_of_ble_eq_true rfl⟩ | exact Eq.refl true) ?_) | (with_reducible refine ld (jobTd rfl hkl) ?_) | (refine Exists.intro _ (And.intro rfl ?_)) | (refine And.intro (And.intro rfl (chk_rowI _ _ _ _)) ?_) | (refine br_t (by omega) ?_) | (refine br_f (by omega) ?_) | (refine bs_t (by omega) ?_) | (refine bs_f (by omega) ?_) | (refine fun (K' : K3) hK' => ?_) | (refine hK' _ _ _ ?_; clear hK' K') | (refine draw_auto tok mixed (by kernel_rfl) ?_) | (with_reducible refine updK_ent (by omega) ?_) | (refine bs_bt (Eq.refl true) ?_) | (refine bs_bf (Eq.refl false) ?_) | (refine br_bt (Eq.refl true) ?_) | (refine br_bf (Eq.refl false) ?_) | (refine CallK.m ?_) | (refine Two.l ?_) | (refine And.intro (And.intro rfl rfl) ?_))
                refine ⟨k + 1, [], by omega, by omega, ?_⟩
                refine ⟨?_, ?_, injB_ent (p := [_, _, _]) (by omega) rfl rfl, rfl, by first | exact Nat.le_of_ble_eq_true rfl | exact Nat.le_refl _ | omega⟩
                · repeat (first | exact trivial | refine And.intro (covS_syn (by first | rfl | (refine congrArg some (congrArg V.i ?_); (rw [sumZ, tailF, ← Int.add_assoc]; rfl)) | (refine congrArg some (congrArg V.i ?_); omega)) rfl (by first | exact trivial | exact Nat.le_of_ble_eq_true rfl | exact hy | exact (fun p hp => nomatch hp) | (show (_ : Nat) < _; omega))) ?_ | refine And.intro (covS_bool rfl rfl (by first | rfl)) ?_)
                · repeat (first | exact trivial | (exact covL_ent (by omega) (fun k hk => by (try simp only [flatN]); (repeat (first | rw [find_skip (by omega)] | rw [find_hi (by omega) (by rfl)])))) | refine And.intro (covE_id (Nat.le_of_ble_eq_true rfl) (by first | exact wf_ints _ _ | exact wf_bools _ _ | first | exact wf_sls _ _ _ (by omega) | exact wf_jobs _ _ | exact fun c hc => wf_sls _ _ _ (by omega) c (List.mem_of_mem_take hc) | simp [C.wf]) rfl (by first | rfl)) ?_)
              · have hke : k = (j.getD b []).length - i := by omega
                subst hke
                repeat ((conv => whnf); first | (refine And.intro (by first | omega | exact Nat.le_of_ble_eq_true rfl | (dsimp only [inK]; omega) | (simp only [mulS_eq]; omega) | (simp only [mulS_eq, setL_length]; omega) | (simp only [setL_length, List.length_map]; omega) | exact ⟨by omega, by omega, by first | exact Nat.le_of_ble_eq_true rfl | (dsimp only; omega) | (simp only [setL_length]; omega) | (simp only [setL_length, List.length_map]; omega)⟩ | exact ⟨by omega, by first | rfl | omega, by omega, Nat.le_of_ble_eq_true rfl, Nat.le_of_ble_eq_true rfl⟩ | exact ⟨rfl, rfl, rfl, Nat.le_of_ble_eq_true rfl, by first | rfl | omega | exact Nat.le_of_ble_eq_true rfl | (dsimp only; omega) | (simp; done) | (simp; omega), by first | rfl | omega | exact Nat.le_of_ble_eq_true rfl | (dsimp only; omega) | (simp; done) | (simp; omega), by omega, Nat.le_of_ble_eq_true rfl⟩ | exact Eq.refl true) ?_) | (refine Exists.intro _ (And.intro rfl ?_)) | (refine And.intro (And.intro rfl (chk_rowI _ _ _ _)) ?_) | (refine br_t (by omega) ?_) | (refine br_f (by omega) ?_) | (refine bs_t (by omega) ?_) | (refine bs_f (by omega) ?_) | (refine fun (K' : K3) hK' => ?_) | (refine hK' _ _ _ ?_; clear hK' K') | (refine draw_auto tok mixed (by kernel_rfl) ?_) | (refine bs_bt (Eq.refl true) ?_) | (refine bs_bf (Eq.refl false) ?_) | (refine br_bt (Eq.refl true) ?_) | (refine br_bf (Eq.refl false) ?_) | (refine CallK.m ?_) | (refine Two.l ?_) | (refine And.intro (And.intro rfl rfl) ?_))
                refine Tri.loop (γ := Nat) (fun q => q ≤ b) (fun q => [(4, V.c (.sl 0 j.length)), (5, V.i 0), (6, V.i (sumZ b (beachF j) + sumZ i (rowF j b) + sumZ ((j.getD b []).length - i) (tailF j b i) + sumZ q (pairF j b i))), (7, V.i (b : Nat)), (8, V.c (.sl (1 + b) (j.getD b []).length)), (10, V.c (.ptr 32 0)), (22, V.c (.sl 0 j.length)), (23, V.i j.length), (24, V.i (b : Nat)), (29, V.c (.sl (1 + b) (j.getD b []).length)), (30, V.i (j.getD b []).length), (31, V.i (i : Nat)), (54, V.c (.sl 0 b)), (55, V.i (b : Nat)), (56, V.i (q : Nat))])
                  (fun q => ⟨32, .own 47, [C.i (jobA j b i).1, C.i (jobA j b i).2]⟩ :: ⟨0, .ro 1, slsC 1 j⟩ :: entC 1 j) 34 (fun q => b - q) 0 (R0 := []) ?_ ?_ ?_
                · omega
                · skip
                  refine ⟨?_, ?_, injB_ent (p := [_, _]) (by omega) rfl rfl, rfl, by first | exact Nat.le_of_ble_eq_true rfl | exact Nat.le_refl _ | omega⟩
                  · repeat (first | exact trivial | refine And.intro (covS_syn (by first | rfl | (refine congrArg some (congrArg V.i ?_); exact (Int.add_zero _).symm) | (refine congrArg some (congrArg V.i ?_); omega)) rfl (by first | exact trivial | exact Nat.le_of_ble_eq_true rfl | exact hy | exact (fun p hp => nomatch hp) | (show (_ : Nat) < _; omega))) ?_ | refine And.intro (covS_bool rfl rfl (by first | rfl)) ?_)
                  · repeat (first | exact trivial | (exact covL_ent (by omega) (fun k hk => by (try simp only [flatN]); (repeat (first | rw [find_skip (by omega)] | rw [find_hi (by omega) (by rfl)])))) | refine And.intro (covE_id (Nat.le_of_ble_eq_true rfl) (by first | exact wf_ints _ _ | exact wf_bools _ _ | first | exact wf_sls _ _ _ (by omega) | exact wf_jobs _ _ | exact fun c hc => wf_sls _ _ _ (by omega) c (List.mem_of_mem_take hc) | simp [C.wf]) rfl (by first | rfl)) ?_)
                · rintro q hq
                  refine vc_ok tok ?_
                  have bd4 := sumZ_bd (n := q) (F := pairF j b i) (M := 120000) (fun c hcb => pairF_bd hc h12 hbl hil (by omega))
                  have bd4' := small_mul (n := q) (N := 6) (M := 120000) (by omega) (by omega)
                  by_cases hqb : q < b
                  · have hql : q < j.length := by omega
                    have hq12 := h12 q hql
                    have hjq := jobC_len (j.getD q [])
                    repeat ((conv => whnf); first | (refine And.intro (by first | omega | exact Nat.le_of_ble_eq_true rfl | (dsimp only [inK]; omega) | (simp only [mulS_eq]; omega) | (simp only [mulS_eq, setL_length]; omega) | (simp only [setL_length, List.length_map]; omega) | exact ⟨by omega, by omega, by first | exact Nat.le_of_ble_eq_true rfl | (dsimp only; omega) | (simp only [setL_length]; omega) | (simp only [setL_length, List.length_map]; omega)⟩ | exact ⟨by omega, by first | rfl | omega, by omega, Nat.le_of_ble_eq_true rfl, Nat.le_of_ble_eq_true rfl⟩ | exact ⟨rfl, rfl, rfl, Nat.le_of_ble_eq_true rfl, by first | rfl | omega | exact Nat.le_of_ble_eq_true rfl | (dsimp only; omega) | (simp; done) | (simp; omega), by first | rfl | omega | exact Nat.le_of_ble_eq_true rfl | (dsimp only; omega) | (simp; done) | (simp; omega), by omega, Nat.le_of_ble_eq_true rfl⟩ | exact Eq.refl true) ?_) | (with_reducible refine ld (slL hql) ?_) | (refine Exists.intro _ (And.intro rfl ?_)) | (refine And.intro (And.intro rfl (chk_rowI _ _ _ _)) ?_) | (refine br_t (by omega) ?_) | (refine br_f (by omega) ?_) | (refine bs_t (by omega) ?_) | (refine bs_f (by omega) ?_) | (refine fun (K' : K3) hK' => ?_) | (refine hK' _ _ _ ?_; clear hK' K') | (refine draw_auto tok mixed (by kernel_rfl) ?_) | (refine bs_bt (Eq.refl true) ?_) | (refine bs_bf (Eq.refl false) ?_) | (refine br_bt (Eq.refl true) ?_) | (refine br_bf (Eq.refl false) ?_) | (refine CallK.m ?_) | (refine Two.l ?_) | (refine And.intro (And.intro rfl rfl) ?_))
                    refine Tri.loop (γ := Nat) (fun p => p ≤ (j.getD q []).length) (fun p => [(4, V.c (.sl 0 j.length)), (5, V.i 0), (6, V.i (sumZ b (beachF j) + sumZ i (rowF j b) + sumZ ((j.getD b []).length - i) (tailF j b i) + sumZ q (pairF j b i) + sumZ p (minF j b i q))), (7, V.i (b : Nat)), (8, V.c (.sl (1 + b) (j.getD b []).length)), (10, V.c (.ptr 32 0)), (22, V.c (.sl 0 j.length)), (23, V.i j.length), (24, V.i (b : Nat)), (29, V.c (.sl (1 + b) (j.getD b []).length)), (30, V.i (j.getD b []).length), (31, V.i (i : Nat)), (54, V.c (.sl 0 b)), (55, V.i (b : Nat)), (56, V.i (q : Nat)), (60, V.c (.sl (1 + q) (j.getD q []).length)), (61, V.i (j.getD q []).length), (62, V.i (p : Nat))])
                      (fun p => ⟨32, .own 47, [C.i (jobA j b i).1, C.i (jobA j b i).2]⟩ :: ⟨0, .ro 1, slsC 1 j⟩ :: entC 1 j) 34 (fun p => (j.getD q []).length - p) 0 (R0 := []) ?_ ?_ ?_
                    · omega
                    · skip
                      refine ⟨?_, ?_, injB_ent (p := [_, _]) (by omega) rfl rfl, rfl, by first | exact Nat.le_of_ble_eq_true rfl | exact Nat.le_refl _ | omega⟩
                      · repeat (first | exact trivial | refine And.intro (covS_syn (by first | rfl | (refine congrArg some (congrArg V.i ?_); exact (Int.add_zero _).symm)) rfl (by first | exact trivial | exact Nat.le_of_ble_eq_true rfl | exact hy | exact (fun p hp => nomatch hp) | (show (_ : Nat) < _; omega))) ?_ | refine And.intro (covS_bool rfl rfl (by first | rfl)) ?_)
                      · repeat (first | exact trivial | (exact covL_ent (by omega) (fun k hk => by (try simp only [flatN]); (repeat (first | rw [find_skip (by omega)] | rw [find_hi (by omega) (by rfl)])))) | refine And.intro (covE_id (Nat.le_of_ble_eq_true rfl) (by first | exact wf_ints _ _ | exact wf_bools _ _ | first | exact wf_sls _ _ _ (by omega) | exact wf_jobs _ _ | exact fun c hc => wf_sls _ _ _ (by omega) c (List.mem_of_mem_take hc) | simp [C.wf]) rfl (by first | rfl)) ?_)
                    · rintro p hp
                      refine vc_ok tok ?_
                      have bd5 := sumZ_bd (n := p) (F := minF j b i q) (M := 10000) (fun k' hk' => minF_bd hc hbl hil hql (by omega))
                      have bd5' := small_mul (n := p) (N := 12) (M := 10000) (by omega) (by omega)
                      by_cases hpl : p < (j.getD q []).length
                      · have g1 := jobA_bd hc hbl hil
                        have g2 := jobA_bd hc hql hpl
                        have p1 : 0 ≤ ((j.getD q []).getD p (0, 0)).1 * (jobA j b i).2 ∧ ((j.getD q []).getD p (0, 0)).1 * (jobA j b i).2 ≤ 100 * 100 := mul_bd (a := (jobA j q p).1) (b := (jobA j b i).2) (A := 100) (B := 100) (by omega) g2.2.1 g1.2.2.1 g1.2.2.2
                        have p2 : 0 ≤ (jobA j b i).1 * ((j.getD q []).getD p (0, 0)).2 ∧ (jobA j b i).1 * ((j.getD q []).getD p (0, 0)).2 ≤ 100 * 100 := mul_bd (a := (jobA j b i).1) (b := (jobA j q p).2) (A := 100) (B := 100) (by omega) g1.2.1 g2.2.2.1 g2.2.2.2
                        have hmn : 0 ≤ (if ((j.getD q []).getD p (0, 0)).1 * (jobA j b i).2 < (jobA j b i).1 * ((j.getD q []).getD p (0, 0)).2 then ((j.getD q []).getD p (0, 0)).1 * (jobA j b i).2 else (jobA j b i).1 * ((j.getD q []).getD p (0, 0)).2) ∧ (if ((j.getD q []).getD p (0, 0)).1 * (jobA j b i).2 < (jobA j b i).1 * ((j.getD q []).getD p (0, 0)).2 then ((j.getD q []).getD p (0, 0)).1 * (jobA j b i).2 else (jobA j b i).1 * ((j.getD q []).getD p (0, 0)).2) ≤ 10000 := minF_bd hc hbl hil hql hpl
                        repeat ((conv => whnf); first | (refine And.intro (by first | omega | exact Nat.le_of_ble_eq_true rfl | (dsimp only [inK]; omega) | (simp only [mulS_eq]; omega) | (simp only [mulS_eq, setL_length]; omega) | (simp only [setL_length, List.length_map]; omega) | exact ⟨by omega, by omega, by first | exact Nat.le_of_ble_eq_true rfl | (dsimp only; omega) | (simp only [setL_length]; omega) | (simp only [setL_length, List.length_map]; omega)⟩ | exact ⟨by omega, by first | rfl | omega, by omega, Nat.le_of_ble_eq_true rfl, Nat.le_of_ble_eq_true rfl⟩ | exact ⟨rfl, rfl, rfl, Nat.le_of_ble_eq_true rfl, by first | rfl | omega | exact Nat.le_of_ble_eq_true rfl | (dsimp only; omega) | (simp; done) | (simp; omega), by first | rfl | omega | exact Nat.le_of_ble_eq_true rfl | (dsimp only; omega) | (simp; done) | (simp; omega), by omega, Nat.le_of_ble_eq_true rfl⟩ | exact Eq.refl true) ?_) | (with_reducible refine ld (jobT rfl hpl) ?_) | (refine Exists.intro _ (And.intro rfl ?_)) | (refine And.intro (And.intro rfl (chk_rowI _ _ _ _)) ?_) | (refine br_t (by omega) ?_) | (refine br_f (by omega) ?_) | (refine bs_t (by omega) ?_) | (refine bs_f (by omega) ?_) | (refine fun (K' : K3) hK' => ?_) | (refine hK' _ _ _ ?_; clear hK' K') | (refine draw_auto tok mixed (by kernel_rfl) ?_) | (refine onV_ld (c := ⟨1 + q, .ro 2, jobC (j.getD q [])⟩) (by ((try (conv => lhs; arg 1; whnf)); (repeat (first | rw [find_skip (by omega)] | rw [find_hi (by omega) (by rfl)])); exact entC_find hql)) ?_) | (with_reducible refine updK_ent (by omega) ?_) | (refine bs_bt (Eq.refl true) ?_) | (refine bs_bf (Eq.refl false) ?_) | (refine br_bt (Eq.refl true) ?_) | (refine br_bf (Eq.refl false) ?_) | (refine CallK.m ?_) | (refine Two.l ?_) | (refine And.intro (And.intro rfl rfl) ?_))
                        refine ⟨p + 1, [], by omega, by omega, ?_⟩
                        refine ⟨?_, ?_, injB_ent (p := [_, _]) (by omega) rfl rfl, rfl, by first | exact Nat.le_of_ble_eq_true rfl | exact Nat.le_refl _ | omega⟩
                        · repeat (first | exact trivial | refine And.intro (covS_syn (by first | rfl | (refine congrArg some (congrArg V.i ?_); (rw [sumZ, minF, ← Int.add_assoc]; rfl)) | (refine congrArg some (congrArg V.i ?_); omega)) rfl (by first | exact trivial | exact Nat.le_of_ble_eq_true rfl | exact hy | exact (fun p hp => nomatch hp) | (show (_ : Nat) < _; omega))) ?_ | refine And.intro (covS_bool rfl rfl (by first | rfl)) ?_)
                        · repeat (first | exact trivial | (exact covL_ent (by omega) (fun k hk => by (try simp only [flatN]); (repeat (first | rw [find_skip (by omega)] | rw [find_hi (by omega) (by rfl)])))) | refine And.intro (covE_id (Nat.le_of_ble_eq_true rfl) (by first | exact wf_ints _ _ | exact wf_bools _ _ | first | exact wf_sls _ _ _ (by omega) | exact wf_jobs _ _ | exact fun c hc => wf_sls _ _ _ (by omega) c (List.mem_of_mem_take hc) | simp [C.wf]) rfl (by first | rfl)) ?_)
                      · have hpe : p = (j.getD q []).length := by omega
                        subst hpe
                        repeat ((conv => whnf); first | (refine And.intro (by first | omega | exact Nat.le_of_ble_eq_true rfl | (dsimp only [inK]; omega) | (simp only [mulS_eq]; omega) | (simp only [mulS_eq, setL_length]; omega) | (simp only [setL_length, List.length_map]; omega) | exact ⟨by omega, by omega, by first | exact Nat.le_of_ble_eq_true rfl | (dsimp only; omega) | (simp only [setL_length]; omega) | (simp only [setL_length, List.length_map]; omega)⟩ | exact ⟨by omega, by first | rfl | omega, by omega, Nat.le_of_ble_eq_true rfl, Nat.le_of_ble_eq_true rfl⟩ | exact ⟨rfl, rfl, rfl, Nat.le_of_ble_eq_true rfl, by first | rfl | omega | exact Nat.le_of_ble_eq_true rfl | (dsimp only; omega) | (simp; done) | (simp; omega), by first | rfl | omega | exact Nat.le_of_ble_eq_true rfl | (dsimp only; omega) | (simp; done) | (simp; omega), by omega, Nat.le_of_ble_eq_true rfl⟩ | exact Eq.refl true) ?_) | (refine Exists.intro _ (And.intro rfl ?_)) | (refine And.intro (And.intro rfl (chk_rowI _ _ _ _)) ?_) | (refine br_t (by omega) ?_) | (refine br_f (by omega) ?_) | (refine bs_t (by omega) ?_) | (refine bs_f (by omega) ?_) | (refine fun (K' : K3) hK' => ?_) | (refine hK' _ _ _ ?_; clear hK' K') | (refine draw_auto tok mixed (by kernel_rfl) ?_) | (refine bs_bt (Eq.refl true) ?_) | (refine bs_bf (Eq.refl false) ?_) | (refine br_bt (Eq.refl true) ?_) | (refine br_bf (Eq.refl false) ?_) | (refine CallK.m ?_) | (refine Two.l ?_) | (refine And.intro (And.intro rfl rfl) ?_))
                        refine ⟨q + 1, [], by omega, by omega, ?_⟩
                        refine ⟨?_, ?_, injB_ent (p := [_, _]) (by omega) rfl rfl, rfl, by first | exact Nat.le_of_ble_eq_true rfl | exact Nat.le_refl _ | omega⟩
                        · repeat (first | exact trivial | refine And.intro (covS_syn (by first | rfl | (refine congrArg some (congrArg V.i ?_); (rw [sumZ, pairF, ← Int.add_assoc])) | (refine congrArg some (congrArg V.i ?_); omega)) rfl (by first | exact trivial | exact Nat.le_of_ble_eq_true rfl | exact hy | exact (fun p hp => nomatch hp) | (show (_ : Nat) < _; omega))) ?_ | refine And.intro (covS_bool rfl rfl (by first | rfl)) ?_)
                        · repeat (first | exact trivial | (exact covL_ent (by omega) (fun k hk => by (try simp only [flatN]); (repeat (first | rw [find_skip (by omega)] | rw [find_hi (by omega) (by rfl)])))) | refine And.intro (covE_id (Nat.le_of_ble_eq_true rfl) (by first | exact wf_ints _ _ | exact wf_bools _ _ | first | exact wf_sls _ _ _ (by omega) | exact wf_jobs _ _ | exact fun c hc => wf_sls _ _ _ (by omega) c (List.mem_of_mem_take hc) | simp [C.wf]) rfl (by first | rfl)) ?_)
                  · have hqe : q = b := by omega
                    subst hqe
                    repeat ((conv => whnf); first | (refine And.intro (by first | omega | exact Nat.le_of_ble_eq_true rfl | (dsimp only [inK]; omega) | (simp only [mulS_eq]; omega) | (simp only [mulS_eq, setL_length]; omega) | (simp only [setL_length, List.length_map]; omega) | exact ⟨by omega, by omega, by first | exact Nat.le_of_ble_eq_true rfl | (dsimp only; omega) | (simp only [setL_length]; omega) | (simp only [setL_length, List.length_map]; omega)⟩ | exact ⟨by omega, by first | rfl | omega, by omega, Nat.le_of_ble_eq_true rfl, Nat.le_of_ble_eq_true rfl⟩ | exact ⟨rfl, rfl, rfl, Nat.le_of_ble_eq_true rfl, by first | rfl | omega | exact Nat.le_of_ble_eq_true rfl | (dsimp only; omega) | (simp; done) | (simp; omega), by first | rfl | omega | exact Nat.le_of_ble_eq_true rfl | (dsimp only; omega) | (simp; done) | (simp; omega), by omega, Nat.le_of_ble_eq_true rfl⟩ | exact Eq.refl true) ?_) | (refine Exists.intro _ (And.intro rfl ?_)) | (refine And.intro (And.intro rfl (chk_rowI _ _ _ _)) ?_) | (refine br_t (by omega) ?_) | (refine br_f (by omega) ?_) | (refine bs_t (by omega) ?_) | (refine bs_f (by omega) ?_) | (refine fun (K' : K3) hK' => ?_) | (refine hK' _ _ _ ?_; clear hK' K') | (refine draw_auto tok mixed (by kernel_rfl) ?_) | (refine bs_bt (Eq.refl true) ?_) | (refine bs_bf (Eq.refl false) ?_) | (refine br_bt (Eq.refl true) ?_) | (refine br_bf (Eq.refl false) ?_) | (refine CallK.m ?_) | (refine Two.l ?_) | (refine And.intro (And.intro rfl rfl) ?_))
                    refine ⟨i + 1, [], by omega, by omega, ?_⟩
                    refine ⟨?_, ?_, injB_ent (p := [_]) (by omega) rfl rfl, rfl, by first | exact Nat.le_of_ble_eq_true rfl | exact Nat.le_refl _ | omega⟩
                    · repeat (first | exact trivial | refine And.intro (covS_syn (by first | rfl | (refine congrArg some (congrArg V.i ?_); (rw [sumZ, rowF, ← Int.add_assoc, ← Int.add_assoc])) | (refine congrArg some (congrArg V.i ?_); omega)) rfl (by first | exact trivial | exact Nat.le_of_ble_eq_true rfl | exact hy | exact (fun p hp => nomatch hp) | (show (_ : Nat) < _; omega))) ?_ | refine And.intro (covS_bool rfl rfl (by first | rfl)) ?_)
                    · repeat (first | exact trivial | (exact covL_ent (by omega) (fun k hk => by (try simp only [flatN]); (repeat (first | rw [find_skip (by omega)] | rw [find_hi (by omega) (by rfl)])))) | refine And.intro (covE_id (Nat.le_of_ble_eq_true rfl) (by first | exact wf_ints _ _ | exact wf_bools _ _ | first | exact wf_sls _ _ _ (by omega) | exact wf_jobs _ _ | exact fun c hc => wf_sls _ _ _ (by omega) c (List.mem_of_mem_take hc) | simp [C.wf]) rfl (by first | rfl)) ?_)
          · have hie : i = (j.getD b []).length := by omega
            subst hie
            repeat ((conv => whnf); first | (refine And.intro (by first | omega | exact Nat.le_of_ble_eq_true rfl | (dsimp only [inK]; omega) | (simp only [mulS_eq]; omega) | (simp only [mulS_eq, setL_length]; omega) | (simp only [setL_length, List.length_map]; omega) | exact ⟨by omega, by omega, by first | exact Nat.le_of_ble_eq_true rfl | (dsimp only; omega) | (simp only [setL_length]; omega) | (simp only [setL_length, List.length_map]; omega)⟩ | exact ⟨by omega, by first | rfl | omega, by omega, Nat.le_of_ble_eq_true rfl, Nat.le_of_ble_eq_true rfl⟩ | exact ⟨rfl, rfl, rfl, Nat.le_of_ble_eq_true rfl, by first | rfl | omega | exact Nat.le_of_ble_eq_true rfl | (dsimp only; omega) | (simp; done) | (simp; omega), by first | rfl | omega | exact Nat.le_of_ble_eq_true rfl | (dsimp only; omega) | (simp; done) | (simp; omega), by omega, Nat.le_of_ble_eq_true rfl⟩ | exact Eq.refl true) ?_) | (refine Exists.intro _ (And.intro rfl ?_)) | (refine And.intro (And.intro rfl (chk_rowI _ _ _ _)) ?_) | (refine br_t (by omega) ?_) | (refine br_f (by omega) ?_) | (refine bs_t (by omega) ?_) | (refine bs_f (by omega) ?_) | (refine fun (K' : K3) hK' => ?_) | (refine hK' _ _ _ ?_; clear hK' K') | (refine draw_auto tok mixed (by kernel_rfl) ?_) | (refine bs_bt (Eq.refl true) ?_) | (refine bs_bf (Eq.refl false) ?_) | (refine br_bt (Eq.refl true) ?_) | (refine br_bf (Eq.refl false) ?_) | (refine CallK.m ?_) | (refine Two.l ?_) | (refine And.intro (And.intro rfl rfl) ?_))
            refine ⟨b + 1, [], by omega, by omega, ?_⟩
            refine ⟨?_, ?_, injB_ent (p := [_]) (by omega) rfl rfl, rfl, by first | exact Nat.le_of_ble_eq_true rfl | exact Nat.le_refl _ | omega⟩
            · repeat (first | exact trivial | refine And.intro (covS_syn (by first | rfl | (refine congrArg some (congrArg V.i ?_); (rw [sumZ, beachF])) | (refine congrArg some (congrArg V.i ?_); omega)) rfl (by first | exact trivial | exact Nat.le_of_ble_eq_true rfl | exact hy | exact (fun p hp => nomatch hp) | (show (_ : Nat) < _; omega))) ?_ | refine And.intro (covS_bool rfl rfl (by first | rfl)) ?_)
            · repeat (first | exact trivial | (exact covL_ent (by omega) (fun k hk => by (try simp only [flatN]); (repeat (first | rw [find_skip (by omega)] | rw [find_hi (by omega) (by rfl)])))) | refine And.intro (covE_id (Nat.le_of_ble_eq_true rfl) (by first | exact wf_ints _ _ | exact wf_bools _ _ | first | exact wf_sls _ _ _ (by omega) | exact wf_jobs _ _ | exact fun c hc => wf_sls _ _ _ (by omega) c (List.mem_of_mem_take hc) | simp [C.wf]) rfl (by first | rfl)) ?_)
      · have hbe : b = j.length := by omega
        subst hbe
        repeat ((conv => whnf); first | (refine And.intro (by first | omega | exact Nat.le_of_ble_eq_true rfl | (dsimp only [inK]; omega) | (simp only [mulS_eq]; omega) | (simp only [mulS_eq, setL_length]; omega) | (simp only [setL_length, List.length_map]; omega) | exact ⟨by omega, by omega, by first | exact Nat.le_of_ble_eq_true rfl | (dsimp only; omega) | (simp only [setL_length]; omega) | (simp only [setL_length, List.length_map]; omega)⟩ | exact ⟨by omega, by first | rfl | omega, by omega, Nat.le_of_ble_eq_true rfl, Nat.le_of_ble_eq_true rfl⟩ | exact ⟨rfl, rfl, rfl, Nat.le_of_ble_eq_true rfl, by first | rfl | omega | exact Nat.le_of_ble_eq_true rfl | (dsimp only; omega) | (simp; done) | (simp; omega), by first | rfl | omega | exact Nat.le_of_ble_eq_true rfl | (dsimp only; omega) | (simp; done) | (simp; omega), by omega, Nat.le_of_ble_eq_true rfl⟩ | exact Eq.refl true) ?_) | (refine Exists.intro _ (And.intro rfl ?_)) | (refine And.intro (And.intro rfl (chk_rowI _ _ _ _)) ?_) | (refine br_t (by omega) ?_) | (refine br_f (by omega) ?_) | (refine bs_t (by omega) ?_) | (refine bs_f (by omega) ?_) | (refine fun (K' : K3) hK' => ?_) | (refine hK' _ _ _ ?_; clear hK' K') | (refine draw_auto tok mixed (by kernel_rfl) ?_) | (refine bs_bt (Eq.refl true) ?_) | (refine bs_bf (Eq.refl false) ?_) | (refine br_bt (Eq.refl true) ?_) | (refine br_bf (Eq.refl false) ?_) | (refine CallK.m ?_) | (refine Two.l ?_) | (refine And.intro (And.intro rfl rfl) ?_))
        intro ρ; rfl
end Go.Proofs.Ytjijjncddjkdlaa

/- Jobs left out at the end of a beach: the least harm and the bound are not greater. Plain law. -/
namespace Go.Proofs.Ytjijjncddjkdlaa
open Go.RowKit
set_option linter.unusedVariables false
set_option linter.unusedSimpArgs false
/-- A coast where of one beach the first jobs are kept. -/
def lessJ (j : Coast) (b n : Nat) : Coast := j.set b ((j.getD b []).take n)
/-- An order that keeps the first n of a beach. -/
def keepN (b : Nat) : Nat → List Nat → List Nat
  | _, [] => []
  | 0, c :: o => if c = b then keepN b 0 o else c :: keepN b 0 o
  | n + 1, c :: o => if c = b then c :: keepN b n o else c :: keepN b (n + 1) o
end Go.Proofs.Ytjijjncddjkdlaa

/- How beaches and orders that came in read. -/
namespace Go.Proofs.Ytjijjncddjkdlaa
open Go.RowKit
set_option linter.unusedVariables false
set_option linter.unusedSimpArgs false
open Go.ChangeShapes Go.WideShapes Go.ChangeAt Go.RowKit Go.Deep Go.Joins
theorem ro_at {w : World} {a : Addr} {cs : List Value} (h : ∀ i, i < cs.length → w.cell? (a.add i) = some (cs.getD i undef)) : RoAt w (some a) cs := by
  intro hne
  have hp : 0 < cs.length := List.length_pos_iff.2 hne
  obtain ⟨b, off, spot⟩ := a
  have hspot : spot = none := by simpa [Addr.add] using World.cell?_spot (h 0 hp)
  subst hspot
  refine ⟨b, off, rfl, ?_, fun j hj => by rw [← Go.WideShapes.add_plain]; exact h j hj⟩
  have := World.block_lt_of_cell? _ _ (h 0 hp)
  simpa [Addr.add] using this
theorem add_add (a : Addr) (i j : Nat) : (a.add i).add j = a.add (i + j) := by
  unfold Addr.add
  by_cases hi : i = 0
  · subst hi; simp
  · by_cases hj : j = 0
    · subst hj; simp [hi]
    · simp [hi, hj, Nat.add_assoc]
def jobV (l : List Job) : List Value := l.flatMap fun x => [.int .i64 x.1, .int .i64 x.2]
theorem jobV_len (l : List Job) : (jobV l).length = 2 * l.length := by
  induction l with
  | nil => rfl
  | cons x l ih => simp only [jobV, List.flatMap_cons, List.length_append] at *; simp [ih]; omega
theorem jobV_get : ∀ {l : List Job} {k : Nat}, k < l.length → (jobV l).getD (k * 2) undef = .int .i64 (l.getD k (0, 0)).1 ∧ (jobV l).getD (k * 2 + 1) undef = .int .i64 (l.getD k (0, 0)).2
  | x :: l, 0, _ => ⟨rfl, rfl⟩
  | x :: l, k + 1, h => by
    have := jobV_get (l := l) (k := k) (by simpa using h)
    simp only [jobV, List.flatMap_cons] at *
    rw [show (k + 1) * 2 + 1 = k * 2 + 1 + 1 + 1 by omega, show (k + 1) * 2 = k * 2 + 1 + 1 by omega]
    simpa using this
theorem den_jobs (ρ : Env) (l : List Job) : (jobC l).map (C.den ρ) = jobV l := by
  induction l with
  | nil => rfl
  | cons x l ih => simp only [jobC, jobV, List.flatMap_cons, List.map_append] at *; rw [ih]; rfl
section
variable {H : Type} {enc : TypeId × Value → H} {W : World} {sp : Nat → Bool}
set_option maxRecDepth 10000 in
theorem open_jobs {n : Nat} {v : Value} {x : DataW H × List MemPlace} (h : DataW.trod enc Try.prog W 0 sp true n 31 [v] = some x) :
    ∃ (ao : Option Addr) (c : Nat) (l : List Job), v = .slice ao l.length c ∧ RoAt W ao (jobV l) ∧ l.length ≤ c ∧ l.length < 9223372036854775808 := by
  rcases open_slice Try.underlying31 h with ⟨hcs, _⟩ | ⟨a, len, cap, m, f, D, Pl, hcs, _, hl, hmax, hm, _, hx⟩
  · cases hcs
    exact ⟨none, 0, [], rfl, fun hne => absurd rfl hne, by simp, by simp⟩
  · cases hcs
    have hc2 : Try.prog.cellsOf 47 = 2 := by kernel_rfl
    have hc1 : Try.prog.cellsOf 3 = 1 := by kernel_rfl
    have hlm : len ≤ m := by rw [hm]; split <;> omega
    have hlen : len < 9223372036854775808 := by unfold maxLen at hmax; omega
    rw [hc2] at hx
    obtain ⟨b, hb⟩ := choose_lt (α := Job) (n := len) (p := fun i y => W.cell? (a.add (i * 2)) = some (.int .i64 y.1) ∧ W.cell? (a.add (i * 2 + 1)) = some (.int .i64 y.2)) (fun i hi => by
      obtain ⟨cs', h1, h2⟩ := hx i (by omega)
      obtain ⟨_, hlen, hcell⟩ := World.cells?_some h1
      obtain ⟨y0, y1, k, _, hl2, h3, h4⟩ := trod_struct2 Try.underlying47 h2
      match cs', hlen with
      | [c0, c1], _ =>
        simp [hc1] at h3 h4
        obtain ⟨z0, e0, _, _⟩ := DataW.trod_int Try.underlying3 h3
        obtain ⟨z1, e1, _, _⟩ := DataW.trod_int Try.underlying3 h4
        cases e0
        cases e1
        have g0 := hcell 0 (by omega)
        have g1 := hcell 1 (by omega)
        rw [add_add] at g0 g1
        exact ⟨(z0, z1), by simpa using g0, by simpa using g1⟩)
    refine ⟨some a, cap, (List.range len).map b, by simp, ro_at (fun i hi => ?_), by simpa using hl, by simpa using hlen⟩
    rw [jobV_len] at hi
    simp only [List.length_map, List.length_range] at hi
    have hq : i / 2 < len := by omega
    obtain ⟨g0, g1⟩ := hb (i / 2) hq
    obtain ⟨k0, k1⟩ := jobV_get (l := (List.range len).map b) (k := i / 2) (by simpa using hq)
    have hgd : ((List.range len).map b).getD (i / 2) (0, 0) = b (i / 2) := by simp [List.getD_eq_getElem?_getD, hq]
    rw [hgd] at k0 k1
    rcases Nat.mod_two_eq_zero_or_one i with hi2 | hi2
    · rw [show i / 2 * 2 = i by omega] at g0 k0
      rw [g0, k0]
    · rw [show i / 2 * 2 + 1 = i by omega] at g1 k1
      rw [g1, k1]
/-- A coast in memory: its beaches lie where bs says. -/
structure CoastAt (W : World) (ao : Option Addr) (c : Nat) (j : Coast) (bs : Nat → Option Addr × Nat) : Prop where
  lt : j.length < 9223372036854775808
  cap : j.length ≤ c
  row : RoAt W ao ((List.range j.length).map fun k => .slice (bs k).1 (j.getD k []).length (bs k).2)
  be : ∀ k, k < j.length → RoAt W (bs k).1 (jobV (j.getD k [])) ∧ (j.getD k []).length ≤ (bs k).2
theorem open_coast {n : Nat} {v : Value} {x : DataW H × List MemPlace} (h : DataW.trod enc Try.prog W 0 sp true n 22 [v] = some x) :
    ∃ (ao : Option Addr) (c : Nat) (j : Coast) (bs : Nat → Option Addr × Nat), v = .slice ao j.length c ∧ CoastAt W ao c j bs := by
  rcases open_slice1 Try.underlying22 (by kernel_rfl) h with ⟨hcs, _⟩ | ⟨a, len, cap, m, f, V, D, Pl, hcs, _, hl, hmax, hm, _, hx⟩
  · cases hcs
    exact ⟨none, 0, [], fun _ => (none, 0), rfl, by simp, by simp, fun hne => absurd rfl hne, fun k hk => by simp at hk⟩
  · cases hcs
    have hlm : len ≤ m := by rw [hm]; split <;> omega
    have hlen : len < 9223372036854775808 := by unfold maxLen at hmax; omega
    obtain ⟨b, hb⟩ := choose_lt (α := (Option Addr × Nat) × List Job) (n := len) (p := fun i b => V i = .slice b.1.1 b.2.length b.1.2 ∧ RoAt W b.1.1 (jobV b.2) ∧ b.2.length ≤ b.1.2) (fun i hi => by
      obtain ⟨ao, c, l, e, h1, h2, _⟩ := open_jobs (hx i (by omega)).2
      exact ⟨((ao, c), l), e, h1, h2⟩)
    have hgd : ∀ k, k < len → ((List.range len).map fun i => (b i).2).getD k [] = (b k).2 := fun k hk => by simp [List.getD_eq_getElem?_getD, hk]
    refine ⟨some a, cap, (List.range len).map fun i => (b i).2, fun i => (b i).1, by simp, by simpa using hlen, by simpa using hl, ro_at (fun i hi => ?_), fun k hk => ?_⟩
    · have hi' : i < len := by simpa using hi
      rw [(hx i (by omega)).1, (hb i hi').1]
      simp [List.getD_eq_getElem?_getD, hi']
    · have hk' : k < len := by simpa using hk
      rw [hgd k hk']
      exact (hb k hk').2
set_option maxRecDepth 100000 in
theorem open_coastv {v : Value} {d : DataW H} {p : List MemPlace} {r : Reach} {b0 : Nat} (hv : Value.okWide Try.prog W r b0 22 v) (h : DataW.Trod enc Try.prog W 0 sp true 22 v d p) :
    ∃ (ao : Option Addr) (c : Nat) (j : Coast) (bs : Nat → Option Addr × Nat), v = .slice ao j.length c ∧ CoastAt W ao c j bs := by
  obtain ⟨fuel, hf⟩ := h
  obtain ⟨ao, n, cp, rfl⟩ := okWide_slice Try.underlying22 hv
  simp only [Value.cells] at hf
  exact open_coast hf
end
/-- Memory that comes in, with the room behind it. -/
theorem Hp.rosz {ρ : Env} {w : World} {L : List E} {nx : Nat} (h : ∀ e ∈ L, (∃ z, e.kd = .ro z ∧ (z = 0 ∨ e.cs.length ≤ (ρ e.lab).2 * z)) ∧ e.lab < nx ∧ (∀ c ∈ e.cs, c.wf nx) ∧ RoAt w (ρ e.lab).1 (e.cs.map (C.den ρ))) (hd : injB [] L = true) : Hp w.heap.size ρ w L nx := by
  refine ⟨Nat.le_refl _, fun e he => ?_, fun e he => ⟨(h e he).2.1, (h e he).2.2.1⟩, fun e he e' he' hl => injB_spec hd e he e' he' (.inl hl), fun e he e' he' hro => ?_⟩
  · obtain ⟨⟨z, h1, h2⟩, h3, h4, h5⟩ := h e he
    obtain ⟨lab, kd, cs⟩ := e
    simp only at h1 h2
    subst h1
    exact ⟨h5, h2⟩
  · obtain ⟨⟨z, h1, _⟩, _⟩ := h e he
    rw [h1] at hro; cases hro
theorem den_sls (ρ : Env) : ∀ (b : Nat) (j : Coast), (slsC b j).map (C.den ρ) = (List.range j.length).map fun k => Value.slice (ρ (b + k)).1 (j.getD k []).length (ρ (b + k)).2
  | b, [] => rfl
  | b, x :: r => by
    rw [List.length_cons, List.range_succ_eq_map, List.map_cons, List.map_map]
    simp only [slsC, List.map_cons]
    rw [den_sls ρ (b + 1) r]
    congr 1
    apply List.map_congr_left
    intro k _
    simp only [Function.comp]
    rw [show b + 1 + k = b + (k + 1) by omega]
    rfl
/-- Where the labels lie: the coast at 0, its beaches behind it, an order at o. -/
def coastE (o : Nat) (ao : Option Addr) (c : Nat) (bs : Nat → Option Addr × Nat) (po : Option Addr) (pc : Nat) : Env := fun l => if l = 0 then (ao, c) else if l = o then (po, pc) else bs (l - 1)
theorem coastE_be {o : Nat} {ao : Option Addr} {c : Nat} {bs : Nat → Option Addr × Nat} {po : Option Addr} {pc : Nat} {k : Nat} (h : 1 + k ≠ o) : coastE o ao c bs po pc (1 + k) = bs k := by
  unfold coastE; rw [if_neg (by omega), if_neg h, Nat.add_sub_cancel_left]
theorem coast_row {W : World} {ao : Option Addr} {c : Nat} {j : Coast} {bs : Nat → Option Addr × Nat} (h : CoastAt W ao c j bs) {o : Nat} {po : Option Addr} {pc : Nat} (ho : j.length < o) : RoAt W ao ((slsC 1 j).map (C.den (coastE o ao c bs po pc))) := by
  rw [den_sls]
  have e : ((List.range j.length).map fun k => Value.slice (coastE o ao c bs po pc (1 + k)).1 (j.getD k []).length (coastE o ao c bs po pc (1 + k)).2) = (List.range j.length).map fun k => .slice (bs k).1 (j.getD k []).length (bs k).2 := by
    apply List.map_congr_left
    intro k hk
    rw [coastE_be (by have := List.mem_range.1 hk; omega)]
  rw [e]; exact h.row
theorem hp_long {W : World} {ao : Option Addr} {c : Nat} {j : Coast} {bs : Nat → Option Addr × Nat} (h : CoastAt W ao c j bs) (po : Option Addr) (pc : Nat) : Hp W.heap.size (coastE (j.length + 31) ao c bs po pc) W [⟨0, .ro 1, slsC 1 j⟩] (j.length + 32) := by
  refine Hp.rosz (fun e he => ?_) rfl
  simp only [List.mem_cons, List.not_mem_nil, or_false] at he
  subst he
  refine ⟨⟨1, rfl, .inr ?_⟩, by simp only; omega, wf_sls _ _ _ (by omega), coast_row h (by omega)⟩
  have := h.cap
  simp only [slsC_len, coastE, if_true]; omega
theorem hp_ent {W : World} {ao : Option Addr} {c : Nat} {j : Coast} {bs : Nat → Option Addr × Nat} (h : CoastAt W ao c j bs) (hj : j.length ≤ 20) (po : Option Addr) (pc : Nat) : ∀ e ∈ (⟨0, .ro 1, slsC 1 j⟩ :: entC 1 j : List E), (∃ z, e.kd = .ro z ∧ (z = 0 ∨ e.cs.length ≤ (coastE 21 ao c bs po pc e.lab).2 * z)) ∧ e.lab < 32 ∧ (∀ c ∈ e.cs, c.wf 32) ∧ RoAt W (coastE 21 ao c bs po pc e.lab).1 (e.cs.map (C.den (coastE 21 ao c bs po pc))) := by
  intro e he
  rcases List.mem_cons.1 he with rfl | he
  · refine ⟨⟨1, rfl, .inr ?_⟩, by simp only; omega, wf_sls _ _ _ (by omega), coast_row h (by omega)⟩
    have := h.cap
    simp only [slsC_len, coastE, if_true]; omega
  · obtain ⟨k, hk, rfl⟩ := entC_mem he
    obtain ⟨h1, h2⟩ := h.be k hk
    refine ⟨⟨2, rfl, .inr ?_⟩, by simp only; omega, wf_jobs _ _, ?_⟩
    · simp only [jobC_len, coastE_be (show 1 + k ≠ 21 by omega)]; omega
    · simp only [coastE_be (show 1 + k ≠ 21 by omega)]
      rw [den_jobs]; exact h1
theorem hp_coast {W : World} {ao : Option Addr} {c : Nat} {j : Coast} {bs : Nat → Option Addr × Nat} (h : CoastAt W ao c j bs) (hj : Sized j) : Hp W.heap.size (coastE 21 ao c bs none 0) W (⟨0, .ro 1, slsC 1 j⟩ :: entC 1 j) 32 :=
  Hp.rosz (hp_ent h hj.len none 0) (injC hj)
end Go.Proofs.Ytjijjncddjkdlaa

/- Shore: less of a row; copies of lists. -/
namespace Go.Proofs.Ytjijjncddjkdlaa
open Go.RowKit
set_option linter.unusedVariables false
set_option linter.unusedSimpArgs false
/-- A coast whose row lies elsewhere. -/
structure HasA (L : List E) (a : Nat) (j : Coast) : Prop where
  sl : ∃ k, find L a = some ⟨a, k, slsC 1 j⟩ ∧ k.z = some 1
  be : ∀ k, k < j.length → find L (1 + k) = some ⟨1 + k, .ro 2, jobC (j.getD k [])⟩
theorem HasA.ro {L : List E} {a : Nat} {j : Coast} (h : HasA L a j) (hj : Sized j) : roL [(0, some a)] 32 L (⟨0, .ro 1, slsC 1 j⟩ :: entC 1 j) := by
  have := hj.len
  obtain ⟨k, h1, h2⟩ := h.sl
  have hr : ∀ l, 1 ≤ l → renL [(0, some a)] l = some l := fun l hl => by simp [renL, beq_ne (show 0 ≠ l by omega)]
  have hs : ∀ {b : Nat} {j : Coast}, 1 ≤ b → seqO ((slsC b j).map (C.ren [(0, some a)])) = some (slsC b j) := by
    intro b j
    induction j generalizing b with
    | nil => intro _; rfl
    | cons x r ih =>
      intro hb
      simp only [slsC, List.map_cons, C.ren, hr b hb, seqO, ih (b := b + 1) (by omega)]
  refine ⟨⟨Nat.le_of_ble_eq_true rfl, wf_sls _ _ _ (by omega), k, slsC 1 j, h1, .inr h2, hs (by omega)⟩, roL_all fun e he => ?_⟩
  obtain ⟨i, hi, rfl⟩ := entC_mem he
  unfold roE
  simp only [hr (1 + i) (by omega)]
  exact ⟨by omega, wf_jobs _ _, .ro 2, _, h.be i hi, .inr rfl, ren_jobs _ _⟩
end Go.Proofs.Ytjijjncddjkdlaa

/- Two neighbours of an order exchanged. Plain law. -/
namespace Go.Proofs.Ytjijjncddjkdlaa
open Go.RowKit
set_option linter.unusedVariables false
set_option linter.unusedSimpArgs false
/-- The order with two neighbours exchanged. -/
def swapL {α : Type} (d : α) (o : List α) (at' : Nat) : List α := (o.set at' (o.getD (at' + 1) d)).set (at' + 1) (o.getD at' d)
end Go.Proofs.Ytjijjncddjkdlaa

/- Shore: Best, Swap. -/
namespace Go.Proofs.Ytjijjncddjkdlaa
open Go.RowKit
set_option linter.unusedVariables false
set_option linter.unusedSimpArgs false
theorem bestE_spec (j : Coast) (hj : Sized j) : Spec Try.prog 32 [V.c (.sl 0 j.length)] (⟨0, .ro 1, slsC 1 j⟩ :: entC 1 j) 32 (fun v L' _ => intsX (if validL j then natsC (bestO j) else []) (if validL j then 0 else 60) v L') := by
  have hj20 := hj.len
  have hC : HasC (⟨0, .ro 1, slsC 1 j⟩ :: entC 1 j) j := ⟨rfl, fun k hk => by (repeat (first | rw [find_skip (by omega)] | rw [find_hi (by omega) (by rfl)])); exact entC_find hk⟩
  refine Spec.of tok Try.func32 rfl rfl rfl fun n0 cx => vc_ok tok ?_
  cases hv : validL j with
  | true =>
    have hm := validL_many hv
    have hc := validL_coast hj hv
    repeat ((conv => whnf); first | (refine And.intro (by first | omega | exact Nat.le_of_ble_eq_true rfl | (dsimp only [inK]; omega) | (simp only [mulS_eq]; omega) | (simp only [mulS_eq, setL_length]; omega) | (simp only [setL_length, List.length_map]; omega) | exact ⟨by omega, by omega, by first | exact Nat.le_of_ble_eq_true rfl | (dsimp only; omega) | (simp only [setL_length]; omega) | (simp only [setL_length, List.length_map]; omega)⟩ | exact ⟨by omega, by first | rfl | omega, by omega, Nat.le_of_ble_eq_true rfl, Nat.le_of_ble_eq_true rfl⟩ | exact ⟨rfl, rfl, rfl, Nat.le_of_ble_eq_true rfl, by first | rfl | omega | exact Nat.le_of_ble_eq_true rfl | (dsimp only; omega) | (simp; done) | (simp; omega), by first | rfl | omega | exact Nat.le_of_ble_eq_true rfl | (dsimp only; omega) | (simp; done) | (simp; omega), by omega, Nat.le_of_ble_eq_true rfl⟩ | exact Eq.refl true) ?_) | (refine Exists.intro _ (And.intro rfl ?_)) | (refine And.intro (And.intro rfl (chk_rowI _ _ _ _)) ?_) | (refine br_t (by omega) ?_) | (refine br_f (by omega) ?_) | (refine bs_t (by omega) ?_) | (refine bs_f (by omega) ?_) | (refine fun (K' : K3) hK' => ?_) | (refine hK' _ _ _ ?_; clear hK' K') | (refine CallM.eq (by kernel_rfl) (open_spec j hj _ _ hC) ?_) | (refine draw_auto tok mixed (by kernel_rfl) ?_) | (rw [hv]) | (refine CallK.ints (R := []) (best_spec j hc hj (by omega)) (by kernel_rfl) rfl (by simp [V.wf, A.wf, C.wf]) (hC.ro hj) (injC hj) ?_) | (refine bs_bt (Eq.refl true) ?_) | (refine bs_bf (Eq.refl false) ?_) | (refine br_bt (Eq.refl true) ?_) | (refine br_bf (Eq.refl false) ?_) | (refine CallK.m ?_) | (refine Two.l ?_) | (refine And.intro (And.intro rfl rfl) ?_))
    exact .inr ⟨32, rfl, rfl⟩
  | false =>
    repeat ((conv => whnf); first | (refine And.intro (by first | omega | exact Nat.le_of_ble_eq_true rfl | (dsimp only [inK]; omega) | (simp only [mulS_eq]; omega) | (simp only [mulS_eq, setL_length]; omega) | (simp only [setL_length, List.length_map]; omega) | exact ⟨by omega, by omega, by first | exact Nat.le_of_ble_eq_true rfl | (dsimp only; omega) | (simp only [setL_length]; omega) | (simp only [setL_length, List.length_map]; omega)⟩ | exact ⟨by omega, by first | rfl | omega, by omega, Nat.le_of_ble_eq_true rfl, Nat.le_of_ble_eq_true rfl⟩ | exact ⟨rfl, rfl, rfl, Nat.le_of_ble_eq_true rfl, by first | rfl | omega | exact Nat.le_of_ble_eq_true rfl | (dsimp only; omega) | (simp; done) | (simp; omega), by first | rfl | omega | exact Nat.le_of_ble_eq_true rfl | (dsimp only; omega) | (simp; done) | (simp; omega), by omega, Nat.le_of_ble_eq_true rfl⟩ | exact Eq.refl true) ?_) | (refine Exists.intro _ (And.intro rfl ?_)) | (refine And.intro (And.intro rfl (chk_rowI _ _ _ _)) ?_) | (refine br_t (by omega) ?_) | (refine br_f (by omega) ?_) | (refine bs_t (by omega) ?_) | (refine bs_f (by omega) ?_) | (refine fun (K' : K3) hK' => ?_) | (refine hK' _ _ _ ?_; clear hK' K') | (refine CallM.eq (by kernel_rfl) (open_spec j hj _ _ hC) ?_) | (refine draw_auto tok mixed (by kernel_rfl) ?_) | (rw [hv]) | (refine bs_bt (Eq.refl true) ?_) | (refine bs_bf (Eq.refl false) ?_) | (refine br_bt (Eq.refl true) ?_) | (refine br_bf (Eq.refl false) ?_) | (refine CallK.m ?_) | (refine Two.l ?_) | (refine And.intro (And.intro rfl rfl) ?_))
    exact .inl ⟨rfl, rfl⟩
/-- Numbers, a number and an error. -/
def intsN (l : List Int) (n Er : Int) (v : V) (L' : List E) : Prop :=
  ∃ o : C, v = V.tup [A.c o, A.c (C.i n), A.c (C.i Er)] ∧ ((o = C.nil ∧ l = []) ∨ ∃ lab, o = C.sl lab l.length ∧ find L' lab = some ⟨lab, .vec 3 1, l.map C.i⟩)
/-- What Swap answers. -/
def swapE (j : Coast) (o : List Int) (at' : Int) : Int :=
  if validL j then (if isOrdB j o then (if 0 ≤ at' ∧ at' ≤ (o.length : Int) - 2 then (if o.getD at'.toNat 0 = o.getD (at'.toNat + 1) 0 then 5 else 0) else 2) else 61) else 60
def swapLs (j : Coast) (o : List Int) (at' : Int) : List Int := if swapE j o at' = 0 then swapL 0 o at'.toNat else []
def swapNm (j : Coast) (o : List Int) (at' : Int) : Int := if swapE j o at' = 0 then harmO j (swapL 0 o at'.toNat) o.length - harmO j o o.length else 0
end Go.Proofs.Ytjijjncddjkdlaa

/- Rows of rows of one's own: a family of labels. -/
namespace Go.Proofs.Ytjijjncddjkdlaa
open Go.RowKit
set_option linter.unusedVariables false
set_option linter.unusedSimpArgs false
section
variable {α : Type} {kd : Kd} {cs : α → List C} {ln : α → Nat} {d : α}
def famE (kd : Kd) (cs : α → List C) : Nat → List α → List E
  | _, [] => []
  | b, x :: r => ⟨b, kd, cs x⟩ :: famE kd cs (b + 1) r
def famS (ln : α → Nat) : Nat → List α → List C
  | _, [] => []
  | b, x :: r => .sl b (ln x) :: famS ln (b + 1) r
@[simp] theorem famS_len : ∀ {b : Nat} {l : List α}, (famS ln b l).length = l.length
  | _, [] => rfl
  | b, x :: r => by simp [famS, famS_len (b := b + 1) (l := r)]
theorem famE_mem : ∀ {b : Nat} {l : List α} {e : E}, e ∈ famE kd cs b l → ∃ k, k < l.length ∧ e = ⟨k + b, kd, cs (l.getD k d)⟩
  | b, x :: r, e, h => by
    rcases List.mem_cons.1 h with rfl | h
    · exact ⟨0, by simp, by simp⟩
    · obtain ⟨k, h1, rfl⟩ := famE_mem h
      exact ⟨k + 1, by simpa using h1, by rw [List.getD_cons_succ, show k + (b + 1) = k + 1 + b by omega]⟩
theorem famE_labs : ∀ {b : Nat} {l : List α}, (famE kd cs b l).map E.lab = List.range' b l.length
  | _, [] => rfl
  | b, x :: r => by simp only [famE, List.map_cons, List.length_cons, List.range'_succ, famE_labs]
theorem wf_famS : ∀ (n b : Nat) (l : List α), b + l.length ≤ n → ∀ c ∈ famS ln b l, c.wf n
  | n, b, x :: r, h, c, hc => by
    simp only [List.length_cons] at h
    rcases List.mem_cons.1 hc with rfl | hc
    · show b < n; omega
    · exact wf_famS n (b + 1) r (by omega) c hc
end
theorem rm_mem {x : Nat} {e : E} : ∀ {L : List E}, e ∈ rmL L x → e ∈ L ∧ e.lab ≠ x
  | ⟨lab, kd, cs⟩ :: r, h => by
    rw [rmL] at h
    cases hb : Nat.beq lab x with
    | true =>
      rw [hb] at h; simp only [cond_true] at h
      obtain ⟨h1, h2⟩ := rm_mem h
      exact ⟨by simp [h1], h2⟩
    | false =>
      rw [hb] at h; simp only [cond_false] at h
      rcases List.mem_cons.1 h with rfl | h
      · refine ⟨by simp, fun e => ?_⟩
        simp only at e
        rw [e, Nat.beq_refl] at hb; cases hb
      · obtain ⟨h1, h2⟩ := rm_mem h
        exact ⟨by simp [h1], h2⟩
theorem updL_none {l o : Nat} {vs : List C} : ∀ {L : List E}, (∀ e ∈ L, e.lab ≠ l) → updL L l o vs = L
  | [], _ => rfl
  | e :: r, h => by
    have : Nat.beq e.lab l = false := beq_ne (h e (by simp))
    rw [updL, this, cond_false, updL_none (fun x hx => h x (by simp [hx]))]
theorem rmL_none {l : Nat} : ∀ {L : List E}, (∀ e ∈ L, e.lab ≠ l) → rmL L l = L
  | [], _ => rfl
  | e :: r, h => by
    have : Nat.beq e.lab l = false := beq_ne (h e (by simp))
    rw [rmL, this, cond_false, rmL_none (fun x hx => h x (by simp [hx]))]
/-- A tail whose labels are those of beaches and of rows. -/
structure TailOk (T : List E) : Prop where
  lab : ∀ e ∈ T, (1 ≤ e.lab ∧ e.lab ≤ 20) ∨ (40 ≤ e.lab ∧ e.lab < 60)
  nd : (T.map E.lab).Nodup
def fixedB (l : Nat) : Bool := Nat.beq l 0 || (Nat.ble 21 l && (Nat.ble l 39 || Nat.ble 60 l))
theorem TailOk.ne {T : List E} (h : TailOk T) {l : Nat} (hl : fixedB l = true) : ∀ e ∈ T, e.lab ≠ l := by
  intro e he heq
  have h1 := h.lab e he
  simp only [fixedB, Bool.or_eq_true, Bool.and_eq_true] at hl
  rcases hl with hl | ⟨hl1, hl2 | hl2⟩
  · have := Nat.eq_of_beq_eq_true hl; omega
  · have := Nat.le_of_ble_eq_true hl1; have := Nat.le_of_ble_eq_true hl2; omega
  · have := Nat.le_of_ble_eq_true hl1; have := Nat.le_of_ble_eq_true hl2; omega
theorem range_nd (b n : Nat) : (List.range' b n).Nodup := List.nodup_range'
section
variable {α : Type} {kd : Kd} {cs : α → List C} {ln : α → Nat} {d : α}
/-- Cells that name nothing. -/
structure Plain (cs : α → List C) : Prop where
  wf : ∀ n x, ∀ c ∈ cs x, c.wf n
  ren : ∀ R x, seqO ((cs x).map (C.ren R)) = some (cs x)
end
/-- Names of rows that are nil. -/
def nones (b n : Nat) : Rn := (List.range n).map fun k => (k + b, none)
section
variable {α : Type} {kd : Kd} {cs : α → List C} {ln : α → Nat} {d : α}
end
section
variable {α : Type} {kd : Kd} {cs : α → List C} {l : List α} {d : α} {j : Coast}
end
end Go.Proofs.Ytjijjncddjkdlaa

/- A region that draws its order, with one call that turns a map: in a walk. -/
namespace Go.Proofs.Ytjijjncddjkdlaa
open Go.RowKit
set_option linter.unusedVariables false
set_option linter.unusedSimpArgs false
section
variable {P : Program} {T : List (Nat × TD)} {n0 : Nat} {cx : Cx} {N na nx : Nat} {s : S} {L : List E}
def drawT (P : Program) (T : List (Nat × TD)) (n0 N g0 lm : Nat) (ops : List Oper) (K : K3) (s : S) (L : List E) (nx : Nat) : Prop :=
  rmK lm L fun Lv => Nat.blt lm nx = true ∧ drT P T n0 N g0 lm L Lv nx ops (fun s' L1 => K s' L1 nx) s none
theorem draw_turn_rule (g0 lm : Nat) (hT : TOK P T) (hm : P.follows .mixedOrders = true) {id : Nat} {ops : Array Oper} {K : Kt} (hB : drawB ops ops.size = true) (h : drawT P T n0 N g0 lm ops.toList (K .normal) s L nx) :
    Tri P n0 cx N na (.region id ops true) K s L nx := by
  refine ⟨fun ρ a w hna hs hp hi => ?_⟩
  obtain ⟨all, rfl⟩ : ∃ l : List Oper, ops = l.toArray := ⟨ops.toList, by simp⟩
  simp only [drawB, Bool.and_eq_true, decide_eq_true_eq, Bool.or_eq_true, List.size_toArray] at hB
  obtain ⟨⟨⟨hn, hH⟩, ht⟩, hseq⟩ := hB
  unfold drawT at h
  rw [rmK_eq] at h
  obtain ⟨hlm, h⟩ := h
  have hlm : lm < nx := Nat.le_of_ble_eq_true hlm
  have hlook : LookAt all s ([] : List Stp) 0 s := fun t v hv => .inr ⟨fun j hj => by omega, v, hv, fun _ => rfl, fun _ h => h⟩
  obtain ⟨ds, L1, sF, t0, hlen, ht0l, ht0, hP, hF, hK, _, hL1⟩ := drT_plan (i := 0) h (fun j hj => by simp) rfl hlook (.inl ⟨rfl, fun j st hj => by simp at hj⟩)
  obtain ⟨ks, f, hL1⟩ := hL1 rfl
  simp only [List.nil_append, Nat.zero_add] at hP hF ht0 ht0l
  have hlen : ds.length = all.length := by simpa using hlen
  have ht0l : t0 < all.length := by simpa using ht0l
  have hP' : ∀ (j : Nat) (st : Stp), ds[j]? = some st → PT P T n0 N g0 all L (rmL L lm) L1 nx s ds j st := fun j st hj => hP j st (Nat.zero_le _) hj
  have hwfs : ∀ t v, look s t = some v → v.wf nx := fun t v hv => (hs.ok t v hv).2
  have hLv : ∀ e ∈ rmL L lm, e ∈ L := fun e he => (rm_mem he).1
  refine wpIn_region_any hm ?_
  have hgoal := simG (P := P) (n := all.length) (all := all) (St := fun D a' w' => ∃ ρ', StR n0 N nx all L (rmL L lm) L1 s ds all.length ρ w.drew a.defers D ρ' a' w') (g := 0) (rd := cx.rd) (Q := fun e a' w' => Fin n0 cx N na ρ w a' w' (K e)) (Nat.le_refl _) hH (.inl rfl)
    (fun D a' w' i hi hDi hc hdep hSt next hnext => StR.step hT hP' hlen hH ht0 hLv hL1 hlm hwfs hSt hc hi hDi hdep hnext _) ?_ all.length (Array.replicate all.length false) a w.drew ?_ ?_ ?_
  · simpa using hgoal
  · rintro a' w' ⟨ρ', hd⟩
    obtain ⟨st0, hst0⟩ : ∃ st, ds[t0]? = some st := ⟨ds[t0]'(by omega), List.getElem?_eq_getElem (by omega)⟩
    have hD : ∀ k, k < all.length → (fun j => Nat.blt j all.length) k = true := fun k hk => Nat.ble_eq_true_of_le hk
    have hsl : SlOK N ρ' a' sF nx := by
      refine ⟨hd.size, fun t v hv => ?_⟩
      rcases hF t v hv with ⟨j, sj, hj, hsj, hg, hden, hwf⟩ | ⟨hnone, v0, hv0, hden, hwf⟩
      · exact ⟨by rw [hden ρ']; exact hd.done j sj t hsj (hD j hj) hg, hwf _ (hd.wfd j sj hsj (hD j hj))⟩
      · exact ⟨by rw [hden ρ']; exact hd.old t v0 hv0 (fun j hj _ => hnone j hj), hwf _ (hwfs t v0 hv0)⟩
    have hhp : Hp n0 ρ' w' L1 nx := hd.h1 ⟨t0, st0, hst0, (ht0 t0 st0 hst0).2 rfl, hD t0 (by omega)⟩
    have hagr : AgrLt na ρ ρ' := hd.agr.mono hna
    have hbel : Keep n0 cx w w' := (Keep.of (drew_below w) hp.base).trans hd.bel.top
    have hinv : Inv cx na ρ' w' a'.defers := by rw [hd.defers]; exact hi.keep hagr hbel
    have hw := vcOps_ok (P := P) (T := T) (n0 := n0) (cx := cx) (N := N) (all := all) (l := []) (Q := fun e a2 w2 => Fin n0 cx N na ρ w a2 w2 (K e)) (na := na) hT hna hsl hhp hinv hK (fun a2 w2 hf => Fin.trans hagr hbel hf)
    have := wpAnyIn_of_seq (md := .any) (F := FR cx.rd) (k0 := 0) (Q' := fun e a2 w2 => Fin n0 cx N na ρ w a2 w2 (K e)) (P := P) (ops := all.toArray) [] all.length (listedN all.length (all.length - all.length)) a' w' (fun j => by simp) (by rw [Nat.sub_self] at hseq ⊢; exact hseq) hw
    exact this
  · have : ∀ m, cnt (Array.replicate all.length false) m = m := by
      intro m
      induction m with
      | zero => rfl
      | succ m ih => simp only [cnt, ih, getD_replicate_false]; simp
    exact this _
  · exact ⟨by simp, fun j oj _ hl => (by rw [getD_replicate_false] at hl; cases hl), fun t _ ht => getD_in (by simpa using ht) (getD_replicate_false _ _)⟩
  · refine ⟨ρ, hs.size, rfl, AgrLt.refl _ _, Keep.refl _, hp.drew.mono hLv (Nat.le_refl _), fun _ => hp.drew, ?_, ?_, ?_, ?_⟩
    · rintro ⟨j, st, _, _, hD⟩
      rw [getD_replicate_false] at hD; cases hD
    · intro j st hj hD; rw [getD_replicate_false] at hD; cases hD
    · intro j st d hj hD; rw [getD_replicate_false] at hD; cases hD
    · intro t v hv _; exact (hs.ok t v hv).1
theorem draw_turn (g0 lm : Nat) (hT : TOK P T) (hm : P.follows .mixedOrders = true) {id : Nat} {ops : Array Oper} {K : Kt} (hB : drawB ops ops.size = true) (h : Opq (K .normal) fun K' => drawT P T n0 N g0 lm ops.toList K' s L nx) :
    Tri P n0 cx N na (.region id ops true) K s L nx := draw_turn_rule g0 lm hT hm hB (h (K .normal) fun _ _ _ h => h)
/-- The call, in a walk. -/
theorem turn_mk {g0 lm : Nat} {vs : List V} {Lv : List E} {R : Int → KS → MF → Prop} (z : Int) (ks : KS) (f : MF) (h : CallM P n0 g0 vs L nx (fun v L' _ => v = V.i z ∧ L' = ⟨lm, .mp true ks f, []⟩ :: Lv)) (hR : R z ks f) :
    ∃ z ks f, CallM P n0 g0 vs L nx (fun v L' _ => v = V.i z ∧ L' = ⟨lm, .mp true ks f, []⟩ :: Lv) ∧ R z ks f := ⟨z, ks, f, h, hR⟩
end
end Go.Proofs.Ytjijjncddjkdlaa

/- Shore: slices.Grow of no row. -/
namespace Go.Proofs.Ytjijjncddjkdlaa
open Go.RowKit
set_option linter.unusedVariables false
set_option linter.unusedSimpArgs false
open Go.Lib
end Go.Proofs.Ytjijjncddjkdlaa

/- Shore: results that are rows of rows; the reference's Done. -/
namespace Go.Proofs.Ytjijjncddjkdlaa
open Go.RowKit
set_option linter.unusedVariables false
set_option linter.unusedSimpArgs false
section
variable {α : Type} {kd : Kd} {cs : α → List C} {ln : α → Nat} {d : α}
/-- Rows and an error. -/
def rowsR (t : Nat) (kd : Kd) (cs : α → List C) (ln : α → Nat) (d : α) (l : List α) (Er : Int) (v : V) (L' : List E) : Prop :=
  ∃ o : C, v = V.tup [A.c o, A.c (C.i Er)] ∧ ((o = C.nil ∧ l = []) ∨ ∃ lab, o = C.sl lab l.length ∧ find L' lab = some ⟨lab, .vec t 1, famS ln 40 l⟩ ∧ ∀ k, k < l.length → find L' (k + 40) = some ⟨k + 40, kd, cs (l.getD k d)⟩)
/-- The names of rows that a call gives, as the callee has them. -/
def shiftR (b c n : Nat) : Rn := (List.range n).map fun k => (k + b, some (k + c))
theorem renL_shift {b c l : Nat} : ∀ {n : Nat}, renL (shiftR b c n) l = if b ≤ l ∧ l < b + n then some (l - b + c) else some l := by
  have key : ∀ {r : List Nat}, renL (r.map fun k => (k + b, some (k + c))) l = if ∃ k ∈ r, k + b = l then some (l - b + c) else some l := by
    intro r
    induction r with
    | nil => simp [renL]
    | cons a r ih =>
      simp only [List.map_cons, renL]
      cases hb : Nat.beq (a + b) l with
      | true =>
        have := Nat.eq_of_beq_eq_true hb
        simp only [cond_true]
        rw [if_pos ⟨a, by simp, this⟩]
        congr 1; omega
      | false =>
        have hne : a + b ≠ l := fun e => by rw [e, Nat.beq_refl] at hb; cases hb
        simp only [cond_false]
        rw [ih]
        congr 1
        simp only [List.mem_cons, eq_iff_iff]
        exact ⟨fun ⟨k, h1, h2⟩ => ⟨k, .inr h1, h2⟩, fun ⟨k, h1, h2⟩ => h1.elim (fun e => absurd (by rw [e] at h2; exact h2) hne) (fun h => ⟨k, h, h2⟩)⟩
  intro n
  unfold shiftR
  rw [key]
  congr 1
  simp only [List.mem_range, eq_iff_iff]
  exact ⟨fun ⟨k, h1, h2⟩ => by omega, fun h => ⟨l - b, by omega, by omega⟩⟩
theorem famS_shift {a b c n : Nat} {o : Option Nat} : ∀ {m : Nat} {l : List α}, b ≤ m → m + l.length ≤ b + n → a < b → seqO ((famS ln m l).map (C.ren ((a, o) :: shiftR b c n))) = some (famS ln (m - b + c) l)
  | m, [], _, _, _ => rfl
  | m, x :: r, h1, h2, h3 => by
    simp only [List.length_cons] at h2
    simp only [famS, List.map_cons, C.ren, renL, beq_ne (show a ≠ m by omega), cond_false]
    rw [renL_shift, if_pos (by omega)]
    simp only [seqO, famS_shift (a := a) (o := o) (b := b) (c := c) (n := n) (m := m + 1) (l := r) (by omega) (by omega) h3]
    rw [show m + 1 - b + c = m - b + c + 1 by omega]
theorem injB_of {R : Rn} : ∀ {L : List E}, (L.map E.lab).Nodup → (∀ e ∈ L, ∀ e' ∈ L, e.lab ≠ e'.lab → ∀ a, renL R e.lab = some a → renL R e'.lab = some a → False) → injB R L = true
  | [], _, _ => rfl
  | e :: r, hn, h => by
    simp only [List.map_cons, List.nodup_cons] at hn
    rw [injB, Bool.and_eq_true]
    refine ⟨List.all_eq_true.2 fun e' he' => ?_, injB_of hn.2 (fun x hx y hy => h x (by simp [hx]) y (by simp [hy]))⟩
    have hne : e'.lab ≠ e.lab := fun h => hn.1 (by rw [← h]; exact List.mem_map.2 ⟨e', he', rfl⟩)
    rw [beq_ne hne]
    cases h1 : renL R e.lab with
    | none => rfl
    | some a =>
      cases h2 : renL R e'.lab with
      | none => rfl
      | some b =>
        have hab : a ≠ b := fun e1 => h e (by simp) e' (by simp [he']) (fun e2 => hne e2.symm) a h1 (by rw [h2, e1])
        simp [beq_ne hab]
theorem CallK.rows {P : Program} {n0 nx nac t : Nat} {f : FuncId} {vs vs' : List V} {Lc L : List E} {R : Rn} {K : V → List E → Nat → Prop} {l : List α} {Er : Int} (B : Nat) (hB : nx < B) (hp : Plain cs) (hck : ∀ p x, (cs x).all (C.chk p) = true) (hkd : kd.isRo = false) (hkt : kd ≠ .vec t 1) (hl : l.length ≤ 20) (spec : Spec P f vs Lc nac (fun v L' _ => rowsR t kd cs ln d l Er v L')) (hok : callB P f = true)
    (hv : renVs R vs = some vs') (hvw : ∀ v ∈ vs, v.wf nac) (hL : roL R nac L Lc) (hLc : injB [] Lc = true)
    (hK : K (V.tup [A.c (.sl nx l.length), A.c (C.i Er)]) (⟨nx, .vec t 1, famS ln B l⟩ :: famE kd cs B l) (B + 20)) : CallK P n0 f vs' L nx K := by
  refine CallK.mk' hok spec hv hvw hL hLc ?_
  have hin : inLab nx (B + 20) nx = true := by simp only [inLab, Bool.and_eq_true]; rw [Nat.ble_eq, Nat.blt_eq]; omega
  have hin2 : ∀ k, k < l.length → inLab nx (B + 20) (k + B) = true := fun k hk => by
    simp only [inLab, Bool.and_eq_true]; rw [Nat.ble_eq, Nat.blt_eq]; omega
  rintro v L' nx' hw ⟨o, rfl, ⟨rfl, rfl⟩ | ⟨lab, rfl, hf, hfk⟩⟩
  · refine ⟨V.tup [A.c (.sl nx 0), A.c (C.i Er)], [⟨nx, .vec t 1, []⟩], B + 20, [(nx, none)], ⟨by omega, ?_, ?_, ⟨covE_nil (renL_one _ _) (by simp only; omega) rfl rfl, trivial⟩, rfl, ?_⟩, hK⟩
    · simp [V.ren, A.ren, C.ren, renL_one, C.i, seqO]
    · simp [V.chk, A.chk, C.chk, hin, C.i]
    · simp only [List.all_cons, List.all_nil, Bool.and_true, hin, Kd.isRo, Bool.not_false]
  · refine ⟨V.tup [A.c (.sl nx l.length), A.c (C.i Er)], ⟨nx, .vec t 1, famS ln B l⟩ :: famE kd cs B l, B + 20, (nx, some lab) :: shiftR B 40 l.length, ⟨by omega, ?_, ?_, ⟨covE_some (by simp [renL]) (show nx < B + 20 by omega) (wf_famS _ _ _ (by omega)) hf ?_, ?_⟩, ?_, ?_⟩, hK⟩
    · simp [V.ren, A.ren, C.ren, renL, C.i, seqO]
    · simp [V.chk, A.chk, C.chk, hin, C.i]
    · have := famS_shift (ln := ln) (a := nx) (o := some lab) (b := B) (c := 40) (n := l.length) (m := B) (l := l) (Nat.le_refl _) (Nat.le_refl _) (by omega)
      rw [Nat.sub_self, Nat.zero_add] at this
      exact this
    · refine covL_all fun e he => ?_
      obtain ⟨i, hi, rfl⟩ := famE_mem (d := d) he
      refine covE_some (l := i + 40) ?_ (by simp only; omega) (hp.wf _ _) (hfk i hi) (hp.ren _ _)
      simp only [renL, beq_ne (show nx ≠ i + B by omega), cond_false]
      rw [renL_shift, if_pos (by omega)]
      congr 1; omega
    · have hr : ∀ i, i < l.length → renL ((nx, some lab) :: shiftR B 40 l.length) (i + B) = some (i + 40) := fun i hi => by
        simp only [renL, beq_ne (show nx ≠ i + B by omega), cond_false]
        rw [renL_shift, if_pos (by omega)]
        congr 1; omega
      have hlab : ∀ i, i < l.length → lab ≠ i + 40 := fun i hi e1 => by
        rw [e1, hfk i hi] at hf
        simp only [Option.some.injEq, E.mk.injEq] at hf
        exact hkt hf.2.1
      have hr0 : renL ((nx, some lab) :: shiftR B 40 l.length) nx = some lab := by simp [renL]
      refine injB_of ?_ ?_
      · rw [List.map_cons, famE_labs, List.nodup_cons]
        exact ⟨fun hm => by have := List.mem_range'_1.1 hm; simp only at this; omega, range_nd _ _⟩
      · intro e he e' he' hne a h1 h2
        rcases List.mem_cons.1 he with rfl | he
        · rcases List.mem_cons.1 he' with rfl | he'
          · exact hne rfl
          · obtain ⟨i, hi, rfl⟩ := famE_mem (d := d) he'
            simp only at h1 h2
            rw [hr0] at h1; rw [hr i hi] at h2
            cases h1; cases h2
            exact hlab i hi rfl
        · obtain ⟨i, hi, rfl⟩ := famE_mem (d := d) he
          simp only at h1
          rw [hr i hi] at h1; cases h1
          rcases List.mem_cons.1 he' with rfl | he'
          · simp only at h2
            rw [hr0] at h2; cases h2
            exact hlab i hi rfl
          · obtain ⟨i', hi', rfl⟩ := famE_mem (d := d) he'
            simp only at h2 hne
            rw [hr i' hi'] at h2; cases h2
            omega
    · rw [List.all_cons, Bool.and_eq_true]
      refine ⟨?_, List.all_eq_true.2 fun e he => ?_⟩
      · simp only [hin, Kd.isRo, Bool.not_false, Bool.true_and]
        refine List.all_eq_true.2 fun c hc => ?_
        have : ∀ {m : Nat} {l' : List α}, nx ≤ m → m + l'.length ≤ B + 20 → ∀ c ∈ famS ln m l', C.chk (inLab nx (B + 20)) c = true := by
          intro m l'
          induction l' generalizing m with
          | nil => intro _ _ c hc; cases hc
          | cons x r ih =>
            intro h1 h2 c hc
            simp only [List.length_cons] at h2
            rcases List.mem_cons.1 hc with rfl | hc
            · simp only [C.chk, inLab, Bool.and_eq_true]; rw [Nat.ble_eq, Nat.blt_eq]; omega
            · exact ih (m := m + 1) (by omega) (by omega) c hc
        exact this (by omega) (by omega) c hc
      · obtain ⟨i, hi, rfl⟩ := famE_mem (d := d) he
        simp only [hin2 i hi, hkd, Bool.not_false, Bool.true_and]
        exact hck _ _
theorem CallM.rows {P : Program} {n0 nx nac t : Nat} {f : FuncId} {vs vs' : List V} {Lc L : List E} {R : Rn} {K : V → List E → Nat → Prop} {l : List α} {Er : Int} (B : Nat) (hB : nx < B) (hp : Plain cs) (hck : ∀ p x, (cs x).all (C.chk p) = true) (hkd : kd.isRo = false) (hkt : kd ≠ .vec t 1) (hl : l.length ≤ 20) (spec : Spec P f vs Lc nac (fun v L' _ => rowsR t kd cs ln d l Er v L')) (hok : callB P f = true)
    (hv : renVs R vs = some vs') (hvw : ∀ v ∈ vs, v.wf nac) (hL : roL R nac L Lc) (hLc : injB [] Lc = true)
    (hK : K (V.tup [A.c (.sl nx l.length), A.c (C.i Er)]) (⟨nx, .vec t 1, famS ln B l⟩ :: (famE kd cs B l ++ L)) (B + 20)) : CallM P n0 f vs' L nx K :=
  CallK.m (CallK.rows (d := d) B hB hp hck hkd hkt hl spec hok hv hvw hL hLc (by rw [appK_eq]; exact hK))
end
/-- The hours at which the jobs of each beach are done, of the first jobs of an order. -/
def doneL (j : Coast) (o : List Int) : Nat → List (List Int)
  | 0 => List.replicate j.length []
  | i + 1 => (doneL j o i).set (beachO o i) ((doneL j o i).getD (beachO o i) [] ++ [hourO j o (i + 1)])
abbrev rowE : Kd := .vec 3 1
end Go.Proofs.Ytjijjncddjkdlaa

/- Shore: Done. -/
namespace Go.Proofs.Ytjijjncddjkdlaa
open Go.RowKit
set_option linter.unusedVariables false
set_option linter.unusedSimpArgs false
end Go.Proofs.Ytjijjncddjkdlaa

/- Shore: Done with its errors; the reference's harm and Harm. -/
namespace Go.Proofs.Ytjijjncddjkdlaa
open Go.RowKit
set_option linter.unusedVariables false
set_option linter.unusedSimpArgs false
def ordE (j : Coast) (o : List Int) : Int := if validL j then (if isOrdB j o then 0 else 61) else 60
def doneR (j : Coast) (o : List Int) : List (List Int) := if ordE j o = 0 then doneL j o o.length else []
/-- The harm of a beach's jobs, by when they are done. -/
def hrmF (j : Coast) (rows : List (List Int)) (b : Nat) : Nat → Int := fun k => (rows.getD b []).getD k 0 * (jobA j b k).2
end Go.Proofs.Ytjijjncddjkdlaa

/- Shore: Turned. -/
namespace Go.Proofs.Ytjijjncddjkdlaa
open Go.RowKit
set_option linter.unusedVariables false
set_option linter.unusedSimpArgs false
/-- A tail whose cells name nothing. -/
def TailPl (T : List E) : Prop := ∀ e ∈ T, (∀ n, ∀ c ∈ e.cs, c.wf n) ∧ ∀ R, seqO (e.cs.map (C.ren R)) = some e.cs
def swapJ (x : Job) : Job := (x.2, x.1)
/-- The first m jobs of a beach from behind, with hours and harm exchanged. -/
def tpart (l : List Job) (m : Nat) : List Job := (l.reverse.take m).map swapJ
/-- The turned beaches, of the first k. -/
def turnL (j : Coast) (k : Nat) : List (List Job) := (List.range j.length).map fun i => if i < k then tpart (j.getD i []) (j.getD i []).length else []
/-- The jobs turned round. -/
def turnJ (j : Coast) : Coast := turnL j j.length
def harmful (j : Coast) : Bool := j.all fun l => l.all fun x => decide (x.2 ≠ 0)
def turnE (j : Coast) : Int := if validL j then (if harmful j then 0 else 5) else 60
def turnR (j : Coast) : Coast := if turnE j = 0 then turnJ j else []
abbrev rowJ : Kd := .vec 47 2
theorem chk_jobs (p : Nat → Bool) (l : List Job) : (jobC l).all (C.chk p) = true := List.all_eq_true.2 fun c hc => by
  simp only [jobC, List.mem_flatMap] at hc
  obtain ⟨j, _, hc⟩ := hc
  simp at hc
  rcases hc with rfl | rfl <;> rfl
end Go.Proofs.Ytjijjncddjkdlaa

