/- Texts of the proof, part 6: T4, J1, E1, E2, J2, J3, J4, M1, M2, M3, N6, N7, N8, N9, L0, L10, D1. -/
import Derived.Test.YtijnimgmpocmaaaDoorAA5
import Derived.WalkKit
import Derived.Below
import Derived.Lib.TrailingZeros
import Derived.Laws.OwnMore
import Derived.Maps.AppendAt
import Derived.Laws.IdiomCopy
import Derived.Laws.CopyRow
import Derived.IntWalk
import Derived.StillTail
import Derived.Scope
import Derived.ChangeKeysEq
import Derived.Laws.Small
import Derived.OrdersIn
import Derived.TacticsIn
import Derived.OwnWalkIn
import Derived.RangeFuncNested
import Derived.RangeFuncLeaves
import Derived.RangeFuncRecord
import Derived.Maps.Keyed
import Derived.Maps.RangeRun
import Derived.DeepKeys4
import Derived.Test.YtijnimgmpocmaaaDoorRows
import Derived.KernelRfl
import Derived.Shelf.Spec.TrailingZeros
import Derived.PlainAid
import Derived.StillTailTactics
import Derived.WalkSpells
import Derived.OwnWalk
import Derived.Deep.RegionLaw
import Derived.Lib.SliceRun
import Derived.Deep.OwnRows
import Derived.LoopTactic
import Derived.Lib.Hide
import Derived.ProofKit
import Derived.OpenShut
import Derived.Lib.SmallJoins
import Derived.Deep.Slices
import Derived.Deep.RegionHeld3
import Derived.LaidMore
import Derived.Stop.Joined
/- Waste: Without. -/
namespace Go.Proofs.YtijnimgmpocmaaaDoor
open Go.RowKit
set_option linter.unusedVariables false
set_option linter.unusedSimpArgs false
@[reducible] def kX (N : Int) (ps : List Cell) : V := V.agg [C.i N, C.sl 0 ps.length]
/-- The error of a pair. -/
def pairE (N : Int) (ps : List Cell) (z : Int) : Int := if okK' N ps then (if 0 ≤ z ∧ z ≤ (ps.length : Int) - 1 then 0 else 2) else 70
end Go.Proofs.YtijnimgmpocmaaaDoor

/- Waste: the kinds of a table. -/
namespace Go.Proofs.YtijnimgmpocmaaaDoor
open Go.RowKit
set_option linter.unusedVariables false
set_option linter.unusedSimpArgs false
/-- The pairs of a row, of its first k kinds. -/
def prI (s a k : Nat) : List (Nat × Nat) := (((bitsL s).take k).filter fun b => decide (a < b)).map fun b => (a, b)
def prK (t : List Nat) (a : Nat) : List (Nat × Nat) := (List.range a).flatMap fun i => prI (t.getD i 0) i (bitsL (t.getD i 0)).length
/-- Kinds whose pairs may be nil. -/
def optK (n : Int) (ps : List Cell) (v : V) (L' : List E) : Prop :=
  ∃ o : C, v = V.agg [C.i n, o] ∧ ((o = C.nil ∧ ps = []) ∨ ∃ lab, o = C.sl lab ps.length ∧ find L' lab = some ⟨lab, .vec 59 2, cellC ps⟩)
section
variable {P : Program} {n0 nx nac : Nat} {f : FuncId} {vs vs' : List V} {Lc L : List E} {R : Rn} {K : V → List E → Nat → Prop}
theorem CallK.optK {n : Int} {ps : List Cell} (spec : Spec P f vs Lc nac (fun v L' _ => optK n ps v L')) (hok : callB P f = true)
    (hv : renVs R vs = some vs') (hvw : ∀ v ∈ vs, v.wf nac) (hL : roL R nac L Lc) (hLc : injB [] Lc = true)
    (hK : K (V.agg [C.i n, .sl nx ps.length]) [⟨nx, .vec 59 2, cellC ps⟩] (nx + 1)) : CallK P n0 f vs' L nx K := by
  refine CallK.mk' hok spec hv hvw hL hLc ?_
  rintro v L' nx' hw ⟨o, rfl, ⟨rfl, rfl⟩ | ⟨lab, rfl, hf⟩⟩
  · refine ⟨V.agg [C.i n, .sl nx 0], [⟨nx, .vec 59 2, []⟩], nx + 1, [(nx, none)], ⟨Nat.le_succ _, ?_, ?_, ⟨covE_nil (renL_one _ _) (Nat.lt_succ_self nx) rfl rfl, trivial⟩, rfl, ?_⟩, hK⟩
    · simp [V.ren, A.ren, C.ren, renL_one, C.i, seqO]
    · simp [V.chk, A.chk, C.chk, inLab_one, C.i]
    · simp only [List.all_cons, List.all_nil, Bool.and_true, inLab_one, Kd.isRo, Bool.not_false]
  · refine ⟨V.agg [C.i n, .sl nx ps.length], [⟨nx, .vec 59 2, cellC ps⟩], nx + 1, [(nx, some lab)], ⟨Nat.le_succ _, ?_, ?_, ⟨covE_some (renL_one _ _) (Nat.lt_succ_self nx) (wf_cells _ _) hf (ren_cells _ _), trivial⟩, rfl, ?_⟩, hK⟩
    · simp [V.ren, A.ren, C.ren, renL_one, C.i, seqO]
    · simp [V.chk, A.chk, C.chk, inLab_one, C.i]
    · simp only [List.all_cons, List.all_nil, Bool.and_true, inLab_one, Kd.isRo, Bool.not_false, Bool.true_and]
      exact chk_cells _ _
end
theorem covE_c {R : Rn} {nx lab l : Nat} {L : List E} {us : List Cell} {kd : Kd} {cs' : List C} (hr : renL R lab = some l) (h1 : lab < nx) (h3 : find L l = some ⟨l, kd, cs'⟩) (h4 : cs' = cellC us) : covE R nx L ⟨lab, kd, cellC us⟩ := by
  subst h4; exact covE_some hr h1 (wf_cells _ _) h3 (ren_cells _ _)
end Go.Proofs.YtijnimgmpocmaaaDoor

/- Waste: the fewest skips. -/
namespace Go.Proofs.YtijnimgmpocmaaaDoor
open Go.RowKit
set_option linter.unusedVariables false
set_option linter.unusedSimpArgs false
def fewI (t : List Nat) (n : Nat) : Int := idxV (fnL (srtW t) (n + 1)) fun x => decide (x > 0)
end Go.Proofs.YtijnimgmpocmaaaDoor

/- Waste, plain: a pair less. -/
namespace Go.Proofs.YtijnimgmpocmaaaDoor
open Go.RowKit
set_option linter.unusedVariables false
set_option linter.unusedSimpArgs false
theorem Knd.erase {n : Nat} {qs : List (Nat × Nat)} (hk : Knd n qs) (i : Nat) : Knd n (qs.eraseIdx i) :=
  ⟨hk.rng, fun p hp => hk.ok p (List.mem_of_mem_eraseIdx hp), hk.nd.sublist (List.eraseIdx_sublist _ _)⟩
end Go.Proofs.YtijnimgmpocmaaaDoor

/- Waste: Joined. -/
namespace Go.Proofs.YtijnimgmpocmaaaDoor
open Go.RowKit
set_option linter.unusedVariables false
set_option linter.unusedSimpArgs false
def jn1 (u v : Nat) (t : List Nat) (p : Nat × Nat) : List Nat :=
  if nam u v p.1 = nam u v p.2 then t else (t.set (nam u v p.1) (t.getD (nam u v p.1) 0 ||| 2 ^ nam u v p.2)).set (nam u v p.2) (t.getD (nam u v p.2) 0 ||| 2 ^ nam u v p.1)
def jnK (n u v : Nat) (qs : List (Nat × Nat)) : Nat → List Nat
  | 0 => List.replicate (n - 1) 0
  | k + 1 => jn1 u v (jnK n u v qs k) (qs.getD k (0, 0))
/-- The pairs of the joined kinds. -/
def jnQ (n : Nat) (qs : List (Nat × Nat)) (i : Nat) : List (Nat × Nat) := prK (jnK n (qs.getD i (0, 0)).1 (qs.getD i (0, 0)).2 qs qs.length) (n - 1)
def rowA (t z m : Nat) (N : Int) (cs : List C) (v : V) (L' : List E) : Prop := ∃ lab, v = V.tup [A.agg [C.i N, .sl lab m], A.c (C.i 0)] ∧ find L' lab = some ⟨lab, .vec t z, cs⟩
section
variable {P : Program} {n0 nx nac : Nat} {f : FuncId} {vs vs' : List V} {Lc L : List E} {R : Rn} {K : V → List E → Nat → Prop}
theorem CallK.rowA {t z m : Nat} {N : Int} {cs : List C} (hfl : FlatC cs) (spec : Spec P f vs Lc nac (fun v L' _ => rowA t z m N cs v L')) (hok : callB P f = true)
    (hv : renVs R vs = some vs') (hvw : ∀ v ∈ vs, v.wf nac) (hL : roL R nac L Lc) (hLc : injB [] Lc = true)
    (hK : K (V.tup [A.agg [C.i N, .sl nx m], A.c (C.i 0)]) [⟨nx, .vec t z, cs⟩] (nx + 1)) : CallK P n0 f vs' L nx K := by
  refine CallK.mk' hok spec hv hvw hL hLc ?_
  rintro v L' nx' hw ⟨lab, rfl, hf⟩
  refine ⟨V.tup [A.agg [C.i N, .sl nx m], A.c (C.i 0)], [⟨nx, .vec t z, cs⟩], nx + 1, [(nx, some lab)], ⟨Nat.le_succ _, ?_, ?_, ⟨covE_some (renL_one _ _) (Nat.lt_succ_self nx) (hfl.wf _) hf (hfl.ren _), trivial⟩, rfl, ?_⟩, hK⟩
  · simp [V.ren, A.ren, C.ren, renL_one, C.i, seqO]
  · simp [V.chk, A.chk, C.chk, inLab_one, C.i]
  · simp only [List.all_cons, List.all_nil, Bool.and_true, inLab_one, Kd.isRo, Bool.not_false, Bool.true_and]
    exact hfl.chk _
end
end Go.Proofs.YtijnimgmpocmaaaDoor

/- Waste, plain: the joined kinds. -/
namespace Go.Proofs.YtijnimgmpocmaaaDoor
open Go.RowKit
set_option linter.unusedVariables false
set_option linter.unusedSimpArgs false
section
variable {n : Nat} {qs : List (Nat × Nat)} {i : Nat}
end
end Go.Proofs.YtijnimgmpocmaaaDoor

/- Waste: light. -/
namespace Go.Proofs.YtijnimgmpocmaaaDoor
open Go.RowKit
set_option linter.unusedVariables false
set_option linter.unusedSimpArgs false
end Go.Proofs.YtijnimgmpocmaaaDoor

/- Waste: the document's pairs left out, and whether kinds are the same. -/
namespace Go.Proofs.YtijnimgmpocmaaaDoor
open Go.RowKit
set_option linter.unusedVariables false
set_option linter.unusedSimpArgs false
/-- What has come behind some pairs. -/
def erK (ps : List Cell) (i k : Nat) : List Cell := (ps.take k).eraseIdx i
end Go.Proofs.YtijnimgmpocmaaaDoor

/- Waste: the kinds of which the others clash. -/
namespace Go.Proofs.YtijnimgmpocmaaaDoor
open Go.RowKit
set_option linter.unusedVariables false
set_option linter.unusedSimpArgs false
def otF (t : List Nat) (n a : Nat) : Nat := dif (2 ^ n - 1) (t.getD a 0 ||| 2 ^ a)
def otK (t : List Nat) (n k : Nat) : List Nat := (List.range k).map (otF t n)
theorem otK_succ (t : List Nat) (n k : Nat) : otK t n (k + 1) = otK t n k ++ [otF t n k] := by simp [otK, List.range_succ]
theorem otK_len (t : List Nat) (n k : Nat) : (otK t n k).length = k := by simp [otK]
theorem dif_lt8 {x y n : Nat} (h : x < 2 ^ n) : dif x y < 2 ^ n := by
  unfold dif; exact Nat.xor_lt_two_pow h (Nat.lt_of_le_of_lt Nat.and_le_left h)
theorem otK_lt {t : List Nat} {n k : Nat} (hn : n ≤ 8) : ∀ x ∈ otK t n k, x < 256 := fun x hx => by
  obtain ⟨a, _, rfl⟩ := List.mem_map.1 hx
  have h1 := pow_8 hn
  have h0 := Nat.two_pow_pos n
  have := dif_lt8 (x := 2 ^ n - 1) (y := t.getD a 0 ||| 2 ^ a) (n := n) (by omega)
  unfold otF; omega
set_option maxRecDepth 10000 in
set_option maxHeartbeats 4000000 in
theorem other_spec (t : List Nat) (n : Nat) (htl : t.length = n) (hn : n ≤ 8) (ht : ∀ x ∈ t, x < 256) : Spec Tryd.prog 76 [V.c (.sl 0 n)] [⟨0, .ro 0, t.map C.u⟩] 1 (fun v L' _ => ∃ lab, v = V.c (.sl lab n) ∧ find L' lab = some ⟨lab, .vec 75 1, (otK t n n).map C.u⟩) := by
  have hev := every_spec n 0 hn
  have h8 := pow_8 hn
  have h0 := Nat.two_pow_pos n
  have htm : (t.map C.u).length = n := by rw [List.length_map, htl]
  refine Spec.of tok Tryd.func76 rfl rfl rfl fun n0 cx => vc_ok tok ?_
  repeat ((conv => whnf); first | refine fun (K' : K3) hK' => ?_ | (refine hK' _ _ _ ?_; clear hK' K'))
  refine Tri.loop (γ := Nat) (fun k => k ≤ n) (fun k => [(0, V.c (.sl 0 n)), (3, V.c (.sl 1 k)), (6, V.c (.sl 0 n)), (7, V.i n), (8, V.i (k : Nat))])
    (fun k => [⟨1, .vec 75 1, (otK t n k).map C.u⟩, ⟨0, .ro 0, t.map C.u⟩]) 2 (fun k => n - k) 0 (R0 := [(1, none)]) ?_ ?_ ?_
  · omega
  · skip
    refine ⟨?_, ?_, rfl, rfl, by exact Nat.le_of_ble_eq_true rfl⟩
    · repeat (first | exact trivial | (refine And.intro (covS_syn (by rfl) rfl (by first | exact trivial | exact Nat.le_of_ble_eq_true rfl)) ?_))
    · repeat (first | exact trivial | refine And.intro (covE_u rfl (Nat.le_of_ble_eq_true rfl) rfl rfl) ?_ | refine And.intro (covE_nil rfl (Nat.le_of_ble_eq_true rfl) rfl rfl) ?_)
  · intro k hk
    refine vc_ok tok ?_
    by_cases hlt : k < n
    · have hld : (t.map C.u)[mulS ((k : Nat) : Int).toNat 1]? = some (C.u (t.getD k 0)) := uLz rfl (by omega)
      have hsucc := otK_succ t n k
      have ha := getD_lt (by omega) ht k
      have hw := with_spec (t.getD k 0) k ha (by omega)
      have hpk := pow_256 (show k < 8 by omega)
      have hof : otF t n k = dif (2 ^ n - 1) (t.getD k 0 ||| 2 ^ k) := rfl
      obtain ⟨M, hM⟩ : ∃ M, M = 2 ^ n - 1 := ⟨_, rfl⟩
      obtain ⟨u, hu⟩ : ∃ u, u = t.getD k 0 ||| 2 ^ k := ⟨_, rfl⟩
      have hu256 : u < 256 := by rw [hu]; exact or_256 ha hpk
      rw [← hM, ← hu] at hof
      rw [← hM] at hev
      rw [← hu] at hw
      have hbt := bit_andNot (x := M) (y := u) (by omega) (by omega)
      have hkl := otK_len t n k
      obtain ⟨o, ho⟩ : ∃ o, o = otK t n k := ⟨_, rfl⟩
      rw [← ho] at hsucc hkl ⊢
      have hol : (o.map C.u).length = k := by rw [List.length_map, hkl]
      have happ : o.map C.u ++ [C.int .u64 (bitI .andNot .u64 (M : Int) (u : Int))] = (otK t n (k + 1)).map C.u := by rw [hbt, ← hof, hsucc]; simp
      repeat ((conv => whnf); first | (refine And.intro (by first | omega | (dsimp only [inK]; omega) | (exact ⟨rfl, rfl, rfl, Nat.le_of_ble_eq_true rfl, by dsimp only; omega, by exact Nat.le_of_ble_eq_true rfl, by omega, Nat.le_of_ble_eq_true rfl⟩)) ?_) | with_reducible refine ld (hld) ?_ | refine br_t (by omega) ?_ | refine fun (K' : K3) hK' => ?_ | (refine hK' _ _ _ ?_; clear hK' K') | refine CallK.val (R := []) hev (by kernel_rfl) rfl (by simp [V.wf, A.wf, C.wf]) trivial rfl rfl trivial ?_ | refine CallK.val (R := []) hw (by kernel_rfl) rfl (by simp [V.wf, A.wf, C.wf, V.i]) trivial rfl rfl trivial ?_ | refine CallK.m ?_)
      refine ⟨k + 1, [(1, some 3)], by omega, by omega, ?_⟩
      refine ⟨?_, ?_, rfl, rfl, by exact Nat.le_of_ble_eq_true rfl⟩
      · repeat (first | exact trivial | (refine And.intro (covS_syn (by rfl) rfl (by first | exact trivial | exact Nat.le_of_ble_eq_true rfl)) ?_))
      · repeat (first | exact trivial | refine And.intro (covE_u rfl (Nat.le_of_ble_eq_true rfl) rfl happ) ?_ | refine And.intro (covE_u rfl (Nat.le_of_ble_eq_true rfl) rfl rfl) ?_)
    · obtain rfl : k = n := by omega
      repeat ((conv => whnf); first | refine Exists.intro _ (And.intro rfl ?_) | refine br_f (by omega) ?_ | refine fun (K' : K3) hK' => ?_ | (refine hK' _ _ _ ?_; clear hK' K'))
      exact rfl
def otQ (n : Nat) (qs : List (Nat × Nat)) : List (Nat × Nat) := prK (otK (tabS n qs) n n) n
end Go.Proofs.YtijnimgmpocmaaaDoor

/- Waste: the document's kinds of which the others clash. -/
namespace Go.Proofs.YtijnimgmpocmaaaDoor
open Go.RowKit
set_option linter.unusedVariables false
set_option linter.unusedSimpArgs false
/-- Pairs in ascending order. -/
def plB (f : Nat → Nat → Bool) (a b : Nat) : List (Nat × Nat) := ((List.range b).filter fun b => decide (a < b) && f a b).map fun b => (a, b)
def plA (f : Nat → Nat → Bool) (n a : Nat) : List (Nat × Nat) := (List.range a).flatMap fun a => plB f a n
theorem range_cut {p : Nat → Bool} {n : Nat} (h : ∀ b, n ≤ b → p b = false) : ∀ {m : Nat}, n ≤ m → (List.range m).filter p = (List.range n).filter p
  | 0, hm => by obtain rfl : n = 0 := by omega
                rfl
  | m + 1, hm => by
    rcases Nat.lt_or_ge m n with h1 | h1
    · obtain rfl : n = m + 1 := by omega
      rfl
    · rw [List.range_succ, List.filter_append, range_cut h h1, List.filter_cons, h m h1]; simp
end Go.Proofs.YtijnimgmpocmaaaDoor

/- Waste: the kinds of a set as a list, lists compared. -/
namespace Go.Proofs.YtijnimgmpocmaaaDoor
open Go.RowKit
set_option linter.unusedVariables false
set_option linter.unusedSimpArgs false
set_option maxRecDepth 10000 in
set_option maxHeartbeats 4000000 in
theorem appendSeq_spec (s : Nat) (hs8 : s < 256) : Spec Tryd.prog 116 [V.c .nil, V.c (.fn 100 [(0, 0)])] [⟨0, .ro 0, [C.u s]⟩] 1
    (fun v L' _ => ∃ lab, v = V.c (.sl lab (bitsL s).length) ∧ find L' lab = some ⟨lab, .vec 3 1, (natI (bitsL s)).map C.i⟩) := by
  have hbl := bitsL_len s
  refine Spec.of tok Tryd.func116 rfl rfl rfl fun n0 cx => vc_ok tok ?_
  repeat ((conv => whnf); first | refine fun (K' : K3) hK' => ?_ | (refine hK' _ _ _ ?_; clear hK' K'))
  refine Tri.opq fun K' hK' => ?_
  refine Tri.rangeFunc tok (by exact rfl) (by kernel_rfl) (by exact rfl) (by exact rfl) (by exact rfl) (by exact rfl) (by exact rfl) (by exact rfl) ?_
  intro y cxi oo ob od hy hY
  refine vc_ok tok ?_
  repeat ((conv => whnf); first | refine Exists.intro _ (And.intro rfl ?_) | refine fun (K' : K3) hK' => ?_ | (refine hK' _ _ _ ?_; clear hK' K'))
  refine Tri.loop (γ := Nat) (fun k => k ≤ (bitsL s).length) (fun k => [(0, V.c (.v y)), (1, V.c (.ptr 0 0)), (3, V.u (rs s k))])
    (fun k => [⟨20, .vec 3 1, (natI ((bitsL s).take k)).map C.i⟩, ⟨2, .obj oo, []⟩, ⟨1, .own 25, [.sl 20 k]⟩, ⟨0, .ro 0, [C.u s]⟩]) 21 (fun k => (bitsL s).length - k) 0 (R0 := [(20, none)]) ?_ ?_ ?_
  · omega
  · skip
    refine ⟨?_, ?_, rfl, rfl, by exact Nat.le_of_ble_eq_true rfl⟩
    · repeat (first | exact trivial | (refine And.intro (covS_syn (by rfl) rfl (by first | exact trivial | exact Nat.le_of_ble_eq_true rfl | exact hy)) ?_))
    · repeat (first | exact trivial | refine And.intro (covE_u (us := [s]) rfl (Nat.le_of_ble_eq_true rfl) rfl rfl) ?_ | refine And.intro ⟨Nat.le_of_ble_eq_true rfl, by simp [C.wf], _, _, rfl, .inl rfl, fun ρ => rfl⟩ ?_ | refine And.intro (covE_nil rfl (Nat.le_of_ble_eq_true rfl) rfl rfl) ?_)
  · intro k hk
    refine vc_ok tok ?_
    obtain ⟨f1, f2, f3⟩ := all_fact s hs8 k (by omega)
    by_cases hkl : k < (bitsL s).length
    · obtain ⟨f4, f5⟩ := f2 hkl
      have hrs : rs s (k + 1) = rs s k &&& (rs s k - 1) := rfl
      have e : (bitsL s)[k]?.toList = [(bitsL s).getD k 0] := by rw [List.getD_eq_getElem?_getD, List.getElem?_eq_getElem hkl]; rfl
      have htk : (bitsL s).take (k + 1) = (bitsL s).take k ++ [(bitsL s).getD k 0] := by rw [List.take_add_one, e]
      have htl : ((bitsL s).take k).length = k := by rw [List.length_take]; omega
      obtain ⟨c, hc⟩ : ∃ c, c = (bitsL s).getD k 0 := ⟨_, rfl⟩
      obtain ⟨r, hr⟩ : ∃ r, r = rs s k := ⟨_, rfl⟩
      rw [← hc] at f5 htk
      rw [← hr] at f1 f4 f5 hrs ⊢
      obtain ⟨w1, hw1⟩ : ∃ w1, w1 = (bitsL s).take k := ⟨_, rfl⟩
      rw [← hw1] at htk htl ⊢
      have hne : (r : Int) ≠ 0 := by omega
      have hde := and_dec f1 f4
      rw [← hrs] at hde
      have htz := fun {n0 nx : Nat} {L : List E} {K : V → List E → Nat → Prop} => tz_k (n0 := n0) (nx := nx) (L := L) (K := K) f4 f1
      rw [f5] at htz
      have happ := natI_app w1 c
      have hnl1 : ((natI w1).map C.i).length = k := by rw [List.length_map, natI_len, htl]
      repeat ((conv => whnf); first | refine br_t (by omega) ?_ | refine fun (K' : K3) hK' => ?_ | (refine hK' _ _ _ ?_; clear hK' K') | refine htz ?_ | refine CallK.m ?_)
      refine hY _ _ _ _ (Nat.le_of_ble_eq_true rfl) rfl ⟨rfl, trivial⟩ ?_
      intro cxb hcx
      refine vc_ok tok ?_
      repeat ((conv => whnf); first | refine fun (K' : K3) hK' => ?_ | (refine hK' _ _ _ ?_; clear hK' K') | refine And.intro (Eq.refl oo) ?_)
      refine vc_ok tok ?_
      repeat ((conv => whnf); first | (refine And.intro (by first | omega | exact Nat.le_of_ble_eq_true rfl | (dsimp only [inK]; omega) | (exact ⟨rfl, rfl, rfl, Nat.le_of_ble_eq_true rfl, by dsimp only; omega, by exact Nat.le_of_ble_eq_true rfl, by omega, Nat.le_of_ble_eq_true rfl⟩)) ?_) | refine Exists.intro _ (And.intro rfl ?_) | refine fun (K' : K3) hK' => ?_ | (refine hK' _ _ _ ?_; clear hK' K') | refine And.intro (Eq.refl ob) ?_)
      refine ⟨k + 1, [(20, some 22)], by omega, by omega, ?_⟩
      rw [htk]
      refine ⟨?_, ?_, rfl, rfl, by exact Nat.le_of_ble_eq_true rfl⟩
      · repeat (first | exact trivial | (refine And.intro (covS_syn (by first | rfl | exact congrArg (fun z => some (V.c (C.int .u64 z))) hde) rfl (by first | exact trivial | exact Nat.le_of_ble_eq_true rfl | exact hy)) ?_))
      · repeat (first | exact trivial | refine And.intro (covE_i rfl (Nat.le_of_ble_eq_true rfl) rfl happ) ?_ | refine And.intro (covE_u (us := [s]) rfl (Nat.le_of_ble_eq_true rfl) rfl rfl) ?_ | refine And.intro (covE_some rfl (Nat.le_of_ble_eq_true rfl) (by first | exact wf_us _ _ | exact wf_cells _ _ | (simp [C.wf]; done)) rfl (by rfl)) ?_)
    · have f6 := f3 (by omega)
      obtain rfl : k = (bitsL s).length := by omega
      rw [f6, List.take_length]
      repeat ((conv => whnf); first | refine br_f (by omega) ?_ | refine fun (K' : K3) hK' => ?_ | (refine hK' _ _ _ ?_; clear hK' K') | refine Or.inl ?_ | refine And.intro (Eq.refl oo) ?_)
      refine hK' _ _ _ _ ?_
      repeat ((conv => whnf); first | refine Exists.intro _ (And.intro rfl ?_) | refine fun (K' : K3) hK' => ?_ | (refine hK' _ _ _ ?_; clear hK' K'))
      exact rfl
theorem flat_u1 (x : Nat) : FlatC [C.u x] := fun c hc => ⟨_, _, List.mem_singleton.1 hc⟩
theorem collect_spec (s : Nat) (hs8 : s < 256) : Spec Tryd.prog 102 [V.c (.fn 100 [(0, 0)])] [⟨0, .ro 0, [C.u s]⟩] 1
    (fun v L' _ => ∃ lab, v = V.c (.sl lab (bitsL s).length) ∧ find L' lab = some ⟨lab, .vec 3 1, (natI (bitsL s)).map C.i⟩) := by
  have h := appendSeq_spec s hs8
  refine Spec.of tok Tryd.func102 rfl rfl rfl fun n0 cx => vc_ok tok ?_
  repeat ((conv => whnf); first | refine Exists.intro _ (And.intro rfl ?_) | refine fun (K' : K3) hK' => ?_ | (refine hK' _ _ _ ?_; clear hK' K') | refine CallK.rowF (R := []) (flat_i _) h (by kernel_rfl) rfl (by simp [V.wf, A.wf, C.wf]) ⟨roE_f (flat_u1 _) (l := 0) rfl (by omega) rfl (.inl rfl), trivial⟩ rfl ?_ | refine CallK.m ?_)
  exact rfl
/-- Lists compared. -/
def cmpR : List Nat → List Nat → Int
  | x :: a, y :: b => if x < y then -1 else if y < x then 1 else cmpR a b
  | _, _ => 0
def lexB : List Nat → List Nat → Bool
  | x :: a, y :: b => if x = y then lexB a b else decide (x < y)
  | _, _ => false
theorem cmpR_lt : ∀ (a b : List Nat), cmpR a b < 0 ↔ lexB a b = true
  | [], _ => by simp [cmpR, lexB]
  | _ :: _, [] => by simp [cmpR, lexB]
  | x :: a, y :: b => by
    have e1 : cmpR (x :: a) (y :: b) = if x < y then -1 else if y < x then 1 else cmpR a b := rfl
    have e2 : lexB (x :: a) (y :: b) = if x = y then lexB a b else decide (x < y) := rfl
    rw [e1, e2]
    by_cases h : x = y
    · subst h; rw [if_neg (by omega), if_neg (by omega), if_pos rfl]; exact cmpR_lt a b
    · rw [if_neg h, decide_eq_true_iff]
      by_cases h1 : x < y
      · rw [if_pos h1]; exact ⟨fun _ => h1, fun _ => by omega⟩
      · rw [if_neg h1, if_pos (by omega)]; exact ⟨fun h => by omega, fun h => absurd h h1⟩
theorem isNaN_spec (x : Int) : Spec Tryd.prog 120 [V.i x] [] 0 (Is (V.c (.bool false))) := by
  have h : ¬ x ≠ x := fun h => h rfl
  refine Spec.of tok Tryd.func120 rfl rfl rfl fun n0 cx => vc_ok tok ?_
  repeat ((conv => whnf); first | refine fun (K' : K3) hK' => ?_ | (refine hK' _ _ _ ?_; clear hK' K'))
  intro ρ; exact congrArg Value.bool (by simp)
def cmpI (x y : Int) : Int := if x < y then -1 else if x > y then 1 else 0
theorem cmp_spec (x y : Int) : Spec Tryd.prog 117 [V.i x, V.i y] [] 0 (Is (V.i (cmpI x y))) := by
  have h1 := isNaN_spec x
  have h2 := isNaN_spec y
  refine Spec.of tok Tryd.func117 rfl rfl rfl fun n0 cx => vc_ok tok ?_
  by_cases h3 : x < y
  · repeat ((conv => whnf); first | refine br_t (by omega) ?_ | refine fun (K' : K3) hK' => ?_ | (refine hK' _ _ _ ?_; clear hK' K') | (refine CallK.val (R := []) h1 (by kernel_rfl) rfl (by simp [V.wf, A.wf, C.wf, V.i]) trivial rfl rfl (by first | trivial | simp [V.wf, A.wf, C.wf]) ?_) | (refine CallK.val (R := []) h2 (by kernel_rfl) rfl (by simp [V.wf, A.wf, C.wf, V.i]) trivial rfl rfl (by first | trivial | simp [V.wf, A.wf, C.wf]) ?_) | refine br_bf (Eq.refl false) ?_ | refine CallK.m ?_)
    intro ρ; unfold cmpI; rw [if_pos h3]; rfl
  · by_cases h4 : x > y
    · repeat ((conv => whnf); first | refine br_t (by omega) ?_ | refine br_f (by omega) ?_ | refine fun (K' : K3) hK' => ?_ | (refine hK' _ _ _ ?_; clear hK' K') | (refine CallK.val (R := []) h1 (by kernel_rfl) rfl (by simp [V.wf, A.wf, C.wf, V.i]) trivial rfl rfl (by first | trivial | simp [V.wf, A.wf, C.wf]) ?_) | (refine CallK.val (R := []) h2 (by kernel_rfl) rfl (by simp [V.wf, A.wf, C.wf, V.i]) trivial rfl rfl (by first | trivial | simp [V.wf, A.wf, C.wf]) ?_) | refine br_bf (Eq.refl false) ?_ | refine CallK.m ?_)
      intro ρ; unfold cmpI; rw [if_neg h3, if_pos h4]; rfl
    · repeat ((conv => whnf); first | refine br_f (by omega) ?_ | refine fun (K' : K3) hK' => ?_ | (refine hK' _ _ _ ?_; clear hK' K') | (refine CallK.val (R := []) h1 (by kernel_rfl) rfl (by simp [V.wf, A.wf, C.wf, V.i]) trivial rfl rfl (by first | trivial | simp [V.wf, A.wf, C.wf]) ?_) | (refine CallK.val (R := []) h2 (by kernel_rfl) rfl (by simp [V.wf, A.wf, C.wf, V.i]) trivial rfl rfl (by first | trivial | simp [V.wf, A.wf, C.wf]) ?_) | refine br_bf (Eq.refl false) ?_ | refine CallK.m ?_)
      intro ρ; unfold cmpI; rw [if_neg h3, if_neg h4]; rfl
theorem natI_get {l : List Nat} {k : Nat} (h : k < l.length) : (natI l).getD k 0 = (l.getD k 0 : Nat) := by
  simp [natI, List.getD_eq_getElem?_getD, h]
theorem drop_getD {l : List Nat} {k : Nat} (h : k < l.length) : l.drop k = l.getD k 0 :: l.drop (k + 1) := by
  rw [List.drop_eq_getElem_cons h]; simp [List.getD_eq_getElem?_getD, h]
theorem cmpR_step {a b : List Nat} {k : Nat} (ha : k < a.length) (hb : k < b.length) : cmpR (a.drop k) (b.drop k) = if cmpI (a.getD k 0 : Nat) (b.getD k 0 : Nat) ≠ 0 then cmpI (a.getD k 0 : Nat) (b.getD k 0 : Nat) else cmpR (a.drop (k + 1)) (b.drop (k + 1)) := by
  rw [drop_getD ha, drop_getD hb]
  obtain ⟨x, hx⟩ : ∃ x, x = a.getD k 0 := ⟨_, rfl⟩
  obtain ⟨y, hy⟩ : ∃ y, y = b.getD k 0 := ⟨_, rfl⟩
  rw [← hx, ← hy]
  have e1 : cmpR (x :: a.drop (k + 1)) (y :: b.drop (k + 1)) = if x < y then -1 else if y < x then 1 else cmpR (a.drop (k + 1)) (b.drop (k + 1)) := rfl
  rw [e1]
  by_cases h1 : x < y
  · have e : cmpI (x : Nat) (y : Nat) = -1 := by unfold cmpI; rw [if_pos (by omega)]
    rw [e, if_pos h1, if_pos (by omega)]
  · rw [if_neg h1]
    by_cases h2 : y < x
    · have e : cmpI (x : Nat) (y : Nat) = 1 := by unfold cmpI; rw [if_neg (by omega), if_pos (by omega)]
      rw [e, if_pos h2, if_pos (by omega)]
    · have e : cmpI (x : Nat) (y : Nat) = 0 := by unfold cmpI; rw [if_neg (by omega), if_neg (by omega)]
      rw [e, if_neg h2, if_neg (by omega)]
set_option maxRecDepth 10000 in
set_option maxHeartbeats 4000000 in
theorem compare_spec (a b : List Nat) (hl : a.length = b.length) (hb : b.length ≤ 100) : Spec Tryd.prog 103 [V.c (.sl 0 a.length), V.c (.sl 1 b.length)] [⟨0, .ro 0, (natI a).map C.i⟩, ⟨1, .ro 0, (natI b).map C.i⟩] 2 (Is (V.i (cmpR a b))) := by
  have hal : ((natI a).map C.i).length = a.length := by rw [List.length_map, natI_len]
  have hbl : ((natI b).map C.i).length = b.length := by rw [List.length_map, natI_len]
  refine Spec.of tok Tryd.func103 rfl rfl rfl fun n0 cx => vc_ok tok ?_
  repeat ((conv => whnf); first | refine fun (K' : K3) hK' => ?_ | (refine hK' _ _ _ ?_; clear hK' K'))
  refine Tri.loop (γ := Nat) (fun k => k ≤ a.length ∧ cmpR (a.drop k) (b.drop k) = cmpR a b) (fun k => [(0, V.c (.sl 0 a.length)), (1, V.c (.sl 1 b.length)), (9, V.c (.sl 0 a.length)), (10, V.i a.length), (11, V.i (k : Nat))])
    (fun k => [⟨0, .ro 0, (natI a).map C.i⟩, ⟨1, .ro 0, (natI b).map C.i⟩]) 2 (fun k => a.length - k) 0 (R0 := []) ?_ ?_ ?_
  · exact ⟨Nat.zero_le _, rfl⟩
  · skip
    refine ⟨?_, ?_, rfl, rfl, by exact Nat.le_of_ble_eq_true rfl⟩
    · repeat (first | exact trivial | (refine And.intro (covS_syn (by rfl) rfl (by first | exact trivial | exact Nat.le_of_ble_eq_true rfl)) ?_))
    · repeat (first | exact trivial | refine And.intro (covE_id (Nat.le_of_ble_eq_true rfl) (by exact wf_ints _ _) rfl (by rfl)) ?_)
  · rintro k ⟨hk, hc⟩
    refine vc_ok tok ?_
    by_cases hlt : k < a.length
    · have hlb : k < b.length := by omega
      have hla := intLz (l := natI a) (k := k) (z := (k : Nat)) rfl (by rw [natI_len]; exact hlt)
      rw [natI_get hlt] at hla
      have hlb' := intLz (l := natI b) (k := k) (z := (k : Nat)) rfl (by rw [natI_len]; exact hlb)
      rw [natI_get hlb] at hlb'
      have hst := cmpR_step hlt hlb
      obtain ⟨x, hx⟩ : ∃ x : Int, x = (a.getD k 0 : Nat) := ⟨_, rfl⟩
      obtain ⟨y, hy⟩ : ∃ y : Int, y = (b.getD k 0 : Nat) := ⟨_, rfl⟩
      rw [← hx] at hla hst
      rw [← hy] at hlb' hst
      have hcp := cmp_spec x y
      have hge : ¬ ((k : Nat) : Int) ≥ (b.length : Nat) := by omega
      obtain ⟨z, hz⟩ : ∃ z, z = cmpI x y := ⟨_, rfl⟩
      rw [← hz] at hcp hst
      by_cases hz0 : z ≠ 0
      · rw [if_pos hz0, hc] at hst
        repeat ((conv => whnf); first | (refine And.intro (by first | omega | (dsimp only [inK]; omega)) ?_) | with_reducible refine ld (hla) ?_ | with_reducible refine ld (hlb') ?_ | refine br_t (by omega) ?_ | refine br_f (by omega) ?_ | refine fun (K' : K3) hK' => ?_ | (refine hK' _ _ _ ?_; clear hK' K') | (refine CallK.val (R := []) hcp (by kernel_rfl) rfl (by simp [V.wf, A.wf, C.wf, V.i]) trivial rfl rfl (by first | trivial | simp [V.wf, A.wf, C.wf]) ?_) | refine CallK.m ?_)
        intro ρ; rw [hst]; rfl
      · rw [if_neg hz0, hc] at hst
        repeat ((conv => whnf); first | (refine And.intro (by first | omega | (dsimp only [inK]; omega)) ?_) | with_reducible refine ld (hla) ?_ | with_reducible refine ld (hlb') ?_ | refine br_t (by omega) ?_ | refine br_f (by omega) ?_ | refine fun (K' : K3) hK' => ?_ | (refine hK' _ _ _ ?_; clear hK' K') | (refine CallK.val (R := []) hcp (by kernel_rfl) rfl (by simp [V.wf, A.wf, C.wf, V.i]) trivial rfl rfl (by first | trivial | simp [V.wf, A.wf, C.wf]) ?_) | refine CallK.m ?_)
        refine ⟨k + 1, [], ⟨by omega, hst.symm⟩, by omega, ?_⟩
        refine ⟨?_, ?_, rfl, rfl, by exact Nat.le_of_ble_eq_true rfl⟩
        · repeat (first | exact trivial | (refine And.intro (covS_syn (by rfl) rfl (by first | exact trivial | exact Nat.le_of_ble_eq_true rfl)) ?_))
        · repeat (first | exact trivial | refine And.intro (covE_id (Nat.le_of_ble_eq_true rfl) (by exact wf_ints _ _) rfl (by rfl)) ?_)
    · obtain rfl : k = a.length := by omega
      have h0 : cmpR a b = 0 := by
        rw [← hc, List.drop_length]; rfl
      have hnl : ¬ ((a.length : Nat) : Int) < (b.length : Nat) := by omega
      repeat ((conv => whnf); first | refine br_f (by omega) ?_ | refine fun (K' : K3) hK' => ?_ | (refine hK' _ _ _ ?_; clear hK' K'))
      intro ρ; rw [h0]; rfl
theorem lexB_step {a b : List Nat} {k : Nat} (ha : k < a.length) (hb : k < b.length) : lexB (a.drop k) (b.drop k) = if a.getD k 0 = b.getD k 0 then lexB (a.drop (k + 1)) (b.drop (k + 1)) else decide (a.getD k 0 < b.getD k 0) := by
  rw [drop_getD ha, drop_getD hb]; rfl
set_option maxRecDepth 10000 in
set_option maxHeartbeats 4000000 in
theorem before_spec (a b : List Nat) (hl : a.length = b.length) (hb : b.length ≤ 100) : Spec Tryd.prog 104 [V.c (.sl 0 a.length), V.c (.sl 1 b.length)] [⟨0, .ro 0, (natI a).map C.i⟩, ⟨1, .ro 0, (natI b).map C.i⟩] 2 (Is (V.c (.bool (lexB a b)))) := by
  have hal : ((natI a).map C.i).length = a.length := by rw [List.length_map, natI_len]
  have hbl : ((natI b).map C.i).length = b.length := by rw [List.length_map, natI_len]
  refine Spec.of tok Tryd.func104 rfl rfl rfl fun n0 cx => vc_ok tok ?_
  repeat ((conv => whnf); first | refine fun (K' : K3) hK' => ?_ | (refine hK' _ _ _ ?_; clear hK' K'))
  refine Tri.loop (γ := Nat) (fun k => k ≤ a.length ∧ lexB (a.drop k) (b.drop k) = lexB a b) (fun k => [(0, V.c (.sl 0 a.length)), (1, V.c (.sl 1 b.length)), (7, V.i a.length), (8, V.i (k : Nat))])
    (fun k => [⟨0, .ro 0, (natI a).map C.i⟩, ⟨1, .ro 0, (natI b).map C.i⟩]) 2 (fun k => a.length - k) 0 (R0 := []) ?_ ?_ ?_
  · exact ⟨Nat.zero_le _, rfl⟩
  · skip
    refine ⟨?_, ?_, rfl, rfl, by exact Nat.le_of_ble_eq_true rfl⟩
    · repeat (first | exact trivial | (refine And.intro (covS_syn (by rfl) rfl (by first | exact trivial | exact Nat.le_of_ble_eq_true rfl)) ?_))
    · repeat (first | exact trivial | refine And.intro (covE_id (Nat.le_of_ble_eq_true rfl) (by exact wf_ints _ _) rfl (by rfl)) ?_)
  · rintro k ⟨hk, hc⟩
    refine vc_ok tok ?_
    by_cases hlt : k < a.length
    · have hlb : k < b.length := by omega
      have hla := intLz (l := natI a) (k := k) (z := (k : Nat)) rfl (by rw [natI_len]; exact hlt)
      rw [natI_get hlt] at hla
      have hlb' := intLz (l := natI b) (k := k) (z := (k : Nat)) rfl (by rw [natI_len]; exact hlb)
      rw [natI_get hlb] at hlb'
      have hst := lexB_step hlt hlb
      obtain ⟨x, hx⟩ : ∃ x, x = a.getD k 0 := ⟨_, rfl⟩
      obtain ⟨y, hy⟩ : ∃ y, y = b.getD k 0 := ⟨_, rfl⟩
      rw [← hx] at hla hst
      rw [← hy] at hlb' hst
      by_cases hne : ((x : Nat) : Int) ≠ (y : Nat)
      · rw [if_neg (by omega), hc] at hst
        repeat ((conv => whnf); first | (refine And.intro (by first | omega | (dsimp only [inK]; omega)) ?_) | with_reducible refine ld (hla) ?_ | with_reducible refine ld (hlb') ?_ | refine br_t (by omega) ?_ | refine fun (K' : K3) hK' => ?_ | (refine hK' _ _ _ ?_; clear hK' K') | refine draw_auto tok mixed (by kernel_rfl) ?_)
        intro ρ; show Value.bool _ = Value.bool _
        rw [hst]; congr 1; rw [decide_eq_decide]; omega
      · rw [if_pos (by omega), hc] at hst
        repeat ((conv => whnf); first | (refine And.intro (by first | omega | (dsimp only [inK]; omega)) ?_) | with_reducible refine ld (hla) ?_ | with_reducible refine ld (hlb') ?_ | refine br_t (by omega) ?_ | refine br_f (by omega) ?_ | refine fun (K' : K3) hK' => ?_ | (refine hK' _ _ _ ?_; clear hK' K') | refine draw_auto tok mixed (by kernel_rfl) ?_)
        refine ⟨k + 1, [], ⟨by omega, hst.symm⟩, by omega, ?_⟩
        refine ⟨?_, ?_, rfl, rfl, by exact Nat.le_of_ble_eq_true rfl⟩
        · repeat (first | exact trivial | (refine And.intro (covS_syn (by rfl) rfl (by first | exact trivial | exact Nat.le_of_ble_eq_true rfl)) ?_))
        · repeat (first | exact trivial | refine And.intro (covE_id (Nat.le_of_ble_eq_true rfl) (by exact wf_ints _ _) rfl (by rfl)) ?_)
    · obtain rfl : k = a.length := by omega
      have h0 : lexB a b = false := by
        rw [← hc, List.drop_length]; rfl
      repeat ((conv => whnf); first | refine br_f (by omega) ?_ | refine fun (K' : K3) hK' => ?_ | (refine hK' _ _ _ ?_; clear hK' K'))
      intro ρ; rw [h0]; rfl
end Go.Proofs.YtijnimgmpocmaaaDoor

/- Waste: the longest list of kinds apart. -/
namespace Go.Proofs.YtijnimgmpocmaaaDoor
open Go.RowKit
set_option linter.unusedVariables false
set_option linter.unusedSimpArgs false
/-- The best set so far. -/
def stB (ok : Nat → Bool) (b s : Nat) : Nat := if ok s = true ∧ ((bitsL b).length < (bitsL s).length ∨ ((bitsL b).length = (bitsL s).length ∧ lexB (bitsL s) (bitsL b) = true)) then s else b
def bestK (ok : Nat → Bool) : Nat → Nat
  | 0 => 0
  | s + 1 => stB ok (bestK ok s) s
theorem bestK_congr {ok ok' : Nat → Bool} : ∀ {m}, (∀ s, s < m → ok s = ok' s) → bestK ok m = bestK ok' m
  | 0, _ => rfl
  | m + 1, h => by
    simp only [bestK]
    rw [bestK_congr (m := m) fun s hs => h s (by omega)]
    unfold stB
    rw [h m (by omega)]
theorem bestK_lt (ok : Nat → Bool) : ∀ {m}, 0 < m → bestK ok m < m
  | 1, _ => by simp [bestK, stB, bitsL, lexB]
  | m + 2, _ => by
    have := bestK_lt ok (m := m + 1) (by omega)
    show stB ok (bestK ok (m + 1)) (m + 1) < m + 2
    unfold stB
    split <;> omega
theorem bitsL_0 : bitsL 0 = [] := by decide
set_option maxRecDepth 10000 in
set_option maxHeartbeats 8000000 in
theorem longest_spec (t : List Nat) (n : Nat) (htl : t.length = n) (hn : n ≤ 8) (ht : ∀ x ∈ t, x < 256) : Spec Tryd.prog 79 [V.c (.sl 0 n)] [⟨0, .ro 0, t.map C.u⟩] 1
    (fun v L' _ => ∃ lab, v = V.c (.sl lab (bitsL (bestK (aptS t) (2 ^ n))).length) ∧ find L' lab = some ⟨lab, .vec 3 1, (natI (bitsL (bestK (aptS t) (2 ^ n)))).map C.i⟩) := by
  have hev := every_spec n 0 hn
  have h8 := pow_8 hn
  have hp0 : 0 < 2 ^ n := Nat.two_pow_pos n
  have hap : ∀ f, f < 2 ^ n → Spec Tryd.prog 95 [V.c (.sl 0 n), V.u f] [⟨0, .ro 0, t.map C.u⟩] 1 (Is (V.c (.bool (aptS t f)))) := fun f hf => apart_spec t n f htl hn ht hf
  obtain ⟨M, hM⟩ : ∃ M, 2 ^ n = M + 1 := ⟨2 ^ n - 1, by omega⟩
  rw [hM, Nat.add_sub_cancel] at hev
  rw [hM] at hap h8 ⊢
  refine Spec.of tok Tryd.func79 rfl rfl rfl fun n0 cx => vc_ok tok ?_
  repeat ((conv => whnf); first | refine fun (K' : K3) hK' => ?_ | (refine hK' _ _ _ ?_; clear hK' K'))
  refine Tri.loop (γ := Nat) (fun s => 1 ≤ s ∧ s ≤ M + 1) (fun s => [(0, V.c (.sl 0 n)), (3, V.c (.sl 1 (bitsL (bestK (aptS t) s)).length)), (4, V.u s)])
    (fun s => [⟨1, .vec 3 1, (natI (bitsL (bestK (aptS t) s))).map C.i⟩, ⟨0, .ro 0, t.map C.u⟩]) 2 (fun s => M + 1 - s) 1 (R0 := [(1, none)]) ?_ ?_ ?_
  · omega
  · have h1 : bestK (aptS t) 1 = 0 := by have := bestK_lt (aptS t) (m := 1) (by omega); omega
    rw [h1, bitsL_0]
    refine ⟨?_, ?_, rfl, rfl, by exact Nat.le_of_ble_eq_true rfl⟩
    · repeat (first | exact trivial | (refine And.intro (covS_syn (by rfl) rfl (by first | exact trivial | exact Nat.le_of_ble_eq_true rfl)) ?_))
    · repeat (first | exact trivial | refine And.intro (covE_u rfl (Nat.le_of_ble_eq_true rfl) rfl rfl) ?_ | refine And.intro (covE_nil rfl (Nat.le_of_ble_eq_true rfl) rfl rfl) ?_)
  · rintro s ⟨hs1, hs2⟩
    refine vc_ok tok ?_
    by_cases hlt : (s : Int) ≤ (M : Nat)
    · have hs256 : s < 256 := by omega
      have hst : bestK (aptS t) (s + 1) = stB (aptS t) (bestK (aptS t) s) s := rfl
      have hsz := size_spec s hs256
      have hap1 := hap s (by omega)
      have hco := collect_spec s hs256
      obtain ⟨b, hb⟩ : ∃ b, b = bestK (aptS t) s := ⟨_, rfl⟩
      rw [← hb] at hst ⊢
      have hbb := bitsL_len b
      have hbs := bitsL_len s
      unfold stB at hst
      by_cases h1 : (((bitsL s).length : Nat) : Int) < ((bitsL b).length : Nat)
      · rw [if_neg (by omega)] at hst
        repeat ((conv => whnf); first | (refine And.intro (by first | omega | (dsimp only [inK]; omega)) ?_) | refine br_t (by omega) ?_ | refine bs_t (by omega) ?_ | refine fun (K' : K3) hK' => ?_ | (refine hK' _ _ _ ?_; clear hK' K') | (refine CallK.val (R := []) hev (by kernel_rfl) rfl (by simp [V.wf, A.wf, C.wf, V.i]) trivial rfl rfl (by first | trivial | simp [V.wf, A.wf, C.wf]) ?_) | (refine CallK.val (R := []) hsz (by kernel_rfl) rfl (by simp [V.wf, A.wf, C.wf, V.i]) trivial rfl rfl (by first | trivial | simp [V.wf, A.wf, C.wf]) ?_) | refine CallK.m ?_)
        refine ⟨s + 1, [], by omega, by omega, ?_⟩
        rw [hst]
        refine ⟨?_, ?_, rfl, rfl, by exact Nat.le_of_ble_eq_true rfl⟩
        · repeat (first | exact trivial | (refine And.intro (covS_syn (by rfl) rfl (by first | exact trivial | exact Nat.le_of_ble_eq_true rfl)) ?_))
        · repeat (first | exact trivial | (refine And.intro (covE_id (Nat.le_of_ble_eq_true rfl) (by first | exact wf_ints _ _ | first | exact wf_us _ _ | exact wf_cells _ _ | (simp [C.wf]; done)) rfl (by rfl)) ?_))
      · cases ha : aptS t s with
        | false =>
          rw [ha] at hap1 hst
          rw [if_neg (by simp)] at hst
          repeat ((conv => whnf); first | (refine And.intro (by first | omega | (dsimp only [inK]; omega)) ?_) | refine br_t (by omega) ?_ | refine bs_f (by omega) ?_ | refine fun (K' : K3) hK' => ?_ | (refine hK' _ _ _ ?_; clear hK' K') | (refine CallK.val (R := []) hev (by kernel_rfl) rfl (by simp [V.wf, A.wf, C.wf, V.i]) trivial rfl rfl (by first | trivial | simp [V.wf, A.wf, C.wf]) ?_) | (refine CallK.val (R := []) hsz (by kernel_rfl) rfl (by simp [V.wf, A.wf, C.wf, V.i]) trivial rfl rfl (by first | trivial | simp [V.wf, A.wf, C.wf]) ?_) | (refine CallK.val (R := []) hap1 (by kernel_rfl) rfl (by simp [V.wf, A.wf, C.wf, V.i]) ⟨roE_f (flat_u _) (l := 0) rfl (by omega) rfl (.inl rfl), trivial⟩ rfl rfl (by first | trivial | simp [V.wf, A.wf, C.wf]) ?_) | refine br_bt (Eq.refl true) ?_ | refine CallK.m ?_)
          refine ⟨s + 1, [], by omega, by omega, ?_⟩
          rw [hst]
          refine ⟨?_, ?_, rfl, rfl, by exact Nat.le_of_ble_eq_true rfl⟩
          · repeat (first | exact trivial | (refine And.intro (covS_syn (by rfl) rfl (by first | exact trivial | exact Nat.le_of_ble_eq_true rfl)) ?_))
          · repeat (first | exact trivial | (refine And.intro (covE_id (Nat.le_of_ble_eq_true rfl) (by first | exact wf_ints _ _ | first | exact wf_us _ _ | exact wf_cells _ _ | (simp [C.wf]; done)) rfl (by rfl)) ?_))
        | true =>
          rw [ha] at hap1 hst
          by_cases h2 : (((bitsL s).length : Nat) : Int) > ((bitsL b).length : Nat)
          · rw [if_pos ⟨rfl, .inl (by omega)⟩] at hst
            repeat ((conv => whnf); first | (refine And.intro (by first | omega | (dsimp only [inK]; omega)) ?_) | refine br_t (by omega) ?_ | refine bs_t (by omega) ?_ | refine bs_f (by omega) ?_ | refine fun (K' : K3) hK' => ?_ | (refine hK' _ _ _ ?_; clear hK' K') | (refine CallK.val (R := []) hev (by kernel_rfl) rfl (by simp [V.wf, A.wf, C.wf, V.i]) trivial rfl rfl (by first | trivial | simp [V.wf, A.wf, C.wf]) ?_) | (refine CallK.val (R := []) hsz (by kernel_rfl) rfl (by simp [V.wf, A.wf, C.wf, V.i]) trivial rfl rfl (by first | trivial | simp [V.wf, A.wf, C.wf]) ?_) | (refine CallK.val (R := []) hap1 (by kernel_rfl) rfl (by simp [V.wf, A.wf, C.wf, V.i]) ⟨roE_f (flat_u _) (l := 0) rfl (by omega) rfl (.inl rfl), trivial⟩ rfl rfl (by first | trivial | simp [V.wf, A.wf, C.wf]) ?_) | refine CallK.fresh (by kernel_rfl) (all_spec _ _ _) rfl ?_ | refine CallK.rowF (R := [(0, some 2)]) (flat_i _) hco (by kernel_rfl) rfl (by simp [V.wf, A.wf, C.wf]) ⟨roE_f (flat_u1 _) (l := 2) rfl (by omega) rfl (.inl rfl), trivial⟩ rfl ?_ | refine br_bf (Eq.refl false) ?_ | refine CallK.m ?_)
            refine ⟨s + 1, [(1, some 3)], by omega, by omega, ?_⟩
            rw [hst]
            refine ⟨?_, ?_, rfl, rfl, by exact Nat.le_of_ble_eq_true rfl⟩
            · repeat (first | exact trivial | (refine And.intro (covS_syn (by rfl) rfl (by first | exact trivial | exact Nat.le_of_ble_eq_true rfl)) ?_))
            · repeat (first | exact trivial | refine And.intro (covE_i rfl (Nat.le_of_ble_eq_true rfl) rfl rfl) ?_ | refine And.intro (covE_u rfl (Nat.le_of_ble_eq_true rfl) rfl rfl) ?_)
          · have he : (bitsL s).length = (bitsL b).length := by omega
            have hcp := compare_spec (bitsL s) (bitsL b) he (by omega)
            have hcl := cmpR_lt (bitsL s) (bitsL b)
            obtain ⟨z, hz⟩ : ∃ z, z = cmpR (bitsL s) (bitsL b) := ⟨_, rfl⟩
            rw [← hz] at hcp hcl
            by_cases h3 : z < 0
            · rw [if_pos ⟨rfl, .inr ⟨he.symm, hcl.1 h3⟩⟩] at hst
              repeat ((conv => whnf); first | (refine And.intro (by first | omega | (dsimp only [inK]; omega)) ?_) | refine br_t (by omega) ?_ | refine bs_f (by omega) ?_ | refine fun (K' : K3) hK' => ?_ | (refine hK' _ _ _ ?_; clear hK' K') | (refine CallK.val (R := []) hev (by kernel_rfl) rfl (by simp [V.wf, A.wf, C.wf, V.i]) trivial rfl rfl (by first | trivial | simp [V.wf, A.wf, C.wf]) ?_) | (refine CallK.val (R := []) hsz (by kernel_rfl) rfl (by simp [V.wf, A.wf, C.wf, V.i]) trivial rfl rfl (by first | trivial | simp [V.wf, A.wf, C.wf]) ?_) | (refine CallK.val (R := []) hap1 (by kernel_rfl) rfl (by simp [V.wf, A.wf, C.wf, V.i]) ⟨roE_f (flat_u _) (l := 0) rfl (by omega) rfl (.inl rfl), trivial⟩ rfl rfl (by first | trivial | simp [V.wf, A.wf, C.wf]) ?_) | refine CallK.fresh (by kernel_rfl) (all_spec _ _ _) rfl ?_ | refine CallK.rowF (R := [(0, some 2)]) (flat_i _) hco (by kernel_rfl) rfl (by simp [V.wf, A.wf, C.wf]) ⟨roE_f (flat_u1 _) (l := 2) rfl (by omega) rfl (.inl rfl), trivial⟩ rfl ?_ | (refine CallK.val (R := [(0, some 3), (1, some 1)]) hcp (by kernel_rfl) rfl (by simp [V.wf, A.wf, C.wf, V.i]) ⟨roE_f (flat_i _) (l := 3) rfl (by omega) rfl (.inl rfl), roE_f (flat_i _) (l := 1) rfl (by omega) rfl (.inl rfl), trivial⟩ rfl rfl (by first | trivial | simp [V.wf, A.wf, C.wf]) ?_) | refine br_bf (Eq.refl false) ?_ | refine CallK.m ?_)
              refine ⟨s + 1, [(1, some 3)], by omega, by omega, ?_⟩
              rw [hst]
              refine ⟨?_, ?_, rfl, rfl, by exact Nat.le_of_ble_eq_true rfl⟩
              · repeat (first | exact trivial | (refine And.intro (covS_syn (by rfl) rfl (by first | exact trivial | exact Nat.le_of_ble_eq_true rfl)) ?_))
              · repeat (first | exact trivial | refine And.intro (covE_i rfl (Nat.le_of_ble_eq_true rfl) rfl rfl) ?_ | refine And.intro (covE_u rfl (Nat.le_of_ble_eq_true rfl) rfl rfl) ?_)
            · rw [if_neg (fun h => by rcases h.2 with h | h; omega; exact h3 (hcl.2 h.2))] at hst
              repeat ((conv => whnf); first | (refine And.intro (by first | omega | (dsimp only [inK]; omega)) ?_) | refine br_t (by omega) ?_ | refine br_f (by omega) ?_ | refine bs_f (by omega) ?_ | refine fun (K' : K3) hK' => ?_ | (refine hK' _ _ _ ?_; clear hK' K') | (refine CallK.val (R := []) hev (by kernel_rfl) rfl (by simp [V.wf, A.wf, C.wf, V.i]) trivial rfl rfl (by first | trivial | simp [V.wf, A.wf, C.wf]) ?_) | (refine CallK.val (R := []) hsz (by kernel_rfl) rfl (by simp [V.wf, A.wf, C.wf, V.i]) trivial rfl rfl (by first | trivial | simp [V.wf, A.wf, C.wf]) ?_) | (refine CallK.val (R := []) hap1 (by kernel_rfl) rfl (by simp [V.wf, A.wf, C.wf, V.i]) ⟨roE_f (flat_u _) (l := 0) rfl (by omega) rfl (.inl rfl), trivial⟩ rfl rfl (by first | trivial | simp [V.wf, A.wf, C.wf]) ?_) | refine CallK.fresh (by kernel_rfl) (all_spec _ _ _) rfl ?_ | refine CallK.rowF (R := [(0, some 2)]) (flat_i _) hco (by kernel_rfl) rfl (by simp [V.wf, A.wf, C.wf]) ⟨roE_f (flat_u1 _) (l := 2) rfl (by omega) rfl (.inl rfl), trivial⟩ rfl ?_ | (refine CallK.val (R := [(0, some 3), (1, some 1)]) hcp (by kernel_rfl) rfl (by simp [V.wf, A.wf, C.wf, V.i]) ⟨roE_f (flat_i _) (l := 3) rfl (by omega) rfl (.inl rfl), roE_f (flat_i _) (l := 1) rfl (by omega) rfl (.inl rfl), trivial⟩ rfl rfl (by first | trivial | simp [V.wf, A.wf, C.wf]) ?_) | refine br_bf (Eq.refl false) ?_ | refine CallK.m ?_)
              refine ⟨s + 1, [], by omega, by omega, ?_⟩
              rw [hst]
              refine ⟨?_, ?_, rfl, rfl, by exact Nat.le_of_ble_eq_true rfl⟩
              · repeat (first | exact trivial | (refine And.intro (covS_syn (by rfl) rfl (by first | exact trivial | exact Nat.le_of_ble_eq_true rfl)) ?_))
              · repeat (first | exact trivial | (refine And.intro (covE_id (Nat.le_of_ble_eq_true rfl) (by first | exact wf_ints _ _ | first | exact wf_us _ _ | exact wf_cells _ _ | (simp [C.wf]; done)) rfl (by rfl)) ?_))
    · obtain rfl : s = M + 1 := by omega
      repeat ((conv => whnf); first | refine Exists.intro _ (And.intro rfl ?_) | refine br_f (by omega) ?_ | refine fun (K' : K3) hK' => ?_ | (refine hK' _ _ _ ?_; clear hK' K') | (refine CallK.val (R := []) hev (by kernel_rfl) rfl (by simp [V.wf, A.wf, C.wf, V.i]) trivial rfl rfl (by first | trivial | simp [V.wf, A.wf, C.wf]) ?_) | refine CallK.m ?_)
      exact rfl
/-- The best sets of a table and of the other one. -/
def apaQ (n : Nat) (qs : List (Nat × Nat)) : Nat := bestK (aptS (tabS n qs)) (2 ^ n)
def allQ (n : Nat) (qs : List (Nat × Nat)) : Nat := bestK (aptS (otK (tabS n qs) n n)) (2 ^ n)
def rowI (l : List Nat) (v : V) (L' : List E) : Prop := ∃ lab, v = V.tup [A.c (.sl lab l.length), A.c (C.i 0)] ∧ find L' lab = some ⟨lab, .vec 3 1, (natI l).map C.i⟩
set_option maxRecDepth 10000 in
theorem Apart_spec (n : Nat) (qs : List (Nat × Nat)) (hk : Knd n qs) : Spec Tryd.prog 45 [V.agg [C.i n, C.sl 0 (castP qs).length]] [⟨0, .ro 2, cellC (castP qs)⟩] 1 (fun v L' _ => rowI (bitsL (apaQ n qs)) v L') := by
  have hnt := newTable_spec n qs hk
  have hlo := longest_spec (tabS n qs) n (tabS_len n qs) hk.rng.2 (tabS_256 hk)
  have hQ : bestK (aptS (tabS n qs)) (2 ^ n) = apaQ n qs := rfl
  rw [hQ] at hlo
  refine Spec.of tok Tryd.func45 rfl rfl rfl fun n0 cx => vc_ok tok ?_
  repeat ((conv => whnf); first | refine Exists.intro _ (And.intro rfl ?_) | refine br_f (by omega) ?_ | refine fun (K' : K3) hK' => ?_ | (refine hK' _ _ _ ?_; clear hK' K') | refine CallK.rowE (R := []) (flat_u _) hnt (by kernel_rfl) rfl (by simp [V.wf, A.wf, C.wf, V.i]) ⟨roE_f (flat_c _) (l := 0) rfl (by omega) rfl (.inr rfl), trivial⟩ rfl ?_ | refine CallK.rowF (R := [(0, some 2)]) (flat_i _) hlo (by kernel_rfl) rfl (by simp [V.wf, A.wf, C.wf, V.i]) ⟨roE_f (flat_u _) (l := 2) rfl (by omega) rfl (.inl rfl), trivial⟩ rfl ?_ | refine CallK.m ?_)
  exact rfl
set_option maxRecDepth 10000 in
theorem AllClash_spec (n : Nat) (qs : List (Nat × Nat)) (hk : Knd n qs) : Spec Tryd.prog 42 [V.agg [C.i n, C.sl 0 (castP qs).length]] [⟨0, .ro 2, cellC (castP qs)⟩] 1 (fun v L' _ => rowI (bitsL (allQ n qs)) v L') := by
  have hn := hk.rng
  have hnt := newTable_spec n qs hk
  have hot := other_spec (tabS n qs) n (tabS_len n qs) hn.2 (tabS_256 hk)
  have hlo := longest_spec (otK (tabS n qs) n n) n (otK_len _ _ _) hn.2 (otK_lt hn.2)
  have hQ : bestK (aptS (otK (tabS n qs) n n)) (2 ^ n) = allQ n qs := rfl
  rw [hQ] at hlo
  refine Spec.of tok Tryd.func42 rfl rfl rfl fun n0 cx => vc_ok tok ?_
  repeat ((conv => whnf); first | refine Exists.intro _ (And.intro rfl ?_) | refine br_f (by omega) ?_ | refine fun (K' : K3) hK' => ?_ | (refine hK' _ _ _ ?_; clear hK' K') | refine CallK.rowE (R := []) (flat_u _) hnt (by kernel_rfl) rfl (by simp [V.wf, A.wf, C.wf, V.i]) ⟨roE_f (flat_c _) (l := 0) rfl (by omega) rfl (.inr rfl), trivial⟩ rfl ?_ | refine CallK.rowF (R := [(0, some 2)]) (flat_u _) hot (by kernel_rfl) rfl (by simp [V.wf, A.wf, C.wf, V.i]) ⟨roE_f (flat_u _) (l := 2) rfl (by omega) rfl (.inl rfl), trivial⟩ rfl ?_ | refine CallK.rowF (R := [(0, some 3)]) (flat_i _) hlo (by kernel_rfl) rfl (by simp [V.wf, A.wf, C.wf, V.i]) ⟨roE_f (flat_u _) (l := 3) rfl (by omega) rfl (.inl rfl), trivial⟩ rfl ?_ | refine CallK.m ?_)
  exact rfl
set_option maxRecDepth 10000 in
theorem Apart_err (N : Int) (ps : List Cell) (hl : ps.length ≤ 100) (he : okK' N ps = false) : Spec Tryd.prog 45 [V.agg [C.i N, C.sl 0 ps.length]] [⟨0, .ro 2, cellC ps⟩] 1 (Is (V.tup [A.c .nil, A.c (C.i 70)])) := by
  have hnt := newTable_no N ps hl he
  have hE : (70 : Int) ≠ 0 := by omega
  refine Spec.of tok Tryd.func45 rfl rfl rfl fun n0 cx => vc_ok tok ?_
  repeat ((conv => whnf); first | refine Exists.intro _ (And.intro rfl ?_) | refine br_t (by omega) ?_ | refine fun (K' : K3) hK' => ?_ | (refine hK' _ _ _ ?_; clear hK' K') | (refine CallK.val (R := []) hnt (by kernel_rfl) rfl (by simp [V.wf, A.wf, C.wf, V.i]) ⟨roE_f (flat_c _) (l := 0) rfl (by omega) rfl (.inr rfl), trivial⟩ rfl rfl (by first | trivial | simp [V.wf, A.wf, C.wf]) ?_) | refine CallK.m ?_)
  intro ρ; rfl
set_option maxRecDepth 10000 in
theorem AllClash_err (N : Int) (ps : List Cell) (hl : ps.length ≤ 100) (he : okK' N ps = false) : Spec Tryd.prog 42 [V.agg [C.i N, C.sl 0 ps.length]] [⟨0, .ro 2, cellC ps⟩] 1 (Is (V.tup [A.c .nil, A.c (C.i 70)])) := by
  have hnt := newTable_no N ps hl he
  have hE : (70 : Int) ≠ 0 := by omega
  refine Spec.of tok Tryd.func42 rfl rfl rfl fun n0 cx => vc_ok tok ?_
  repeat ((conv => whnf); first | refine Exists.intro _ (And.intro rfl ?_) | refine br_t (by omega) ?_ | refine fun (K' : K3) hK' => ?_ | (refine hK' _ _ _ ?_; clear hK' K') | (refine CallK.val (R := []) hnt (by kernel_rfl) rfl (by simp [V.wf, A.wf, C.wf, V.i]) ⟨roE_f (flat_c _) (l := 0) rfl (by omega) rfl (.inr rfl), trivial⟩ rfl rfl (by first | trivial | simp [V.wf, A.wf, C.wf]) ?_) | refine CallK.m ?_)
  intro ρ; rfl
end Go.Proofs.YtijnimgmpocmaaaDoor

/- Waste: the document's longest list. -/
namespace Go.Proofs.YtijnimgmpocmaaaDoor
open Go.RowKit
set_option linter.unusedVariables false
set_option linter.unusedSimpArgs false
theorem CallK.den {P : Program} {n0 : Nat} {f : FuncId} {vs vs' : List V} {L : List E} {nx : Nat} {K : V → List E → Nat → Prop} (hd : ∀ ρ, vs.map (V.den ρ) = vs'.map (V.den ρ)) (hw : ∀ v ∈ vs, v.wf nx) (h : CallK P n0 f vs L nx K) : CallK P n0 f vs' L nx K :=
  ⟨h.ok, fun ρ w hp _ => by rw [← hd]; exact h.run ρ w hp hw⟩
def okX (cl : Nat → Nat → Bool) (c : Bool) (l : List Nat) (i j : Nat) : Bool := (List.range j).all fun j => cl (l.getD i 0) (l.getD j 0) == c
def okA (cl : Nat → Nat → Bool) (c : Bool) (l : List Nat) (i : Nat) : Bool := (List.range i).all fun i => okX cl c l i i
theorem okX_succ (cl : Nat → Nat → Bool) (c : Bool) (l : List Nat) (i j : Nat) : okX cl c l i (j + 1) = (okX cl c l i j && (cl (l.getD i 0) (l.getD j 0) == c)) := by simp [okX, List.range_succ, List.all_append]
theorem okA_succ (cl : Nat → Nat → Bool) (c : Bool) (l : List Nat) (i : Nat) : okA cl c l (i + 1) = (okA cl c l i && okX cl c l i i) := by simp [okA, List.range_succ, List.all_append]
def okS (cl : Nat → Nat → Bool) (c : Bool) (s : Nat) : Bool := okA cl c (bitsL s) (bitsL s).length
theorem bitsL_sorted (s : Nat) : (bitsL s).Pairwise (· < ·) := List.Pairwise.filter _ List.pairwise_lt_range
theorem okS_iff {cl : Nat → Nat → Bool} {c : Bool} {s : Nat} : okS cl c s = true ↔ ∀ a b, a ∈ bitsL s → b ∈ bitsL s → b < a → cl a b = c := by
  have hg : ∀ {i}, (h : i < (bitsL s).length) → (bitsL s).getD i 0 = (bitsL s)[i] := fun {i} h => by simp [List.getD_eq_getElem?_getD, h]
  unfold okS okA okX
  simp only [List.all_eq_true, List.mem_range, beq_iff_eq]
  constructor
  · intro h a b ha hb hab
    obtain ⟨i, hi, rfl⟩ := List.mem_iff_getElem.1 ha
    obtain ⟨j, hj, rfl⟩ := List.mem_iff_getElem.1 hb
    have hji : j < i := by
      rcases Nat.lt_trichotomy j i with h1 | h1 | h1
      · exact h1
      · subst h1; omega
      · have := List.pairwise_iff_getElem.1 (bitsL_sorted s) i j hi hj h1; omega
    have := h i hi j hji
    rw [hg hi, hg hj] at this; exact this
  · intro h i hi j hji
    rw [hg hi, hg (show j < (bitsL s).length by omega)]
    exact h _ _ (List.getElem_mem _) (List.getElem_mem _) (List.pairwise_iff_getElem.1 (bitsL_sorted s) j i (by omega) hi hji)
theorem and_zq {x y : Nat} : x &&& y = 0 ↔ ∀ b, y.testBit b = true → x.testBit b = false := by
  constructor
  · intro h b hb
    have : (x &&& y).testBit b = false := by rw [h]; simp
    rw [Nat.testBit_and, hb, Bool.and_true] at this; exact this
  · intro h
    apply Nat.eq_of_testBit_eq; intro b
    rw [Nat.testBit_and, Nat.zero_testBit]
    cases hy : y.testBit b with
    | false => simp
    | true => rw [h b hy]; rfl
theorem aptS_iff {t : List Nat} {s : Nat} (hs : s < 256) : aptS t s = true ↔ ∀ a b, a ∈ bitsL s → b ∈ bitsL s → (t.getD a 0).testBit b = false := by
  unfold aptS
  simp only [List.all_eq_true, decide_eq_true_iff, and_zq]
  constructor
  · intro h a b ha hb; exact h a ha b (mem_bitsL.1 hb).2
  · intro h a ha b hb; exact h a b ha (mem_bitsL.2 ⟨bit_lt (n := 8) hs hb, hb⟩)
section
variable {n : Nat} {qs : List (Nat × Nat)}
theorem symC_comm (qs : List (Nat × Nat)) (a b : Nat) : symC (clP qs) a b = symC (clP qs) b a := by
  unfold symC
  rcases Nat.lt_trichotomy a b with h | h | h
  · rw [if_pos h, if_neg (by omega), if_pos h]
  · subst h; rfl
  · rw [if_neg (by omega), if_pos h, if_pos h]
theorem symP_irr (qs : List (Nat × Nat)) (a : Nat) : symC (clP qs) a a = false := by unfold symC; rw [if_neg (by omega), if_neg (by omega)]
theorem okS_apart (hk : Knd n qs) {s : Nat} (hs : s < 256) : okS (symC (clP qs)) false s = aptS (tabS n qs) s := by
  rw [Bool.eq_iff_iff, okS_iff, aptS_iff hs]
  simp only [tabS_cl hk]
  constructor
  · intro h a b ha hb
    rcases Nat.lt_trichotomy a b with h1 | h1 | h1
    · rw [symC_comm]; exact h b a hb ha h1
    · subst h1; exact symP_irr qs a
    · exact h a b ha hb h1
  · intro h a b ha hb _; exact h a b ha hb
theorem ot_bit (hk : Knd n qs) {a : Nat} (ha : a < n) (b : Nat) : ((otK (tabS n qs) n n).getD a 0).testBit b = (decide (b < n) && !(symC (clP qs) a b || decide (a = b))) := by
  have hget : (otK (tabS n qs) n n).getD a 0 = otF (tabS n qs) n a := by simp [otK, List.getD_eq_getElem?_getD, ha]
  rw [hget, otF, dif_bit, Nat.testBit_two_pow_sub_one, Nat.testBit_or, Nat.testBit_two_pow, tabS_cl hk]
theorem okS_all (hk : Knd n qs) {s : Nat} (hs : s < 2 ^ n) : okS (symC (clP qs)) true s = aptS (otK (tabS n qs) n n) s := by
  have hs8 : s < 256 := Nat.lt_of_lt_of_le hs (pow_8 hk.rng.2)
  have hbn : ∀ a, a ∈ bitsL s → a < n := fun a ha => bit_lt hs (mem_bitsL.1 ha).2
  rw [Bool.eq_iff_iff, okS_iff, aptS_iff hs8]
  constructor
  · intro h a b ha hb
    rw [ot_bit hk (hbn a ha), decide_eq_true (hbn b hb)]
    rcases Nat.lt_trichotomy a b with h1 | h1 | h1
    · rw [symC_comm, h b a hb ha h1]; rfl
    · subst h1; simp
    · rw [h a b ha hb h1]; rfl
  · intro h a b ha hb hab
    have := h a b ha hb
    rw [ot_bit hk (hbn a ha), decide_eq_true (hbn b hb), decide_eq_false (show ¬ a = b by omega)] at this
    simpa using this
end
def btK (s a : Nat) : List Nat := (List.range a).filter fun b => s.testBit b
theorem btK_succ (s a : Nat) : btK s (a + 1) = btK s a ++ if s.testBit a then [a] else [] := by
  unfold btK
  rw [List.range_succ, List.filter_append]
  congr 1
  cases h : s.testBit a <;> simp [h]
theorem btK_len (s a : Nat) : (btK s a).length ≤ a := by
  have := List.length_filter_le (fun b => s.testBit b) (List.range a)
  rw [List.length_range] at this; exact this
theorem btK_bits {s n : Nat} (hn : n ≤ 8) (hs : s < 2 ^ n) : btK s n = bitsL s :=
  (range_cut (fun b hb => Nat.testBit_lt_two_pow (Nat.lt_of_lt_of_le hs (Nat.pow_le_pow_right (by omega) hb))) hn).symm
end Go.Proofs.YtijnimgmpocmaaaDoor

/- Waste: the document's longest list, walked. -/
namespace Go.Proofs.YtijnimgmpocmaaaDoor
open Go.RowKit
set_option linter.unusedVariables false
set_option linter.unusedSimpArgs false
set_option maxRecDepth 10000 in
set_option maxHeartbeats 16000000 in
theorem chosen_spec (n : Nat) (qs : List (Nat × Nat)) (hk : Knd n qs) (c : Bool) : Spec Tryd.prog 80 [V.agg [C.i n, C.sl 0 (castP qs).length], V.c (.bool c)] [⟨0, .ro 2, cellC (castP qs)⟩] 1
    (fun v L' _ => ∃ lab, v = V.c (.sl lab (bitsL (bestK (okS (symC (clP qs)) c) (2 ^ n))).length) ∧ find L' lab = some ⟨lab, .vec 3 1, (natI (bitsL (bestK (okS (symC (clP qs)) c) (2 ^ n)))).map C.i⟩) := by
  have hn := hk.rng
  have h8 := pow_8 hn.2
  have hp0 : 0 < 2 ^ n := Nat.two_pow_pos n
  have hcla := clash_spec n qs hk
  have hbtn : ∀ s, s < 2 ^ n → btK s n = bitsL s := fun s hs => btK_bits hn.2 hs
  obtain ⟨M, hM⟩ : ∃ M, M = 2 ^ n := ⟨_, rfl⟩
  have hX : (1 : Int) * 2 ^ ((n : Nat) : Int).toNat = ((M : Nat) : Int) := by rw [Int.toNat_natCast, hM]; simp
  rw [← hM] at h8 hp0 hbtn ⊢
  clear hM
  obtain ⟨ok, hok⟩ : ∃ ok, ok = okS (symC (clP qs)) c := ⟨_, rfl⟩
  rw [← hok]
  refine Spec.of tok Tryd.func80 rfl rfl rfl fun n0 cx => vc_ok tok ?_
  repeat ((conv => whnf); first | (refine And.intro (by first | omega | exact Nat.le_of_ble_eq_true rfl | (dsimp only [inK]; omega)) ?_) | refine Exists.intro _ (And.intro rfl ?_) | refine fun (K' : K3) hK' => ?_ | (refine hK' _ _ _ ?_; clear hK' K'))
  refine Tri.loop (γ := Nat) (fun s => s ≤ M) (fun s => [(1, V.c (.bool c)), (2, V.c (.ptr 1 0)), (5, V.c (.sl 2 (bitsL (bestK ok s)).length)), (16, V.i (M : Nat)), (17, V.i (s : Nat))])
    (fun s => [⟨2, .vec 3 1, (natI (bitsL (bestK ok s))).map C.i⟩, ⟨1, .own 24, [C.i n, .sl 0 (castP qs).length]⟩, ⟨0, .ro 2, cellC (castP qs)⟩]) 3 (fun s => M - s) 0 (R0 := [(2, none)]) ?_ ?_ ?_
  · omega
  · have h1 : bestK ok 0 = 0 := rfl
    rw [h1, bitsL_0]
    refine ⟨?_, ?_, rfl, rfl, by exact Nat.le_of_ble_eq_true rfl⟩
    · repeat (first | exact trivial | (refine And.intro (covS_syn (by first | rfl | (refine congrArg some (congrArg V.i ?_); exact hX)) rfl (by first | exact trivial | exact Nat.le_of_ble_eq_true rfl)) ?_))
    · repeat (first | exact trivial | refine And.intro (covE_c rfl (Nat.le_of_ble_eq_true rfl) rfl rfl) ?_ | refine And.intro ⟨Nat.le_of_ble_eq_true rfl, by simp [C.wf], _, _, rfl, .inl rfl, fun ρ => rfl⟩ ?_ | refine And.intro (covE_nil rfl (Nat.le_of_ble_eq_true rfl) rfl rfl) ?_)
  · intro s hs
    refine vc_ok tok ?_
    by_cases hlt : s < M
    · have hs256 : s < 256 := by omega
      have hst : bestK ok (s + 1) = stB ok (bestK ok s) s := rfl
      have hbit := fun a (ha : a < 8) => bit_atI s hs256 a ha
      have hbn := hbtn s hlt
      obtain ⟨b, hb⟩ : ∃ b, b = bestK ok s := ⟨_, rfl⟩
      rw [← hb] at hst ⊢
      have hbb := bitsL_len b
      have hbs := bitsL_len s
      unfold stB at hst
      repeat ((conv => whnf); first | (refine And.intro (by first | omega | exact Nat.le_of_ble_eq_true rfl) ?_) | refine Exists.intro _ (And.intro rfl ?_) | refine br_t (by omega) ?_ | refine fun (K' : K3) hK' => ?_ | (refine hK' _ _ _ ?_; clear hK' K'))
      refine Tri.loop (γ := Nat) (fun a => a ≤ n) (fun a => [(1, V.c (.bool c)), (2, V.c (.ptr 1 0)), (5, V.c (.sl 2 (bitsL b).length)), (6, V.i (s : Nat)), (7, V.c (.sl 3 (btK s a).length)), (16, V.i (M : Nat)), (17, V.i (s : Nat)), (21, V.i n), (22, V.i (a : Nat))])
        (fun a => [⟨3, .vec 3 1, (natI (btK s a)).map C.i⟩, ⟨2, .vec 3 1, (natI (bitsL b)).map C.i⟩, ⟨1, .own 24, [C.i n, .sl 0 (castP qs).length]⟩, ⟨0, .ro 2, cellC (castP qs)⟩]) 4 (fun a => n - a) 0 (R0 := [(3, none)]) ?_ ?_ ?_
      · omega
      · have h1 : btK s 0 = [] := rfl
        rw [h1]
        refine ⟨?_, ?_, rfl, rfl, by exact Nat.le_of_ble_eq_true rfl⟩
        · repeat (first | exact trivial | (refine And.intro (covS_syn (by rfl) rfl (by first | exact trivial | exact Nat.le_of_ble_eq_true rfl)) ?_))
        · repeat (first | exact trivial | refine And.intro ⟨Nat.le_of_ble_eq_true rfl, by simp [C.wf], _, _, rfl, .inl rfl, fun ρ => rfl⟩ ?_ | refine And.intro (covE_c rfl (Nat.le_of_ble_eq_true rfl) rfl rfl) ?_ | refine And.intro (covE_i rfl (Nat.le_of_ble_eq_true rfl) rfl rfl) ?_ | refine And.intro (covE_nil rfl (Nat.le_of_ble_eq_true rfl) rfl rfl) ?_)
      · intro a ha
        refine vc_ok tok ?_
        have hbl := btK_len s a
        by_cases hal : a < n
        · have hba := hbit a (by omega)
          have hsu := btK_succ s a
          have hbl2 := btK_len s (a + 1)
          obtain ⟨l, hl⟩ : ∃ l, l = btK s a := ⟨_, rfl⟩
          rw [← hl] at hsu hbl ⊢
          have hlm : ((natI l).map C.i).length = l.length := by rw [List.length_map, natI_len]
          cases htb : s.testBit a with
          | false =>
            rw [htb, if_neg (by simp)] at hba hsu
            rw [List.append_nil] at hsu
            have h1 : ¬ bitI .and .i64 (shrI .i64 (s : Nat) (a : Nat)) 1 = 1 := by rw [hba]; omega
            repeat ((conv => whnf); first | (refine And.intro (by first | omega | (dsimp only [inK]; omega)) ?_) | refine br_t (by omega) ?_ | refine br_f (by omega) ?_ | refine fun (K' : K3) hK' => ?_ | (refine hK' _ _ _ ?_; clear hK' K'))
            refine ⟨a + 1, [], by omega, by omega, ?_⟩
            rw [hsu]
            refine ⟨?_, ?_, rfl, rfl, by exact Nat.le_of_ble_eq_true rfl⟩
            · repeat (first | exact trivial | (refine And.intro (covS_syn (by rfl) rfl (by first | exact trivial | exact Nat.le_of_ble_eq_true rfl)) ?_))
            · repeat (first | exact trivial | (refine And.intro (covE_id (Nat.le_of_ble_eq_true rfl) (by first | exact wf_ints _ _ | first | exact wf_us _ _ | exact wf_cells _ _ | (simp [C.wf]; done)) rfl (by rfl)) ?_))
          | true =>
            rw [htb, if_pos rfl] at hba hsu
            have happ := natI_app l a
            have hll : (l ++ [a]).length = l.length + 1 := by simp
            repeat ((conv => whnf); first | (refine And.intro (by first | omega | (dsimp only [inK]; omega) | (exact ⟨rfl, rfl, rfl, Nat.le_of_ble_eq_true rfl, by dsimp only; omega, by exact Nat.le_of_ble_eq_true rfl, by omega, Nat.le_of_ble_eq_true rfl⟩)) ?_) | refine br_t (by omega) ?_ | refine fun (K' : K3) hK' => ?_ | (refine hK' _ _ _ ?_; clear hK' K'))
            refine ⟨a + 1, [(3, some 5)], by omega, by omega, ?_⟩
            rw [hsu, hll]
            refine ⟨?_, ?_, rfl, rfl, by exact Nat.le_of_ble_eq_true rfl⟩
            · repeat (first | exact trivial | (refine And.intro (covS_syn (by rfl) rfl (by first | exact trivial | exact Nat.le_of_ble_eq_true rfl)) ?_))
            · repeat (first | exact trivial | refine And.intro (covE_i rfl (Nat.le_of_ble_eq_true rfl) rfl happ) ?_ | refine And.intro (covE_i rfl (Nat.le_of_ble_eq_true rfl) rfl rfl) ?_ | refine And.intro (covE_c rfl (Nat.le_of_ble_eq_true rfl) rfl rfl) ?_ | refine And.intro (covE_some rfl (Nat.le_of_ble_eq_true rfl) (by first | exact wf_us _ _ | exact wf_cells _ _ | (simp [C.wf]; done)) rfl (by rfl)) ?_)
        · obtain rfl : a = n := by omega
          rw [hbn]
          have hok1 : okA (symC (clP qs)) c (bitsL s) (bitsL s).length = ok s := by rw [hok]; rfl
          have hll2 : bitsL s = bitsL s := rfl
          have hmem : ∀ i, i < (bitsL s).length → (bitsL s).getD i 0 < 8 := fun i hi => (mem_bitsL.1 (bitsL_get hi)).1
          have hbef : (bitsL s).length = (bitsL b).length → Spec Tryd.prog 104 [V.c (.sl 0 (bitsL s).length), V.c (.sl 1 (bitsL b).length)] [⟨0, .ro 0, (natI (bitsL s)).map C.i⟩, ⟨1, .ro 0, (natI (bitsL b)).map C.i⟩] 2 (Is (V.c (.bool (lexB (bitsL s) (bitsL b))))) := fun h => before_spec _ _ h (by omega)
          obtain ⟨l, hl⟩ : ∃ l, l = bitsL s := ⟨_, rfl⟩
          obtain ⟨lb, hlb⟩ : ∃ lb, lb = bitsL b := ⟨_, rfl⟩
          rw [← hl] at hst hbs hok1 hmem hbef ⊢
          rw [← hlb] at hst hbb hbef ⊢
          have hlm : ((natI l).map C.i).length = l.length := by rw [List.length_map, natI_len]
          have hlt1 : ∀ i, i < l.length → ((natI l).map C.i)[mulS ((i : Nat) : Int).toNat 1]? = some (C.i ((l.getD i 0 : Nat) : Int)) := fun i hi => by
            rw [intLz rfl (by rw [natI_len]; exact hi), natI_get hi]
          repeat ((conv => whnf); first | refine br_f (by omega) ?_ | refine fun (K' : K3) hK' => ?_ | (refine hK' _ _ _ ?_; clear hK' K'))
          refine Tri.loop (γ := Nat) (fun i => i ≤ l.length) (fun i => [(1, V.c (.bool c)), (2, V.c (.ptr 1 0)), (5, V.c (.sl 2 lb.length)), (6, V.i (s : Nat)), (7, V.c (.sl 3 l.length)), (9, V.c (.bool (okA (symC (clP qs)) c l i))), (16, V.i (M : Nat)), (17, V.i (s : Nat)), (35, V.c (.sl 3 l.length)), (36, V.i l.length), (37, V.i (i : Nat))])
            (fun i => [⟨3, .vec 3 1, (natI l).map C.i⟩, ⟨2, .vec 3 1, (natI lb).map C.i⟩, ⟨1, .own 24, [C.i a, .sl 0 (castP qs).length]⟩, ⟨0, .ro 2, cellC (castP qs)⟩]) 4 (fun i => l.length - i) 0 (R0 := []) ?_ ?_ ?_
          · omega
          · have h1 : okA (symC (clP qs)) c l 0 = true := rfl
            rw [h1]
            refine ⟨?_, ?_, rfl, rfl, by exact Nat.le_of_ble_eq_true rfl⟩
            · repeat (first | exact trivial | (refine And.intro (covS_syn (by rfl) rfl (by first | exact trivial | exact Nat.le_of_ble_eq_true rfl)) ?_) | refine And.intro (covS_bool rfl rfl (by rfl)) ?_)
            · repeat (first | exact trivial | (refine And.intro (covE_id (Nat.le_of_ble_eq_true rfl) (by first | exact wf_ints _ _ | first | exact wf_us _ _ | exact wf_cells _ _ | (simp [C.wf]; done)) rfl (by rfl)) ?_))
          · intro i hi
            refine vc_ok tok ?_
            by_cases hil : i < l.length
            · have hli := hlt1 i hil
              have hsu := okA_succ (symC (clP qs)) c l i
              have hmi := hmem i hil
              obtain ⟨k0, hk0⟩ : ∃ k0, k0 = okA (symC (clP qs)) c l i := ⟨_, rfl⟩
              rw [← hk0] at hsu ⊢
              repeat ((conv => whnf); first | (refine And.intro (by first | omega | (dsimp only [inK]; omega)) ?_) | with_reducible refine ld (hli) ?_ | refine br_t (by omega) ?_ | refine fun (K' : K3) hK' => ?_ | (refine hK' _ _ _ ?_; clear hK' K') | refine Two.l ?_)
              refine Tri.loop (γ := Nat) (fun j => j ≤ i) (fun j => [(1, V.c (.bool c)), (2, V.c (.ptr 1 0)), (5, V.c (.sl 2 lb.length)), (6, V.i (s : Nat)), (7, V.c (.sl 3 l.length)), (9, V.c (.bool (k0 && okX (symC (clP qs)) c l i j))), (11, V.i (l.getD i 0 : Nat)), (16, V.i (M : Nat)), (17, V.i (s : Nat)), (35, V.c (.sl 3 l.length)), (36, V.i l.length), (37, V.i (i : Nat)), (44, V.c (.sl 3 i)), (45, V.i (i : Nat)), (46, V.i (j : Nat))])
                (fun j => [⟨3, .vec 3 1, (natI l).map C.i⟩, ⟨2, .vec 3 1, (natI lb).map C.i⟩, ⟨1, .own 24, [C.i a, .sl 0 (castP qs).length]⟩, ⟨0, .ro 2, cellC (castP qs)⟩]) 4 (fun j => i - j) 0 (R0 := []) ?_ ?_ ?_
              · omega
              · have h1 : (k0 && okX (symC (clP qs)) c l i 0) = k0 := by simp [okX]
                rw [h1]
                refine ⟨?_, ?_, rfl, rfl, by exact Nat.le_of_ble_eq_true rfl⟩
                · repeat (first | exact trivial | (refine And.intro (covS_syn (by rfl) rfl (by first | exact trivial | exact Nat.le_of_ble_eq_true rfl)) ?_))
                · repeat (first | exact trivial | (refine And.intro (covE_id (Nat.le_of_ble_eq_true rfl) (by first | exact wf_ints _ _ | first | exact wf_us _ _ | exact wf_cells _ _ | (simp [C.wf]; done)) rfl (by rfl)) ?_))
              · intro j hj
                refine vc_ok tok ?_
                by_cases hjl : j < i
                · have hlj := hlt1 j (by omega)
                  have hsx := okX_succ (symC (clP qs)) c l i j
                  have hcl1 := hcla (l.getD i 0) (l.getD j 0)
                  have hacc : (k0 && okX (symC (clP qs)) c l i (j + 1)) = ((k0 && okX (symC (clP qs)) c l i j) && (symC (clP qs) (l.getD i 0) (l.getD j 0) == c)) := by rw [hsx, Bool.and_assoc]
                  obtain ⟨x, hx⟩ : ∃ x, x = (k0 && okX (symC (clP qs)) c l i j) := ⟨_, rfl⟩
                  obtain ⟨y, hy⟩ : ∃ y, y = symC (clP qs) (l.getD i 0) (l.getD j 0) := ⟨_, rfl⟩
                  rw [← hx, ← hy] at hacc
                  rw [← hx]
                  rw [← hy] at hcl1
                  cases x with
                  | false =>
                    have hst1 : (k0 && okX (symC (clP qs)) c l i (j + 1)) = false := by rw [hacc]; rfl
                    repeat ((conv => whnf); first | (refine And.intro (by first | omega | (dsimp only [inK]; omega)) ?_) | with_reducible refine ld (hlj) ?_ | refine br_t (by omega) ?_ | refine fun (K' : K3) hK' => ?_ | (refine hK' _ _ _ ?_; clear hK' K') | refine br_bf (Eq.refl false) ?_)
                    refine ⟨j + 1, [], by omega, by omega, ?_⟩
                    rw [hst1]
                    refine ⟨?_, ?_, rfl, rfl, by exact Nat.le_of_ble_eq_true rfl⟩
                    · repeat (first | exact trivial | (refine And.intro (covS_syn (by rfl) rfl (by first | exact trivial | exact Nat.le_of_ble_eq_true rfl)) ?_) | refine And.intro (covS_bool rfl rfl (by rfl)) ?_)
                    · repeat (first | exact trivial | (refine And.intro (covE_id (Nat.le_of_ble_eq_true rfl) (by first | exact wf_ints _ _ | first | exact wf_us _ _ | exact wf_cells _ _ | (simp [C.wf]; done)) rfl (by rfl)) ?_))
                  | true =>
                    have hst1 : (k0 && okX (symC (clP qs)) c l i (j + 1)) = (y == c) := by rw [hacc]; rfl
                    repeat ((conv => whnf); first | (refine And.intro (by first | omega | (dsimp only [inK]; omega)) ?_) | with_reducible refine ld (hlj) ?_ | refine Exists.intro _ (And.intro rfl ?_) | refine br_t (by omega) ?_ | refine fun (K' : K3) hK' => ?_ | (refine hK' _ _ _ ?_; clear hK' K') | (refine CallK.val (R := []) hcl1 (by kernel_rfl) rfl (by simp [V.wf, A.wf, C.wf, V.i]) ⟨roE_f (flat_c _) (l := 0) rfl (by omega) rfl (.inr rfl), trivial⟩ rfl rfl (by first | trivial | simp [V.wf, A.wf, C.wf]) ?_) | refine br_bt (Eq.refl true) ?_ | refine CallK.m ?_)
                    refine ⟨j + 1, [], by omega, by omega, ?_⟩
                    rw [hst1]
                    refine ⟨?_, ?_, rfl, rfl, by exact Nat.le_of_ble_eq_true rfl⟩
                    · repeat (first | exact trivial | (refine And.intro (covS_syn (by rfl) rfl (by first | exact trivial | exact Nat.le_of_ble_eq_true rfl)) ?_))
                    · repeat (first | exact trivial | (refine And.intro (covE_id (Nat.le_of_ble_eq_true rfl) (by first | exact wf_ints _ _ | first | exact wf_us _ _ | exact wf_cells _ _ | (simp [C.wf]; done)) rfl (by rfl)) ?_))
                · obtain rfl : j = i := by omega
                  have hk2 : (k0 && okX (symC (clP qs)) c l j j) = okA (symC (clP qs)) c l (j + 1) := hsu.symm
                  rw [hk2]
                  repeat ((conv => whnf); first | (refine And.intro (by first | omega | (dsimp only [inK]; omega)) ?_) | refine br_f (by omega) ?_ | refine fun (K' : K3) hK' => ?_ | (refine hK' _ _ _ ?_; clear hK' K'))
                  refine ⟨j + 1, [], by omega, by omega, ?_⟩
                  refine ⟨?_, ?_, rfl, rfl, by exact Nat.le_of_ble_eq_true rfl⟩
                  · repeat (first | exact trivial | (refine And.intro (covS_syn (by rfl) rfl (by first | exact trivial | exact Nat.le_of_ble_eq_true rfl)) ?_))
                  · repeat (first | exact trivial | (refine And.intro (covE_id (Nat.le_of_ble_eq_true rfl) (by first | exact wf_ints _ _ | first | exact wf_us _ _ | exact wf_cells _ _ | (simp [C.wf]; done)) rfl (by rfl)) ?_))
            · obtain rfl : i = l.length := by omega
              rw [hok1]
              cases hoks : ok s with
              | false =>
                rw [hoks, if_neg (by simp)] at hst
                repeat ((conv => whnf); first | (refine And.intro (by first | omega | (dsimp only [inK]; omega)) ?_) | refine br_f (by omega) ?_ | refine fun (K' : K3) hK' => ?_ | (refine hK' _ _ _ ?_; clear hK' K') | refine br_bf (Eq.refl false) ?_)
                refine ⟨s + 1, [], by omega, by omega, ?_⟩
                rw [hst, ← hlb]
                refine ⟨?_, ?_, rfl, rfl, by exact Nat.le_of_ble_eq_true rfl⟩
                · repeat (first | exact trivial | (refine And.intro (covS_syn (by rfl) rfl (by first | exact trivial | exact Nat.le_of_ble_eq_true rfl)) ?_))
                · repeat (first | exact trivial | (refine And.intro (covE_id (Nat.le_of_ble_eq_true rfl) (by first | exact wf_ints _ _ | first | exact wf_us _ _ | exact wf_cells _ _ | (simp [C.wf]; done)) rfl (by rfl)) ?_))
              | true =>
                rw [hoks] at hst
                by_cases h1 : ((l.length : Nat) : Int) > (lb.length : Nat)
                · rw [if_pos ⟨rfl, .inl (by omega)⟩] at hst
                  repeat ((conv => whnf); first | (refine And.intro (by first | omega | (dsimp only [inK]; omega)) ?_) | refine br_f (by omega) ?_ | refine bs_t (by omega) ?_ | refine fun (K' : K3) hK' => ?_ | (refine hK' _ _ _ ?_; clear hK' K') | refine br_bt (Eq.refl true) ?_)
                  refine ⟨s + 1, [(2, some 3)], by omega, by omega, ?_⟩
                  rw [hst, ← hl]
                  refine ⟨?_, ?_, rfl, rfl, by exact Nat.le_of_ble_eq_true rfl⟩
                  · repeat (first | exact trivial | (refine And.intro (covS_syn (by rfl) rfl (by first | exact trivial | exact Nat.le_of_ble_eq_true rfl)) ?_))
                  · repeat (first | exact trivial | refine And.intro (covE_i rfl (Nat.le_of_ble_eq_true rfl) rfl rfl) ?_ | refine And.intro (covE_c rfl (Nat.le_of_ble_eq_true rfl) rfl rfl) ?_ | refine And.intro (covE_some rfl (Nat.le_of_ble_eq_true rfl) (by first | exact wf_us _ _ | exact wf_cells _ _ | (simp [C.wf]; done)) rfl (by rfl)) ?_)
                · by_cases h2 : ((l.length : Nat) : Int) = (lb.length : Nat)
                  · have hbf := hbef (by omega)
                    obtain ⟨z, hz⟩ : ∃ z, z = lexB l lb := ⟨_, rfl⟩
                    rw [← hz] at hbf hst
                    cases z with
                    | true =>
                      rw [if_pos ⟨rfl, .inr ⟨by omega, rfl⟩⟩] at hst
                      repeat ((conv => whnf); first | (refine And.intro (by first | omega | (dsimp only [inK]; omega)) ?_) | refine br_t (by omega) ?_ | refine br_f (by omega) ?_ | refine bs_f (by omega) ?_ | refine fun (K' : K3) hK' => ?_ | (refine hK' _ _ _ ?_; clear hK' K') | (refine CallK.val (R := [(0, some 3), (1, some 2)]) hbf (by kernel_rfl) rfl (by simp [V.wf, A.wf, C.wf, V.i]) ⟨roE_f (flat_i _) (l := 3) rfl (by omega) rfl (.inl rfl), roE_f (flat_i _) (l := 2) rfl (by omega) rfl (.inl rfl), trivial⟩ rfl rfl (by first | trivial | simp [V.wf, A.wf, C.wf]) ?_) | refine br_bt (Eq.refl true) ?_ | refine CallK.m ?_)
                      refine ⟨s + 1, [(2, some 3)], by omega, by omega, ?_⟩
                      rw [hst, ← hl]
                      refine ⟨?_, ?_, rfl, rfl, by exact Nat.le_of_ble_eq_true rfl⟩
                      · repeat (first | exact trivial | (refine And.intro (covS_syn (by rfl) rfl (by first | exact trivial | exact Nat.le_of_ble_eq_true rfl)) ?_))
                      · repeat (first | exact trivial | refine And.intro (covE_i rfl (Nat.le_of_ble_eq_true rfl) rfl rfl) ?_ | refine And.intro (covE_c rfl (Nat.le_of_ble_eq_true rfl) rfl rfl) ?_ | refine And.intro (covE_some rfl (Nat.le_of_ble_eq_true rfl) (by first | exact wf_us _ _ | exact wf_cells _ _ | (simp [C.wf]; done)) rfl (by rfl)) ?_)
                    | false =>
                      rw [if_neg (fun h => by rcases h.2 with h | h; omega; exact absurd h.2 (by simp))] at hst
                      repeat ((conv => whnf); first | (refine And.intro (by first | omega | (dsimp only [inK]; omega)) ?_) | refine br_t (by omega) ?_ | refine br_f (by omega) ?_ | refine bs_f (by omega) ?_ | refine fun (K' : K3) hK' => ?_ | (refine hK' _ _ _ ?_; clear hK' K') | (refine CallK.val (R := [(0, some 3), (1, some 2)]) hbf (by kernel_rfl) rfl (by simp [V.wf, A.wf, C.wf, V.i]) ⟨roE_f (flat_i _) (l := 3) rfl (by omega) rfl (.inl rfl), roE_f (flat_i _) (l := 2) rfl (by omega) rfl (.inl rfl), trivial⟩ rfl rfl (by first | trivial | simp [V.wf, A.wf, C.wf]) ?_) | refine br_bt (Eq.refl true) ?_ | refine br_bf (Eq.refl false) ?_ | refine CallK.m ?_)
                      refine ⟨s + 1, [], by omega, by omega, ?_⟩
                      rw [hst, ← hlb]
                      refine ⟨?_, ?_, rfl, rfl, by exact Nat.le_of_ble_eq_true rfl⟩
                      · repeat (first | exact trivial | (refine And.intro (covS_syn (by rfl) rfl (by first | exact trivial | exact Nat.le_of_ble_eq_true rfl)) ?_))
                      · repeat (first | exact trivial | (refine And.intro (covE_id (Nat.le_of_ble_eq_true rfl) (by first | exact wf_ints _ _ | first | exact wf_us _ _ | exact wf_cells _ _ | (simp [C.wf]; done)) rfl (by rfl)) ?_))
                  · rw [if_neg (fun h => by rcases h.2 with h | h; omega; omega)] at hst
                    repeat ((conv => whnf); first | (refine And.intro (by first | omega | (dsimp only [inK]; omega)) ?_) | refine br_f (by omega) ?_ | refine bs_f (by omega) ?_ | refine fun (K' : K3) hK' => ?_ | (refine hK' _ _ _ ?_; clear hK' K') | refine br_bt (Eq.refl true) ?_)
                    refine ⟨s + 1, [], by omega, by omega, ?_⟩
                    rw [hst, ← hlb]
                    refine ⟨?_, ?_, rfl, rfl, by exact Nat.le_of_ble_eq_true rfl⟩
                    · repeat (first | exact trivial | (refine And.intro (covS_syn (by rfl) rfl (by first | exact trivial | exact Nat.le_of_ble_eq_true rfl)) ?_))
                    · repeat (first | exact trivial | (refine And.intro (covE_id (Nat.le_of_ble_eq_true rfl) (by first | exact wf_ints _ _ | first | exact wf_us _ _ | exact wf_cells _ _ | (simp [C.wf]; done)) rfl (by rfl)) ?_))
    · obtain rfl : s = M := by omega
      repeat ((conv => whnf); first | refine Exists.intro _ (And.intro rfl ?_) | refine br_f (by omega) ?_ | refine fun (K' : K3) hK' => ?_ | (refine hK' _ _ _ ?_; clear hK' K'))
      exact rfl
end Go.Proofs.YtijnimgmpocmaaaDoor

/- Waste: what the laws share: Wide, Awake. -/
namespace Go.Proofs.YtijnimgmpocmaaaDoor
open Go.RowKit
set_option linter.unusedVariables false
set_option linter.unusedSimpArgs false
theorem wide_spec (N : Int) (n : Nat) (hn : n < 9223372036854775808) : Spec Tryd.prog 14 [V.agg [C.i N, C.sl 0 n]] [] 1 (Is (V.c (.bool (decide ((n : Int) > 60))))) := by
  refine Spec.of tok Tryd.func14 rfl rfl rfl fun n0 cx => vc_ok tok ?_
  repeat ((conv => whnf); first | (refine And.intro (by first | omega | exact Nat.le_of_ble_eq_true rfl | (dsimp only [inK]; omega) | (simp only [mulS_eq]; omega) | (simp only [mulS_eq, setL_length]; omega) | (simp only [setL_length]; omega) | (simp only [setL_length, List.length_map]; omega) | (exact ⟨by omega, by omega, by first | exact Nat.le_of_ble_eq_true rfl | (dsimp only; omega) | (simp only [setL_length]; omega) | (simp only [setL_length, List.length_map]; omega)⟩) | (exact ⟨by omega, by first | rfl | omega, by omega, Nat.le_of_ble_eq_true rfl, Nat.le_of_ble_eq_true rfl⟩) | (exact ⟨rfl, rfl, rfl, Nat.le_of_ble_eq_true rfl, by first | rfl | omega | exact Nat.le_of_ble_eq_true rfl | (dsimp only; omega) | (simp; done) | (simp; omega), by first | rfl | omega | exact Nat.le_of_ble_eq_true rfl | (dsimp only; omega) | (simp; done) | (simp; omega), by omega, Nat.le_of_ble_eq_true rfl⟩) | exact Eq.refl true) ?_) | refine Exists.intro _ (And.intro rfl ?_) | refine And.intro (And.intro rfl (chk_rowI _ _ _ _)) ?_ | refine br_t (by omega) ?_ | refine br_f (by omega) ?_ | refine bs_t (by omega) ?_ | refine bs_f (by omega) ?_ | refine fun (K' : K3) hK' => ?_ | (refine hK' _ _ _ ?_; clear hK' K') | refine draw_auto tok mixed (by kernel_rfl) ?_ | refine bs_bt (Eq.refl true) ?_ | refine bs_bf (Eq.refl false) ?_ | refine br_bt (Eq.refl true) ?_ | refine br_bf (Eq.refl false) ?_ | refine CallK.m ?_ | refine Two.l ?_ | refine And.intro (And.intro rfl rfl) ?_)
  intro ρ; rfl
theorem three_knd : Knd 3 [(0, 1), (1, 2), (0, 2)] := ⟨by omega, fun p hp => by simp only [List.mem_cons, List.not_mem_nil, or_false] at hp; rcases hp with rfl | rfl | rfl <;> simp, by decide⟩
theorem three_cnt : cntO 3 [(0, 1), (1, 2), (0, 2)] 3 = 6 := by decide +kernel
set_option maxRecDepth 10000 in
theorem awake_spec : Spec Tryd.prog 16 [] [] 0 (Is (V.c (.bool true))) := by
  have hc := count_spec 3 3 [(0, 1), (1, 2), (0, 2)] three_knd
  rw [if_pos (by omega), three_cnt] at hc
  have hc : Spec Tryd.prog 25 [V.agg [C.i 3, C.sl 0 3], V.i 3] [⟨0, .ro 2, [C.i 0, C.i 1, C.i 1, C.i 2, C.i 0, C.i 2]⟩] 1 (Is (V.tup [A.c (C.i 6), A.c (C.i 0)])) := hc
  refine Spec.of tok Tryd.func16 rfl rfl rfl fun n0 cx => vc_ok tok ?_
  repeat ((conv => whnf); first | (refine And.intro (by first | omega | exact Nat.le_of_ble_eq_true rfl | (dsimp only [inK]; omega) | (simp only [mulS_eq]; omega) | (simp only [mulS_eq, setL_length]; omega) | (simp only [setL_length]; omega) | (simp only [setL_length, List.length_map]; omega) | (exact ⟨by omega, by omega, by first | exact Nat.le_of_ble_eq_true rfl | (dsimp only; omega) | (simp only [setL_length]; omega) | (simp only [setL_length, List.length_map]; omega)⟩) | (exact ⟨by omega, by first | rfl | omega, by omega, Nat.le_of_ble_eq_true rfl, Nat.le_of_ble_eq_true rfl⟩) | (exact ⟨rfl, rfl, rfl, Nat.le_of_ble_eq_true rfl, by first | rfl | omega | exact Nat.le_of_ble_eq_true rfl | (dsimp only; omega) | (simp; done) | (simp; omega), by first | rfl | omega | exact Nat.le_of_ble_eq_true rfl | (dsimp only; omega) | (simp; done) | (simp; omega), by omega, Nat.le_of_ble_eq_true rfl⟩) | exact Eq.refl true) ?_) | refine Exists.intro _ (And.intro rfl ?_) | refine And.intro (And.intro rfl (chk_rowI _ _ _ _)) ?_ | refine br_t (by omega) ?_ | refine br_f (by omega) ?_ | refine bs_t (by omega) ?_ | refine bs_f (by omega) ?_ | refine fun (K' : K3) hK' => ?_ | (refine hK' _ _ _ ?_; clear hK' K') | refine draw_auto tok mixed (by kernel_rfl) ?_ | refine CallK.val (R := [(0, some 0)]) hc (by kernel_rfl) rfl (by simp [V.wf, A.wf, C.wf, V.i]) ⟨roE_f (k := .vec 59 2) (flat_c [(0, 1), (1, 2), (0, 2)]) (l := 0) rfl (by omega) rfl (.inr rfl), trivial⟩ rfl rfl (by simp [V.wf, A.wf, C.wf]) ?_ | refine bs_bt (Eq.refl true) ?_ | refine bs_bf (Eq.refl false) ?_ | refine br_bt (Eq.refl true) ?_ | refine br_bf (Eq.refl false) ?_ | refine CallK.m ?_ | refine Two.l ?_ | refine And.intro (And.intro rfl rfl) ?_)
  intro ρ; rfl
section
variable {n0 nx : Nat} {L : List E} {K : V → List E → Nat → Prop}
theorem awake_k (hK : K (V.c (.bool true)) [] nx) : CallK Tryd.prog n0 16 [] L nx K :=
  CallK.val (R := []) awake_spec (by kernel_rfl) rfl (by simp) trivial rfl rfl trivial hK
theorem wide_k {N : Int} {n a : Nat} (hn : n < 9223372036854775808) (hK : K (V.c (.bool (decide ((n : Int) > 60)))) [] nx) : CallK Tryd.prog n0 14 [V.agg [C.i N, C.sl a n]] L nx K :=
  CallK.val (R := [(0, some a)]) (wide_spec N n hn) (by kernel_rfl) rfl (by simp [V.wf, A.wf, C.wf]) trivial rfl rfl trivial hK
end
end Go.Proofs.YtijnimgmpocmaaaDoor

/- Waste: the law of lists. -/
namespace Go.Proofs.YtijnimgmpocmaaaDoor
open Go.RowKit
set_option linter.unusedVariables false
set_option linter.unusedSimpArgs false
theorem bestK_apart {n : Nat} {qs : List (Nat × Nat)} (hk : Knd n qs) : bestK (okS (symC (clP qs)) false) (2 ^ n) = apaQ n qs :=
  bestK_congr fun s hs => okS_apart hk (Nat.lt_of_lt_of_le hs (pow_8 hk.rng.2))
theorem bestK_all {n : Nat} {qs : List (Nat × Nat)} (hk : Knd n qs) : bestK (okS (symC (clP qs)) true) (2 ^ n) = allQ n qs :=
  bestK_congr fun s hs => okS_all hk hs
set_option maxRecDepth 10000 in
theorem rApart_err (N : Int) (ps : List Cell) (hl : ps.length ≤ 100) (he : okK' N ps = false) : Spec Tryd.prog 46 [V.agg [C.i N, C.sl 0 ps.length]] [⟨0, .ro 2, cellC ps⟩] 1 (Is (V.tup [A.c .nil, A.c (C.i 70)])) := by
  have hva := rvalid_spec N ps hl
  rw [he] at hva
  refine Spec.of tok Tryd.func46 rfl rfl rfl fun n0 cx => vc_ok tok ?_
  repeat ((conv => whnf); first | refine Exists.intro _ (And.intro rfl ?_) | refine fun (K' : K3) hK' => ?_ | (refine hK' _ _ _ ?_; clear hK' K') | (refine CallK.val (R := []) hva (by kernel_rfl) rfl (by simp [V.wf, A.wf, C.wf, V.i]) ⟨roE_f (flat_c _) (l := 0) rfl (by omega) rfl (.inr rfl), trivial⟩ rfl rfl (by first | trivial | simp [V.wf, A.wf, C.wf]) ?_) | refine br_bt (Eq.refl true) ?_ | refine CallK.m ?_)
  intro ρ; rfl
set_option maxRecDepth 10000 in
theorem rAllClash_err (N : Int) (ps : List Cell) (hl : ps.length ≤ 100) (he : okK' N ps = false) : Spec Tryd.prog 43 [V.agg [C.i N, C.sl 0 ps.length]] [⟨0, .ro 2, cellC ps⟩] 1 (Is (V.tup [A.c .nil, A.c (C.i 70)])) := by
  have hva := rvalid_spec N ps hl
  rw [he] at hva
  refine Spec.of tok Tryd.func43 rfl rfl rfl fun n0 cx => vc_ok tok ?_
  repeat ((conv => whnf); first | refine Exists.intro _ (And.intro rfl ?_) | refine fun (K' : K3) hK' => ?_ | (refine hK' _ _ _ ?_; clear hK' K') | (refine CallK.val (R := []) hva (by kernel_rfl) rfl (by simp [V.wf, A.wf, C.wf, V.i]) ⟨roE_f (flat_c _) (l := 0) rfl (by omega) rfl (.inr rfl), trivial⟩ rfl rfl (by first | trivial | simp [V.wf, A.wf, C.wf]) ?_) | refine br_bt (Eq.refl true) ?_ | refine CallK.m ?_)
  intro ρ; rfl
set_option maxRecDepth 10000 in
theorem rApart_spec (n : Nat) (qs : List (Nat × Nat)) (hk : Knd n qs) : Spec Tryd.prog 46 [V.agg [C.i n, C.sl 0 (castP qs).length]] [⟨0, .ro 2, cellC (castP qs)⟩] 1 (fun v L' _ => rowI (bitsL (apaQ n qs)) v L') := by
  have hpl := castP_len qs
  have hql := knd_len hk
  have hva := rvalid_spec n (castP qs) (by omega)
  rw [knd_ok hk] at hva
  have hch := chosen_spec n qs hk false
  rw [bestK_apart hk] at hch
  refine Spec.of tok Tryd.func46 rfl rfl rfl fun n0 cx => vc_ok tok ?_
  repeat ((conv => whnf); first | refine Exists.intro _ (And.intro rfl ?_) | refine fun (K' : K3) hK' => ?_ | (refine hK' _ _ _ ?_; clear hK' K') | (refine CallK.val (R := []) hva (by kernel_rfl) rfl (by simp [V.wf, A.wf, C.wf, V.i]) ⟨roE_f (flat_c _) (l := 0) rfl (by omega) rfl (.inr rfl), trivial⟩ rfl rfl (by first | trivial | simp [V.wf, A.wf, C.wf]) ?_) | refine CallK.den (vs := [V.agg [C.i n, C.sl 0 (castP qs).length], V.c (.bool false)]) (fun _ => rfl) (by simp [V.wf, A.wf, C.wf]) (CallK.rowF (R := []) (flat_i _) hch (by kernel_rfl) rfl (by simp [V.wf, A.wf, C.wf, V.i]) ⟨roE_f (flat_c _) (l := 0) rfl (by omega) rfl (.inr rfl), trivial⟩ rfl ?_) | refine br_bf (Eq.refl false) ?_ | refine CallK.m ?_)
  exact rfl
set_option maxRecDepth 10000 in
theorem rAllClash_spec (n : Nat) (qs : List (Nat × Nat)) (hk : Knd n qs) : Spec Tryd.prog 43 [V.agg [C.i n, C.sl 0 (castP qs).length]] [⟨0, .ro 2, cellC (castP qs)⟩] 1 (fun v L' _ => rowI (bitsL (allQ n qs)) v L') := by
  have hpl := castP_len qs
  have hql := knd_len hk
  have hva := rvalid_spec n (castP qs) (by omega)
  rw [knd_ok hk] at hva
  have hch := chosen_spec n qs hk true
  rw [bestK_all hk] at hch
  refine Spec.of tok Tryd.func43 rfl rfl rfl fun n0 cx => vc_ok tok ?_
  repeat ((conv => whnf); first | refine Exists.intro _ (And.intro rfl ?_) | refine fun (K' : K3) hK' => ?_ | (refine hK' _ _ _ ?_; clear hK' K') | (refine CallK.val (R := []) hva (by kernel_rfl) rfl (by simp [V.wf, A.wf, C.wf, V.i]) ⟨roE_f (flat_c _) (l := 0) rfl (by omega) rfl (.inr rfl), trivial⟩ rfl rfl (by first | trivial | simp [V.wf, A.wf, C.wf]) ?_) | refine CallK.den (vs := [V.agg [C.i n, C.sl 0 (castP qs).length], V.c (.bool true)]) (fun _ => rfl) (by simp [V.wf, A.wf, C.wf]) (CallK.rowF (R := []) (flat_i _) hch (by kernel_rfl) rfl (by simp [V.wf, A.wf, C.wf, V.i]) ⟨roE_f (flat_c _) (l := 0) rfl (by omega) rfl (.inr rfl), trivial⟩ rfl ?_) | refine br_bf (Eq.refl false) ?_ | refine CallK.m ?_)
  exact rfl
theorem sameI_nil : Spec Tryd.prog 44 [V.c .nil, V.c .nil] [] 0 (Is (V.c (.bool true))) := by
  refine Spec.of tok Tryd.func44 rfl rfl rfl fun n0 cx => vc_ok tok ?_
  repeat ((conv => whnf); first | refine br_f (by omega) ?_ | refine fun (K' : K3) hK' => ?_ | (refine hK' _ _ _ ?_; clear hK' K'))
  refine Tri.loop (γ := Nat) (fun k => k = 0) (fun k => [(12, V.i 0), (13, V.i 0)])
    (fun k => []) 0 (fun k => 0) 0 (R0 := []) ?_ ?_ ?_
  · rfl
  · skip
    refine ⟨?_, ?_, rfl, rfl, by exact Nat.le_of_ble_eq_true rfl⟩
    · repeat (first | exact trivial | refine And.intro (covS_syn (by rfl) rfl (by exact trivial)) ?_)
    · repeat (exact trivial)
  · intro k hk
    refine vc_ok tok ?_
    repeat ((conv => whnf); first | refine br_f (by omega) ?_ | refine fun (K' : K3) hK' => ?_ | (refine hK' _ _ _ ?_; clear hK' K'))
    intro ρ; rfl
theorem sameN_spec (l : List Nat) (hl : l.length ≤ 1000) : Spec Tryd.prog 44 [V.c (.sl 0 l.length), V.c (.sl 1 l.length)] [⟨0, .ro 0, (natI l).map C.i⟩, ⟨1, .ro 0, (natI l).map C.i⟩] 2 (Is (V.c (.bool true))) := by
  have h := sameInts_spec (natI l) (natI l) (by rw [natI_len]; omega) (by rw [natI_len]; omega)
  rw [decide_eq_true rfl, natI_len] at h
  exact h
theorem sameP_spec (n : Nat) (f : Nat → Nat) (hn : n ≤ 1000) : Spec Tryd.prog 44 [V.c (.sl 0 n), V.c (.sl 1 n)] [⟨0, .ro 0, (ptL n f).map C.i⟩, ⟨1, .ro 0, (ptL n f).map C.i⟩] 2 (Is (V.c (.bool true))) := by
  have h := sameInts_spec (ptL n f) (ptL n f) (by rw [ptL_len]; omega) (by rw [ptL_len]; omega)
  rw [decide_eq_true rfl, ptL_len] at h
  exact h
section
variable (N : Int) (ps : List Cell)
theorem lists_long (hps : ps.length < 9223372036854775808) (h1 : (ps.length : Int) > 60) :
    Spec Tryd.prog 10 [V.agg [C.i N, C.sl 0 ps.length]] [⟨0, .ro 2, cellC ps⟩] 1 (Is (V.c (.bool true))) := by
  refine Spec.of tok Tryd.func10 rfl rfl rfl fun n0 cx => vc_ok tok ?_
  repeat ((conv => whnf); first | refine Exists.intro _ (And.intro rfl ?_) | refine br_t (by omega) ?_ | refine fun (K' : K3) hK' => ?_ | (refine hK' _ _ _ ?_; clear hK' K') | refine wide_k hps ?_ | refine awake_k ?_ | refine CallK.m ?_)
  intro ρ; rfl
set_option maxRecDepth 10000 in
set_option maxHeartbeats 8000000 in
theorem lists_no (h1 : ¬ (ps.length : Int) > 60) (hv : okK' N ps = false) :
    Spec Tryd.prog 10 [V.agg [C.i N, C.sl 0 ps.length]] [⟨0, .ro 2, cellC ps⟩] 1 (Is (V.c (.bool true))) := by
  have k1 := AllClash_err N ps (by omega) hv
  have k2 := rAllClash_err N ps (by omega) hv
  have k3 := Apart_err N ps (by omega) hv
  have k4 := rApart_err N ps (by omega) hv
  have k5 := Parts_err N ps (by omega) hv
  have k6 := rParts_err N ps (by omega) hv
  refine Spec.of tok Tryd.func10 rfl rfl rfl fun n0 cx => vc_ok tok ?_
  repeat ((conv => whnf); first | refine Exists.intro _ (And.intro rfl ?_) | refine br_t (by omega) ?_ | refine br_f (by omega) ?_ | refine fun (K' : K3) hK' => ?_ | (refine hK' _ _ _ ?_; clear hK' K') | refine wide_k (by omega) ?_ | (refine CallK.val (R := []) k1 (by kernel_rfl) rfl (by simp [V.wf, A.wf, C.wf, V.i]) ⟨roE_f (flat_c _) (l := 0) rfl (by omega) rfl (.inr rfl), trivial⟩ rfl rfl (by first | trivial | simp [V.wf, A.wf, C.wf]) ?_) | (refine CallK.val (R := []) k2 (by kernel_rfl) rfl (by simp [V.wf, A.wf, C.wf, V.i]) ⟨roE_f (flat_c _) (l := 0) rfl (by omega) rfl (.inr rfl), trivial⟩ rfl rfl (by first | trivial | simp [V.wf, A.wf, C.wf]) ?_) | (refine CallK.val (R := []) k3 (by kernel_rfl) rfl (by simp [V.wf, A.wf, C.wf, V.i]) ⟨roE_f (flat_c _) (l := 0) rfl (by omega) rfl (.inr rfl), trivial⟩ rfl rfl (by first | trivial | simp [V.wf, A.wf, C.wf]) ?_) | (refine CallK.val (R := []) k4 (by kernel_rfl) rfl (by simp [V.wf, A.wf, C.wf, V.i]) ⟨roE_f (flat_c _) (l := 0) rfl (by omega) rfl (.inr rfl), trivial⟩ rfl rfl (by first | trivial | simp [V.wf, A.wf, C.wf]) ?_) | (refine CallK.val (R := []) k5 (by kernel_rfl) rfl (by simp [V.wf, A.wf, C.wf, V.i]) ⟨roE_f (flat_c _) (l := 0) rfl (by omega) rfl (.inr rfl), trivial⟩ rfl rfl (by first | trivial | simp [V.wf, A.wf, C.wf]) ?_) | (refine CallK.val (R := []) k6 (by kernel_rfl) rfl (by simp [V.wf, A.wf, C.wf, V.i]) ⟨roE_f (flat_c _) (l := 0) rfl (by omega) rfl (.inr rfl), trivial⟩ rfl rfl (by first | trivial | simp [V.wf, A.wf, C.wf]) ?_) | (refine CallK.val (R := []) sameI_nil (by kernel_rfl) rfl (by simp [V.wf, A.wf, C.wf, V.i]) trivial rfl rfl (by first | trivial | simp [V.wf, A.wf, C.wf]) ?_) | refine awake_k ?_ | refine bs_bf (Eq.refl false) ?_ | refine br_bt (Eq.refl true) ?_ | refine CallK.m ?_)
  intro ρ; rfl
end
set_option maxRecDepth 10000 in
set_option maxHeartbeats 16000000 in
theorem lists_yes (n : Nat) (qs : List (Nat × Nat)) (hk : Knd n qs) :
    Spec Tryd.prog 10 [V.agg [C.i n, C.sl 0 (castP qs).length]] [⟨0, .ro 2, cellC (castP qs)⟩] 1 (Is (V.c (.bool true))) := by
  have hpl := castP_len qs
  have hql := knd_len hk
  have hn := hk.rng
  have h1 : ¬ ((castP qs).length : Int) > 60 := by omega
  have k1 := AllClash_spec n qs hk
  have k2 := rAllClash_spec n qs hk
  have k3 := Apart_spec n qs hk
  have k4 := rApart_spec n qs hk
  have k5 := Parts_spec n qs hk
  have k6 := rParts_spec n qs hk
  have hb1 := bitsL_len (allQ n qs)
  have hb2 := bitsL_len (apaQ n qs)
  have s1 := sameN_spec (bitsL (allQ n qs)) (by omega)
  have s2 := sameN_spec (bitsL (apaQ n qs)) (by omega)
  have s3 := sameP_spec n (prt n qs) (by omega)
  obtain ⟨a, ha⟩ : ∃ a, a = bitsL (allQ n qs) := ⟨_, rfl⟩
  obtain ⟨b, hb⟩ : ∃ b, b = bitsL (apaQ n qs) := ⟨_, rfl⟩
  rw [← ha] at k1 k2 s1
  rw [← hb] at k3 k4 s2
  unfold rowI at k1 k2 k3 k4
  refine Spec.of tok Tryd.func10 rfl rfl rfl fun n0 cx => vc_ok tok ?_
  repeat ((conv => whnf); first | refine Exists.intro _ (And.intro rfl ?_) | refine br_t (by omega) ?_ | refine br_f (by omega) ?_ | refine fun (K' : K3) hK' => ?_ | (refine hK' _ _ _ ?_; clear hK' K') | refine wide_k (by omega) ?_ | refine CallK.rowE (R := []) (flat_i _) k1 (by kernel_rfl) rfl (by simp [V.wf, A.wf, C.wf, V.i]) ⟨roE_f (flat_c _) (l := 0) rfl (by omega) rfl (.inr rfl), trivial⟩ rfl ?_ | refine CallK.rowE (R := []) (flat_i _) k2 (by kernel_rfl) rfl (by simp [V.wf, A.wf, C.wf, V.i]) ⟨roE_f (flat_c _) (l := 0) rfl (by omega) rfl (.inr rfl), trivial⟩ rfl ?_ | (refine CallK.val (R := [(0, some 2), (1, some 3)]) s1 (by kernel_rfl) rfl (by simp [V.wf, A.wf, C.wf, V.i]) ⟨roE_f (flat_i _) (l := 2) rfl (by omega) rfl (.inl rfl), roE_f (flat_i _) (l := 3) rfl (by omega) rfl (.inl rfl), trivial⟩ rfl rfl (by first | trivial | simp [V.wf, A.wf, C.wf]) ?_) | refine CallK.rowE (R := []) (flat_i _) k3 (by kernel_rfl) rfl (by simp [V.wf, A.wf, C.wf, V.i]) ⟨roE_f (flat_c _) (l := 0) rfl (by omega) rfl (.inr rfl), trivial⟩ rfl ?_ | refine CallK.rowE (R := []) (flat_i _) k4 (by kernel_rfl) rfl (by simp [V.wf, A.wf, C.wf, V.i]) ⟨roE_f (flat_c _) (l := 0) rfl (by omega) rfl (.inr rfl), trivial⟩ rfl ?_ | (refine CallK.val (R := [(0, some 4), (1, some 5)]) s2 (by kernel_rfl) rfl (by simp [V.wf, A.wf, C.wf, V.i]) ⟨roE_f (flat_i _) (l := 4) rfl (by omega) rfl (.inl rfl), roE_f (flat_i _) (l := 5) rfl (by omega) rfl (.inl rfl), trivial⟩ rfl rfl (by first | trivial | simp [V.wf, A.wf, C.wf]) ?_) | refine CallK.rowE (R := []) (flat_i _) k5 (by kernel_rfl) rfl (by simp [V.wf, A.wf, C.wf, V.i]) ⟨roE_f (flat_c _) (l := 0) rfl (by omega) rfl (.inr rfl), trivial⟩ rfl ?_ | refine CallK.rowE (R := []) (flat_i _) k6 (by kernel_rfl) rfl (by simp [V.wf, A.wf, C.wf, V.i]) ⟨roE_f (flat_c _) (l := 0) rfl (by omega) rfl (.inr rfl), trivial⟩ rfl ?_ | (refine CallK.val (R := [(0, some 6), (1, some 7)]) s3 (by kernel_rfl) rfl (by simp [V.wf, A.wf, C.wf, V.i]) ⟨roE_f (flat_i _) (l := 6) rfl (by omega) rfl (.inl rfl), roE_f (flat_i _) (l := 7) rfl (by omega) rfl (.inl rfl), trivial⟩ rfl rfl (by first | trivial | simp [V.wf, A.wf, C.wf]) ?_) | refine awake_k ?_ | refine bs_bf (Eq.refl false) ?_ | refine br_bt (Eq.refl true) ?_ | refine CallK.m ?_)
  intro ρ; rfl
theorem lists_any (N : Int) (ps : List Cell) (ao : Option Addr) (c : Nat) (w : World) (h : CellsAt w ao c ps) (hF : Fct w.heap.size w) :
    Calls Tryd.prog 10 #[.agg #[.int .i64 N, .slice ao ps.length c]] w fun e w' => e = .returned (.bool true) ∧ Below w.heap.size w w' := by
  by_cases hl : (ps.length : Int) > 60
  · exact isTrue_any (vs := [V.agg [C.i N, C.sl 0 ps.length]]) (lists_long N ps h.2.2 hl) (hp_k h hF) (by simp [V.wf, A.wf, C.wf]) rfl
  · cases hv : okK' N ps with
    | false => exact isTrue_any (vs := [V.agg [C.i N, C.sl 0 ps.length]]) (lists_no N ps hl hv) (hp_k h hF) (by simp [V.wf, A.wf, C.wf]) rfl
    | true =>
      obtain ⟨n, qs, rfl, rfl, hk⟩ := knd_of hv
      exact isTrue_any (vs := [V.agg [C.i n, C.sl 0 (castP qs).length]]) (lists_yes n qs hk) (hp_k h hF) (by simp [V.wf, A.wf, C.wf]) rfl
end Go.Proofs.YtijnimgmpocmaaaDoor

/- Waste: what the listed variables give; a start that meets the condition. -/
namespace Go.Proofs.YtijnimgmpocmaaaDoor
open Go.RowKit
set_option linter.unusedVariables false
set_option linter.unusedSimpArgs false
open Go.ChangeShapes Go.WideShapes Go.ChangeAt Go.RowKit Go.Deep Go.Joins
abbrev laidV : List (String × DataW Unit) := [("math/bits.deBruijn32tab", Rows.laid_math_bits_deBruijn32tab), ("math/bits.deBruijn64tab", Rows.laid_math_bits_deBruijn64tab)]
theorem gTab : Tryd.prog.globalNamed "math/bits.deBruijn64tab" = some 1 := by kernel_rfl
theorem tTab : (Tryd.prog.globals[1]?).map (·.type) = some 120 := by kernel_rfl
theorem tabDat : (Rows.laid_math_bits_deBruijn64tab (H := Unit)) = .agg (Lib.deBruijn64tab.map fun n : Nat => .lit (.int .u8 n)) := rfl
set_option maxRecDepth 10000 in
theorem fct_of_laid {W : World} (h : laidMetH Tryd.prog laidV W) : Fct W.heap.size W := by
  have h' : laidMet Tryd.prog laidV W := h
  obtain ⟨ps, ⟨_, _, _, _, _, _, _, _, _, _, ⟨g, t, cs, fuel, p, q, hg, ht, hv, hd, _⟩, _⟩, _⟩ := h'
  obtain rfl := Option.some.inj (gTab.symm.trans hg)
  obtain rfl := Option.some.inj (tTab.symm.trans ht)
  rw [tabDat] at hd
  obtain ⟨xs, m, _, hx, hl, hxl, hgo⟩ := DataW.trod_array Tryd.underlying120 hd
  have hc1 : Tryd.prog.cellsOf 5 = 1 := by kernel_rfl
  have hc64 : Tryd.prog.cellsOf 120 = 64 := by kernel_rfl
  rw [hc64] at hl
  have hcell : ∀ j, j < Lib.deBruijn64tab.length → W.cell? ⟨1, j, none⟩ = some (.int .u8 (Lib.deBruijn64tab.getD j 0)) := by
    intro j hj
    have hj64 : j < 64 := hj
    have h3 := hgo j hj64
    rw [hc1, Nat.mul_one] at h3
    obtain ⟨y, hy⟩ : ∃ y, xs[j]? = some y := ⟨xs[j]'(by omega), List.getElem?_eq_getElem _⟩
    rw [hy] at h3
    obtain ⟨u, hu⟩ : ∃ u, cs.toList[j]? = some u := ⟨cs.toList[j]'(by omega), List.getElem?_eq_getElem _⟩
    have e1 : (cs.toList.drop j).take 1 = [u] := by
      rw [List.take_one, List.head?_drop, hu]; rfl
    rw [e1] at h3
    obtain ⟨z, e0, e2, _⟩ := DataW.trod_int Tryd.underlying5 h3
    have e0 : u = .int .u8 z := by simpa using e0
    have hxm : xs.map (·.1) = Lib.deBruijn64tab.map fun n : Nat => (DataW.lit (.int .u8 n) : DataW Unit) := by
      have := congrArg Prod.fst hx
      simp only [DataW.agg.injEq] at this
      exact this.symm
    have hym : (xs.map (·.1))[j]? = some y.1 := by rw [List.getElem?_map, hy]; rfl
    rw [hxm, List.getElem?_map] at hym
    have hz : (DataW.lit (.int .u8 (Lib.deBruijn64tab.getD j 0 : Nat)) : DataW Unit) = y.1 := by
      rw [List.getElem?_eq_getElem hj] at hym
      simp only [Option.map_some, Option.some.injEq] at hym
      rw [← hym, List.getD_eq_getElem?_getD, List.getElem?_eq_getElem hj]; rfl
    have hzz : (Lib.deBruijn64tab.getD j 0 : Int) = z := by
      rw [e2] at hz
      simpa using hz
    have hw := World.var?_cell gTab hv j
    rw [hw]
    have : cs[j]? = some u := by rw [← Array.getElem?_toList]; exact hu
    rw [this, e0, hzz]
  have h0 := hcell 0 (by decide)
  have hlt := World.block_lt_of_cell? _ _ h0
  refine ⟨hlt, ?_⟩
  have h1 := h0
  unfold World.cell? at h1
  cases hb : W.heap[1]? with
  | none => simp [hb] at h1
  | some o =>
    cases o with
    | cells c t fr => exact ⟨c, t, fr, rfl, hcell⟩
    | _ => simp [hb] at h1
theorem door_met (os : Os) (args : Array Value) : laidMetH Tryd.prog laidV ((World.doorLaid Tryd.prog 19 os).forCall (fun _ _ => 0) ⟨#[], args, []⟩).memory :=
  laidMetH_of_parts3 (fuel := 8) (laidMet_of_run' 8 (by kernel_rfl) (by kernel_rfl)) (by kernel_rfl) (by kernel_rfl)
end Go.Proofs.YtijnimgmpocmaaaDoor

