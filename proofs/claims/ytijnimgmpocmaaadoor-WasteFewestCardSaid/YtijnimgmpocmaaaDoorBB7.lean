/- Texts of the proof, part 7: L11, D1. -/
import Derived.Test.YtijnimgmpocmaaaDoorBB6
import Derived.WalkKit
import Derived.Below
import Derived.Lib.TrailingZeros
import Derived.Laws.OwnMore
import Derived.Maps.AppendAt
import Derived.Laws.IdiomCopy
import Derived.Laws.CopyRow
import Derived.IntWalk
import Derived.StillTail
import Derived.Scope
import Derived.ChangeKeysEq
import Derived.Laws.Small
import Derived.OrdersIn
import Derived.TacticsIn
import Derived.OwnWalkIn
import Derived.RangeFuncNested
import Derived.RangeFuncLeaves
import Derived.RangeFuncRecord
import Derived.Maps.Keyed
import Derived.Maps.RangeRun
import Derived.DeepKeys4
import Derived.Test.YtijnimgmpocmaaaDoorRows
import Derived.KernelRfl
import Derived.Shelf.Spec.TrailingZeros
import Derived.PlainAid
import Derived.StillTailTactics
import Derived.WalkSpells
import Derived.OwnWalk
import Derived.Deep.RegionLaw
import Derived.Lib.SliceRun
import Derived.Deep.OwnRows
import Derived.LoopTactic
import Derived.Lib.Hide
import Derived.ProofKit
import Derived.OpenShut
import Derived.Lib.SmallJoins
import Derived.Deep.Slices
import Derived.Deep.RegionHeld3
import Derived.LaidMore
import Derived.Stop.Joined
/- Waste: the law of the fewest skips. -/
namespace Go.Proofs.YtijnimgmpocmaaaDoor
open Go.RowKit
set_option linter.unusedVariables false
set_option linter.unusedSimpArgs false
section
variable (N : Int) (ps : List Cell) (l : List Int)
theorem few_long (hps : ps.length < 9223372036854775808) (hll : l.length < 9223372036854775808) (h : (ps.length : Int) > 60 ∨ (l.length : Int) > 60) :
    Spec Tryd.prog 11 [V.agg [C.i N, C.sl 0 ps.length], V.c (.sl 1 l.length)] [⟨0, .ro 2, cellC ps⟩, ⟨1, .ro 1, l.map C.i⟩] 2 (Is (V.c (.bool true))) := by
  refine Spec.of tok Tryd.func11 rfl rfl rfl fun n0 cx => vc_ok tok ?_
  by_cases h1 : (ps.length : Int) > 60
  · repeat ((conv => whnf); first | refine Exists.intro _ (And.intro rfl ?_) | refine bs_t (by omega) ?_ | refine fun (K' : K3) hK' => ?_ | (refine hK' _ _ _ ?_; clear hK' K') | refine wide_k hps ?_ | refine awake_k ?_ | refine CallK.m ?_)
    intro ρ; rfl
  · have h2 : (l.length : Int) > 60 := by omega
    repeat ((conv => whnf); first | refine Exists.intro _ (And.intro rfl ?_) | refine bs_t (by omega) ?_ | refine bs_f (by omega) ?_ | refine fun (K' : K3) hK' => ?_ | (refine hK' _ _ _ ?_; clear hK' K') | refine wide_k hps ?_ | refine long_k hll ?_ | refine awake_k ?_ | refine CallK.m ?_)
    intro ρ; rfl
set_option maxRecDepth 10000 in
theorem few_no (h1 : ¬ (ps.length : Int) > 60) (h2 : ¬ (l.length : Int) > 60) (hv : okK' N ps = false) :
    Spec Tryd.prog 11 [V.agg [C.i N, C.sl 0 ps.length], V.c (.sl 1 l.length)] [⟨0, .ro 2, cellC ps⟩, ⟨1, .ro 1, l.map C.i⟩] 2 (Is (V.c (.bool true))) := by
  have k6 := rvalid_spec N ps (by omega)
  rw [hv] at k6
  refine Spec.of tok Tryd.func11 rfl rfl rfl fun n0 cx => vc_ok tok ?_
  repeat ((conv => whnf); first | refine Exists.intro _ (And.intro rfl ?_) | refine bs_f (by omega) ?_ | refine fun (K' : K3) hK' => ?_ | (refine hK' _ _ _ ?_; clear hK' K') | refine wide_k (by omega) ?_ | refine long_k (by omega) ?_ | (refine CallK.val (R := []) k6 (by kernel_rfl) rfl (by simp [V.wf, A.wf, C.wf, V.i]) ⟨roE_f (flat_c _) (l := 0) rfl (by omega) rfl (.inr rfl), trivial⟩ rfl rfl (by first | trivial | simp [V.wf, A.wf, C.wf]) ?_) | refine awake_k ?_ | refine br_bt (Eq.refl true) ?_ | refine CallK.m ?_)
  intro ρ; rfl
end
section
variable (n : Nat) (qs : List (Nat × Nat)) (l : List Int) (hk : Knd n qs) (h2 : ¬ (l.length : Int) > 60)
include hk h2
set_option maxRecDepth 20000 in
set_option maxHeartbeats 64000000 in
theorem few_yes : Spec Tryd.prog 11 [V.agg [C.i n, C.sl 0 (castP qs).length], V.c (.sl 1 l.length)] [⟨0, .ro 2, cellC (castP qs)⟩, ⟨1, .ro 1, l.map C.i⟩] 2 (Is (V.c (.bool true))) := by
  have hn := hk.rng
  have hpl : (castP qs).length ≤ 28 := by rw [castP_len]; exact knd_len hk
  have h1 : ¬ ((castP qs).length : Int) > 60 := by omega
  have kv := rvalid_spec n (castP qs) (by omega)
  rw [knd_ok hk] at kv
  obtain ⟨k, hf, hk1, hkn, hi⟩ := few_nat hk
  have k1 := Fewest_spec n qs hk
  rw [hf] at k1
  clear hf
  obtain ⟨r, hr, hrl, hrb, hrr⟩ := frst_k hk (Nat.le_refl k) hi
  have k2 := First_some n k qs hk (by omega) r hr
  have hnl : (natI r).length = n := by rw [natI_len, hrl]
  have hrn : rgtP qs (natI r) = true := rgt_natI hk hrl hrr
  have hrf : isF n (natI r) = true := by
    unfold isF
    rw [hnl, decide_eq_true rfl, Bool.true_and, Bool.not_eq_true', List.any_eq_false]
    intro z hz
    obtain ⟨a, ha, rfl⟩ := List.mem_map.1 hz
    have := hrb a ha
    have h3 : 0 ≤ ((a : Nat) : Int) ∧ ((a : Nat) : Int) ≤ 1000 := by omega
    show ¬ (!decide (0 ≤ ((a : Nat) : Int) ∧ ((a : Nat) : Int) ≤ 1000)) = true
    rw [decide_eq_true h3]; simp
  have k3 : Spec Tryd.prog 17 [V.agg [C.i n, C.sl 0 (castP qs).length], V.c (.sl 1 n)] [⟨0, .ro 2, cellC (castP qs)⟩, ⟨1, .ro 0, (natI r).map C.i⟩] 2 (Is (V.tup [A.c (.bool true), A.c (C.i 0)])) := by
    have h := Right_spec n qs (natI r) hk (by omega)
    unfold rightO at h
    rw [hrf, hrn, hnl] at h
    exact h
  have hk1' : ((k : Int) - 1) = ((k - 1 : Nat) : Int) := by omega
  have k4 : Spec Tryd.prog 48 [V.agg [C.i n, C.sl 0 (castP qs).length], V.i ((k : Int) - 1)] [⟨0, .ro 2, cellC (castP qs)⟩] 1 (Is (V.tup [A.c .nil, A.c (C.i 5)])) := by
    rw [hk1']; exact First_none n (k - 1) qs hk (by omega) (frst_no hk (by omega) hi)
  have k5 := AllClash_spec n qs hk
  have k6 := Apart_spec n qs hk
  have c0 : cntO n qs ((k : Int) - 1) = 0 := by rw [hk1']; exact (cnt_k hk hi (k - 1)).1 (by omega)
  have c1 : 1 ≤ cntO n qs (k : Int) := (cnt_k hk hi k).2 (Nat.le_refl _)
  have k7 := count_spec n ((k : Int) - 1) qs hk
  rw [if_pos (by omega), c0] at k7
  have k8 := count_spec n (k : Int) qs hk
  rw [if_pos (by omega)] at k8
  have b1 := all_few hk hi
  have b2 := apart_few hk hi
  have u1 : usd (natI r) = k := Nat.le_antisymm (usd_le fun z hz => by
    obtain ⟨a, ha, rfl⟩ := List.mem_map.1 hz
    have := hrb a ha; omega) (usd_ge hk hi hnl hrn)
  have k9 := used_spec (natI r) (by omega)
  rw [u1, hnl] at k9
  have k10 := Other_spec n qs hk
  have hok := otQ_knd hk
  have k11 := AllClash_spec n (otQ n qs) hok
  rw [all_other hk] at k11
  have hol : (castP (otQ n qs)).length ≤ 28 := by rw [castP_len]; exact knd_len hok
  have hl1 := bitsL_len (allQ n qs)
  have hl2 := bitsL_len (apaQ n qs)
  have s1 := sameN_spec (bitsL (apaQ n qs)) (by omega)
  have k12 := Right_spec n qs l hk (by omega)
  have k13 := used_spec l (by omega)
  have hug := fun h1 h2 => usd_ge hk hi (l := l) h1 h2
  obtain ⟨c, hc⟩ : ∃ c, c = cntO n qs (k : Int) := ⟨_, rfl⟩
  rw [← hc] at k8 c1
  obtain ⟨a, ha⟩ : ∃ a, a = bitsL (allQ n qs) := ⟨_, rfl⟩
  rw [← ha] at k5 b1 hl1
  obtain ⟨b, hb⟩ : ∃ b, b = bitsL (apaQ n qs) := ⟨_, rfl⟩
  rw [← hb] at k6 k11 s1 b2 hl2
  obtain ⟨pq, hpq⟩ : ∃ pq, pq = castP (otQ n qs) := ⟨_, rfl⟩
  rw [← hpq] at k10 k11 hol
  unfold rowI at k2 k5 k6 k11
  rw [hrl] at k2
  have t1 : ¬ (k : Int) < 1 := by omega
  have t2 : ¬ (k : Int) > n := by omega
  have t3 : ¬ c < 1 := by omega
  have t4 : ¬ (k : Int) < (a.length : Nat) := by omega
  have t5 : ¬ (k : Int) * ((b.length : Nat) : Int) < n := by
    have := Int.ofNat_le.2 b2
    rw [Int.natCast_mul] at this; omega
  have t6 : ¬ ((k : Nat) : Int) ≠ (k : Nat) := fun h => h rfl
  have t7 : 0 ≤ (k : Int) * ((b.length : Nat) : Int) ∧ (k : Int) * ((b.length : Nat) : Int) ≤ 64 := by
    have : k * b.length ≤ 8 * 8 := Nat.mul_le_mul (by omega) hl2
    rw [← Int.natCast_mul]; omega
  have cases3 : (∃ e : Int, e ≠ 0 ∧ rightO n qs l = V.tup [A.c .ff, A.c (C.i e)]) ∨ rightO n qs l = V.tup [A.c (.bool false), A.c (C.i 0)] ∨ (rightO n qs l = V.tup [A.c (.bool true), A.c (C.i 0)] ∧ k ≤ usd l) := by
    unfold rightO
    cases hfi : isF n l with
    | false => exact .inl ⟨71, by omega, rfl⟩
    | true =>
      cases hrg : rgtP qs l with
      | false => exact .inr (.inl rfl)
      | true => exact .inr (.inr ⟨rfl, hug (isF_len hfi) hrg⟩)
  refine Spec.of tok Tryd.func11 rfl rfl rfl fun n0 cx => vc_ok tok ?_
  repeat ((conv => whnf); first | (refine And.intro (by first | omega | exact Nat.le_of_ble_eq_true rfl | (dsimp only [inK]; omega)) ?_) | refine Exists.intro _ (And.intro rfl ?_) | refine br_f (by omega) ?_ | refine bs_f (by omega) ?_ | refine fun (K' : K3) hK' => ?_ | (refine hK' _ _ _ ?_; clear hK' K') | refine wide_k (by omega) ?_ | refine long_k (by omega) ?_ | (refine CallK.val (R := []) kv (by kernel_rfl) rfl (by simp [V.wf, A.wf, C.wf, V.i]) ⟨roE_f (flat_c _) (l := 0) rfl (by omega) rfl (.inr rfl), trivial⟩ rfl rfl (by first | trivial | simp [V.wf, A.wf, C.wf]) ?_) | (refine CallK.val (R := []) k1 (by kernel_rfl) rfl (by simp [V.wf, A.wf, C.wf, V.i]) ⟨roE_f (flat_c _) (l := 0) rfl (by omega) rfl (.inr rfl), trivial⟩ rfl rfl (by first | trivial | simp [V.wf, A.wf, C.wf]) ?_) | refine CallK.rowE (R := []) (flat_i _) k2 (by kernel_rfl) rfl (by simp [V.wf, A.wf, C.wf, V.i]) ⟨roE_f (flat_c _) (l := 0) rfl (by omega) rfl (.inr rfl), trivial⟩ rfl ?_ | (refine CallK.val (R := [(0, some 0), (1, some 3)]) k3 (by kernel_rfl) rfl (by simp [V.wf, A.wf, C.wf, V.i]) ⟨roE_f (flat_c _) (l := 0) rfl (by omega) rfl (.inr rfl), roE_f (flat_i _) (l := 3) rfl (by omega) rfl (.inl rfl), trivial⟩ rfl rfl (by first | trivial | simp [V.wf, A.wf, C.wf]) ?_) | (refine CallK.val (R := []) k4 (by kernel_rfl) rfl (by simp [V.wf, A.wf, C.wf, V.i]) ⟨roE_f (flat_c _) (l := 0) rfl (by omega) rfl (.inr rfl), trivial⟩ rfl rfl (by first | trivial | simp [V.wf, A.wf, C.wf]) ?_) | refine CallK.rowE (R := []) (flat_i _) k5 (by kernel_rfl) rfl (by simp [V.wf, A.wf, C.wf, V.i]) ⟨roE_f (flat_c _) (l := 0) rfl (by omega) rfl (.inr rfl), trivial⟩ rfl ?_ | refine CallK.rowE (R := []) (flat_i _) k6 (by kernel_rfl) rfl (by simp [V.wf, A.wf, C.wf, V.i]) ⟨roE_f (flat_c _) (l := 0) rfl (by omega) rfl (.inr rfl), trivial⟩ rfl ?_ | (refine CallK.val (R := []) k7 (by kernel_rfl) rfl (by simp [V.wf, A.wf, C.wf, V.i]) ⟨roE_f (flat_c _) (l := 0) rfl (by omega) rfl (.inr rfl), trivial⟩ rfl rfl (by first | trivial | simp [V.wf, A.wf, C.wf]) ?_) | (refine CallK.val (R := []) k8 (by kernel_rfl) rfl (by simp [V.wf, A.wf, C.wf, V.i]) ⟨roE_f (flat_c _) (l := 0) rfl (by omega) rfl (.inr rfl), trivial⟩ rfl rfl (by first | trivial | simp [V.wf, A.wf, C.wf]) ?_) | (refine CallK.val (R := [(0, some 3)]) k9 (by kernel_rfl) rfl (by simp [V.wf, A.wf, C.wf, V.i]) ⟨roE_f (flat_i _) (l := 3) rfl (by omega) rfl (.inr rfl), trivial⟩ rfl rfl (by first | trivial | simp [V.wf, A.wf, C.wf]) ?_) | refine CallK.rowA (R := []) (flat_c _) k10 (by kernel_rfl) rfl (by simp [V.wf, A.wf, C.wf, V.i]) ⟨roE_f (flat_c _) (l := 0) rfl (by omega) rfl (.inr rfl), trivial⟩ rfl ?_ | refine CallK.rowE (R := [(0, some 6)]) (flat_i _) k11 (by kernel_rfl) rfl (by simp [V.wf, A.wf, C.wf, V.i]) ⟨roE_f (flat_c _) (l := 6) rfl (by omega) rfl (.inr rfl), trivial⟩ rfl ?_ | (refine CallK.val (R := [(0, some 8), (1, some 5)]) s1 (by kernel_rfl) rfl (by simp [V.wf, A.wf, C.wf, V.i]) ⟨roE_f (flat_i _) (l := 8) rfl (by omega) rfl (.inl rfl), roE_f (flat_i _) (l := 5) rfl (by omega) rfl (.inl rfl), trivial⟩ rfl rfl (by first | trivial | simp [V.wf, A.wf, C.wf]) ?_) | refine bs_bf (Eq.refl false) ?_ | refine br_bf (Eq.refl false) ?_ | refine CallK.m ?_)
  rcases cases3 with ⟨e, he, hro⟩ | hro | ⟨hro, hus⟩
  · rw [hro] at k12
    repeat ((conv => whnf); first | refine bs_t (by omega) ?_ | refine fun (K' : K3) hK' => ?_ | (refine hK' _ _ _ ?_; clear hK' K') | (refine CallK.val (R := []) k12 (by kernel_rfl) rfl (by simp [V.wf, A.wf, C.wf, V.i]) ⟨roE_f (flat_c _) (l := 0) rfl (by omega) rfl (.inr rfl), roE_f (flat_i _) (l := 1) rfl (by omega) rfl (.inl rfl), trivial⟩ rfl rfl (by first | trivial | simp [V.wf, A.wf, C.wf]) ?_) | refine awake_k ?_ | refine CallK.m ?_)
    intro ρ; rfl
  · rw [hro] at k12
    repeat ((conv => whnf); first | refine bs_f (by omega) ?_ | refine fun (K' : K3) hK' => ?_ | (refine hK' _ _ _ ?_; clear hK' K') | (refine CallK.val (R := []) k12 (by kernel_rfl) rfl (by simp [V.wf, A.wf, C.wf, V.i]) ⟨roE_f (flat_c _) (l := 0) rfl (by omega) rfl (.inr rfl), roE_f (flat_i _) (l := 1) rfl (by omega) rfl (.inl rfl), trivial⟩ rfl rfl (by first | trivial | simp [V.wf, A.wf, C.wf]) ?_) | refine awake_k ?_ | refine bs_bt (Eq.refl true) ?_ | refine CallK.m ?_)
    intro ρ; rfl
  · rw [hro] at k12
    have t8 : ((usd l : Nat) : Int) ≥ (k : Nat) := by omega
    repeat ((conv => whnf); first | refine br_t (by omega) ?_ | refine bs_f (by omega) ?_ | refine fun (K' : K3) hK' => ?_ | (refine hK' _ _ _ ?_; clear hK' K') | (refine CallK.val (R := []) k12 (by kernel_rfl) rfl (by simp [V.wf, A.wf, C.wf, V.i]) ⟨roE_f (flat_c _) (l := 0) rfl (by omega) rfl (.inr rfl), roE_f (flat_i _) (l := 1) rfl (by omega) rfl (.inl rfl), trivial⟩ rfl rfl (by first | trivial | simp [V.wf, A.wf, C.wf]) ?_) | (refine CallK.val (R := [(0, some 1)]) k13 (by kernel_rfl) rfl (by simp [V.wf, A.wf, C.wf, V.i]) ⟨roE_f (flat_i _) (l := 1) rfl (by omega) rfl (.inr rfl), trivial⟩ rfl rfl (by first | trivial | simp [V.wf, A.wf, C.wf]) ?_) | refine awake_k ?_ | refine bs_bf (Eq.refl false) ?_ | refine CallK.m ?_)
    intro ρ; rfl
end
theorem few_any (N : Int) (ps : List Cell) (l : List Int) (ao bo : Option Addr) (c d : Nat) (w : World) (h : CellsAt w ao c ps) (hb : IntsC w bo d l) (hF : Fct w.heap.size w) :
    Calls Tryd.prog 11 #[.agg #[.int .i64 N, .slice ao ps.length c], .slice bo l.length d] w fun e w' => e = .returned (.bool true) ∧ Below w.heap.size w w' := by
  by_cases hl : (ps.length : Int) > 60 ∨ (l.length : Int) > 60
  · exact isTrue_any (vs := [V.agg [C.i N, C.sl 0 ps.length], V.c (.sl 1 l.length)]) (few_long N ps l h.2.2 hb.1.2 hl) (hp_ki1 h hb hF) (by simp [V.wf, A.wf, C.wf]) rfl
  · have h1 : ¬ (ps.length : Int) > 60 := fun h => hl (.inl h)
    have h2 : ¬ (l.length : Int) > 60 := fun h => hl (.inr h)
    cases hv : okK' N ps with
    | false => exact isTrue_any (vs := [V.agg [C.i N, C.sl 0 ps.length], V.c (.sl 1 l.length)]) (few_no N ps l h1 h2 hv) (hp_ki1 h hb hF) (by simp [V.wf, A.wf, C.wf]) rfl
    | true =>
      obtain ⟨n, qs, rfl, rfl, hk⟩ := knd_of hv
      exact isTrue_any (vs := [V.agg [C.i n, C.sl 0 (castP qs).length], V.c (.sl 1 l.length)]) (few_yes n qs l hk h2) (hp_ki1 h hb hF) (by simp [V.wf, A.wf, C.wf]) rfl
end Go.Proofs.YtijnimgmpocmaaaDoor

/- Waste: what the listed variables give; a start that meets the condition. -/
namespace Go.Proofs.YtijnimgmpocmaaaDoor
open Go.RowKit
set_option linter.unusedVariables false
set_option linter.unusedSimpArgs false
open Go.ChangeShapes Go.WideShapes Go.ChangeAt Go.RowKit Go.Deep Go.Joins
abbrev laidV : List (String × DataW Unit) := [("math/bits.deBruijn32tab", Rows.laid_math_bits_deBruijn32tab), ("math/bits.deBruijn64tab", Rows.laid_math_bits_deBruijn64tab)]
theorem gTab : Tryd.prog.globalNamed "math/bits.deBruijn64tab" = some 1 := by kernel_rfl
theorem tTab : (Tryd.prog.globals[1]?).map (·.type) = some 120 := by kernel_rfl
theorem tabDat : (Rows.laid_math_bits_deBruijn64tab (H := Unit)) = .agg (Lib.deBruijn64tab.map fun n : Nat => .lit (.int .u8 n)) := rfl
set_option maxRecDepth 10000 in
theorem fct_of_laid {W : World} (h : laidMetH Tryd.prog laidV W) : Fct W.heap.size W := by
  have h' : laidMet Tryd.prog laidV W := h
  obtain ⟨ps, ⟨_, _, _, _, _, _, _, _, _, _, ⟨g, t, cs, fuel, p, q, hg, ht, hv, hd, _⟩, _⟩, _⟩ := h'
  obtain rfl := Option.some.inj (gTab.symm.trans hg)
  obtain rfl := Option.some.inj (tTab.symm.trans ht)
  rw [tabDat] at hd
  obtain ⟨xs, m, _, hx, hl, hxl, hgo⟩ := DataW.trod_array Tryd.underlying120 hd
  have hc1 : Tryd.prog.cellsOf 5 = 1 := by kernel_rfl
  have hc64 : Tryd.prog.cellsOf 120 = 64 := by kernel_rfl
  rw [hc64] at hl
  have hcell : ∀ j, j < Lib.deBruijn64tab.length → W.cell? ⟨1, j, none⟩ = some (.int .u8 (Lib.deBruijn64tab.getD j 0)) := by
    intro j hj
    have hj64 : j < 64 := hj
    have h3 := hgo j hj64
    rw [hc1, Nat.mul_one] at h3
    obtain ⟨y, hy⟩ : ∃ y, xs[j]? = some y := ⟨xs[j]'(by omega), List.getElem?_eq_getElem _⟩
    rw [hy] at h3
    obtain ⟨u, hu⟩ : ∃ u, cs.toList[j]? = some u := ⟨cs.toList[j]'(by omega), List.getElem?_eq_getElem _⟩
    have e1 : (cs.toList.drop j).take 1 = [u] := by
      rw [List.take_one, List.head?_drop, hu]; rfl
    rw [e1] at h3
    obtain ⟨z, e0, e2, _⟩ := DataW.trod_int Tryd.underlying5 h3
    have e0 : u = .int .u8 z := by simpa using e0
    have hxm : xs.map (·.1) = Lib.deBruijn64tab.map fun n : Nat => (DataW.lit (.int .u8 n) : DataW Unit) := by
      have := congrArg Prod.fst hx
      simp only [DataW.agg.injEq] at this
      exact this.symm
    have hym : (xs.map (·.1))[j]? = some y.1 := by rw [List.getElem?_map, hy]; rfl
    rw [hxm, List.getElem?_map] at hym
    have hz : (DataW.lit (.int .u8 (Lib.deBruijn64tab.getD j 0 : Nat)) : DataW Unit) = y.1 := by
      rw [List.getElem?_eq_getElem hj] at hym
      simp only [Option.map_some, Option.some.injEq] at hym
      rw [← hym, List.getD_eq_getElem?_getD, List.getElem?_eq_getElem hj]; rfl
    have hzz : (Lib.deBruijn64tab.getD j 0 : Int) = z := by
      rw [e2] at hz
      simpa using hz
    have hw := World.var?_cell gTab hv j
    rw [hw]
    have : cs[j]? = some u := by rw [← Array.getElem?_toList]; exact hu
    rw [this, e0, hzz]
  have h0 := hcell 0 (by decide)
  have hlt := World.block_lt_of_cell? _ _ h0
  refine ⟨hlt, ?_⟩
  have h1 := h0
  unfold World.cell? at h1
  cases hb : W.heap[1]? with
  | none => simp [hb] at h1
  | some o =>
    cases o with
    | cells c t fr => exact ⟨c, t, fr, rfl, hcell⟩
    | _ => simp [hb] at h1
theorem door_met (os : Os) (args : Array Value) : laidMetH Tryd.prog laidV ((World.doorLaid Tryd.prog 19 os).forCall (fun _ _ => 0) ⟨#[], args, []⟩).memory :=
  laidMetH_of_parts3 (fuel := 8) (laidMet_of_run' 8 (by kernel_rfl) (by kernel_rfl)) (by kernel_rfl) (by kernel_rfl)
end Go.Proofs.YtijnimgmpocmaaaDoor

