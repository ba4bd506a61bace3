/- Texts of the proof, part 4: C3, R1, B9c, O1, L0, R2, P4, P7, H1, B4, R3, R4, R5, B8, B9. -/
import Derived.Test.YtbhpnhcdjmcaoaaV3
import Derived.WalkKit
import Derived.Below
import Derived.Laws.OwnMore
import Derived.Maps.AppendAt
import Derived.Laws.IdiomCopy
import Derived.Laws.CopyRow
import Derived.IntWalk
import Derived.StillTail
import Derived.Scope
import Derived.ChangeKeysEq
import Derived.Laws.Small
import Derived.OrdersIn
import Derived.TacticsIn
import Derived.OwnWalkIn
import Derived.RangeFuncNested
import Derived.RangeFuncLeaves
import Derived.RangeFuncRecord
import Derived.Maps.Keyed
import Derived.Maps.RangeRun
import Derived.DeepKeys4
import Derived.Test.YtbhpnhcdjmcaoaaRows
import Derived.KernelRfl
import Derived.ProofKit
import Derived.OpenShut
import Derived.Lib.SmallJoins
import Derived.Deep.Slices
/- Boom: callers of newChart. -/
namespace Go.Proofs.Ytbhpnhcdjmcaoaa
open Go.RowKit
set_option linter.unusedVariables false
set_option linter.unusedSimpArgs false
@[reducible] def zeroC : List C := [C.i 0, C.i 0, .nil, .v (.map none)]
/-- A new chart that comes about: its costs lie where the chart's lie. -/
theorem CallK.newOk {n0 nx a : Nat} {L : List E} {W H : Int} {cs : List Int} {bs : List Cell} {R : Rn} {vb : V} {K : V → List E → Nat → Prop} (hl : cs.length ≤ 300) (hb : bs.length ≤ 300) (ho : okC W H cs = true) (hB : okB W H cs bs = true)
    (hR0 : renL R 0 = some a) (hvb : (V.c (.sl 1 bs.length)).ren R = some vb) (ha : a < nx) (hL : roL R 2 L [⟨0, .ro 0, cs.map C.i⟩, ⟨1, .ro 0, cellC bs⟩])
    (hK : K (V.tup [A.agg [C.i W, C.i H, .sl a cs.length, .mp nx], A.c (C.i 0)]) [⟨nx, .mp true .int (bmF (boomF W H bs)), []⟩] (nx + 1)) : CallK Try.prog n0 57 [V.agg [C.i W, C.i H, .sl a cs.length], vb] L nx K := by
  have hins : ∀ q ∈ [(a, 0)], q.2 < 2 ∧ renL R q.2 = some q.1 ∧ q.1 < nx := fun q hq => by
    rw [List.mem_singleton.1 hq]; exact ⟨by show 0 < 2; omega, hR0, ha⟩
  refine CallK.mkIn (R := R) (by kernel_rfl) (newChart_spec W H cs bs hl hb) (vs' := [V.agg [C.i W, C.i H, .sl a cs.length], vb]) ?_ (by simp [V.wf, A.wf, C.wf]) hL (by rfl) [(a, 0)] hins ?_
  · have h1 : (V.agg [C.i W, C.i H, C.sl 0 cs.length]).ren R = some (V.agg [C.i W, C.i H, .sl a cs.length]) := by simp [V.ren, A.ren, C.ren, C.i, seqO, hR0]
    simp only [renVs, List.map_cons, List.map_nil, h1, hvb, seqO]
  · intro v L' nx' hw hq
    unfold newR at hq
    rw [ho, hB] at hq
    obtain ⟨l, rfl, hf⟩ := hq
    have hne : Nat.beq nx a = false := by
      cases hb : Nat.beq nx a with
      | false => rfl
      | true => have := Nat.eq_of_beq_eq_true hb; omega
    have hr1 : renL [(nx, some l), (a, some 0)] nx = some l := by simp [renL]
    have hr2 : renL [(nx, some l), (a, some 0)] a = some 0 := by simp [renL, hne]
    refine ⟨V.tup [A.agg [C.i W, C.i H, .sl a cs.length, .mp nx], A.c (C.i 0)], [⟨nx, .mp true .int (bmF (boomF W H bs)), []⟩], nx + 1, [(nx, some l), (a, some 0)], ⟨Nat.le_succ _, ?_, ?_, ⟨covE_mp hr1 (Nat.lt_succ_self nx) hf rfl, trivial⟩, rfl, ?_, fun q hq => by rw [List.mem_singleton.1 hq]; exact hr2⟩, hK⟩
    · simp [V.ren, A.ren, C.ren, C.i, seqO, hr1, hr2]
    · simp [V.chk, A.chk, C.chk, C.i, inOr, inLab_one]
    · simp [inLab_one, Kd.isRo]
/-- A new chart that does not. -/
theorem CallK.newNo {n0 nx a : Nat} {L : List E} {W H : Int} {cs : List Int} {bs : List Cell} {R : Rn} {vb : V} {K : V → List E → Nat → Prop} (Er : Int) (hl : cs.length ≤ 300) (hb : bs.length ≤ 300) (ho : (okC W H cs = false ∧ Er = 30) ∨ (okC W H cs = true ∧ okB W H cs bs = false ∧ Er = 2))
    (hR0 : renL R 0 = some a) (hvb : (V.c (.sl 1 bs.length)).ren R = some vb) (hL : roL R 2 L [⟨0, .ro 0, cs.map C.i⟩, ⟨1, .ro 0, cellC bs⟩])
    (hK : K (V.tup [A.agg zeroC, A.c (C.i Er)]) [] nx) : CallK Try.prog n0 57 [V.agg [C.i W, C.i H, .sl a cs.length], vb] L nx K := by
  refine CallK.mk' (R := R) (by kernel_rfl) (newChart_spec W H cs bs hl hb) (vs' := [V.agg [C.i W, C.i H, .sl a cs.length], vb]) ?_ (by simp [V.wf, A.wf, C.wf]) hL (by rfl) ?_
  · have h1 : (V.agg [C.i W, C.i H, C.sl 0 cs.length]).ren R = some (V.agg [C.i W, C.i H, .sl a cs.length]) := by simp [V.ren, A.ren, C.ren, C.i, seqO, hR0]
    simp only [renVs, List.map_cons, List.map_nil, h1, hvb, seqO]
  · intro v L' nx' hw hq
    have hv : v = V.tup [A.agg zeroC, A.c (C.i Er)] := by
      unfold newR at hq
      rcases ho with ⟨h1, rfl⟩ | ⟨h1, h2, rfl⟩
      · rw [h1] at hq; exact hq
      · rw [h1, h2] at hq; exact hq
    subst hv
    refine ⟨V.tup [A.agg zeroC, A.c (C.i Er)], [], nx, [], ⟨Nat.le_refl _, ?_, ?_, trivial, rfl, ?_⟩, hK⟩
    · simp [V.ren, A.ren, C.ren, C.i, seqO]
    · simp [V.chk, A.chk, C.chk, C.i]
    · rfl
theorem okB_nil (W H : Int) (cs : List Int) : okB W H cs [] = true := rfl
theorem boomF_nil (W H : Int) : boomF W H [] = fun _ => false := by funext i; rfl
/-- Without booms. -/
theorem roNil {L : List E} {k : Kd} {cs : List Int} (h : find L 0 = some ⟨0, k, cs.map C.i⟩) : roL [(1, none)] 2 L [⟨0, .ro 0, cs.map C.i⟩, ⟨1, .ro 0, cellC []⟩] :=
  ⟨roE_ints (l := 0) rfl (by omega) h (.inl rfl), roE_none rfl (by omega), trivial⟩
end Go.Proofs.Ytbhpnhcdjmcaoaa

/- Boom, the reference: small functions; neighbours. -/
namespace Go.Proofs.Ytbhpnhcdjmcaoaa
open Go.RowKit
set_option linter.unusedVariables false
set_option linter.unusedSimpArgs false
/-- A chart as the reference's functions take it. -/
@[reducible] def chR (W H : Int) (n : Nat) : V := V.agg [C.i W, C.i H, C.sl 0 n]
def mx (a b : Int) : Int := if b > a then b else a
set_option maxHeartbeats 2000000 in
theorem rvalid_spec (W H : Int) (cs : List Int) (hl : cs.length ≤ 300) : Spec Try.prog 35 [chR W H cs.length] [⟨0, .ro 0, cs.map C.i⟩] 1 (Is (V.c (.bool (okC W H cs)))) := by
  have hlm : (cs.map C.i).length = cs.length := by simp
  refine Spec.of tok Try.func35 rfl rfl rfl fun n0 cx => vc_ok tok ?_
  have hno : (¬ (1 ≤ W ∧ W ≤ 10) ∨ ¬ (1 ≤ H ∧ H ≤ 10) ∨ ¬ (cs.length : Int) = W * H) → okC W H cs = false := fun h => by
    rcases h with h | h | h
    · simp only [okC, dd_f h]; simp
    · simp only [okC, dd_f h]; simp
    · simp only [okC, dd_f h]; simp
  by_cases h1 : W < 1
  · have hf := hno (.inl (by omega))
    repeat ((conv => whnf); first | (refine And.intro (by first | omega | exact Nat.le_of_ble_eq_true rfl) ?_) | refine Exists.intro _ (And.intro rfl ?_) | refine bs_t (by omega) ?_ | refine fun (K' : K3) hK' => ?_ | (refine hK' _ _ _ ?_; clear hK' K'))
    intro ρ; rw [hf]; rfl
  · by_cases h2 : W > 10
    · have hf := hno (.inl (by omega))
      repeat ((conv => whnf); first | (refine And.intro (by first | omega | exact Nat.le_of_ble_eq_true rfl) ?_) | refine Exists.intro _ (And.intro rfl ?_) | refine bs_t (by omega) ?_ | refine bs_f (by omega) ?_ | refine fun (K' : K3) hK' => ?_ | (refine hK' _ _ _ ?_; clear hK' K'))
      intro ρ; rw [hf]; rfl
    · by_cases h3 : H < 1
      · have hf := hno (.inr (.inl (by omega)))
        repeat ((conv => whnf); first | (refine And.intro (by first | omega | exact Nat.le_of_ble_eq_true rfl) ?_) | refine Exists.intro _ (And.intro rfl ?_) | refine bs_t (by omega) ?_ | refine bs_f (by omega) ?_ | refine fun (K' : K3) hK' => ?_ | (refine hK' _ _ _ ?_; clear hK' K'))
        intro ρ; rw [hf]; rfl
      · by_cases h4 : H > 10
        · have hf := hno (.inr (.inl (by omega)))
          repeat ((conv => whnf); first | (refine And.intro (by first | omega | exact Nat.le_of_ble_eq_true rfl) ?_) | refine Exists.intro _ (And.intro rfl ?_) | refine bs_t (by omega) ?_ | refine bs_f (by omega) ?_ | refine fun (K' : K3) hK' => ?_ | (refine hK' _ _ _ ?_; clear hK' K'))
          intro ρ; rw [hf]; rfl
        · have hm : W * H ≤ 10 * 10 := Int.mul_le_mul (by omega) (by omega) (by omega) (by omega)
          have hm0 : 0 ≤ W * H := Int.mul_nonneg (by omega) (by omega)
          by_cases h5 : ¬ (cs.length : Int) = W * H
          · have hf := hno (.inr (.inr h5))
            repeat ((conv => whnf); first | (refine And.intro (by first | omega | exact Nat.le_of_ble_eq_true rfl | (dsimp only [inK]; omega)) ?_) | refine Exists.intro _ (And.intro rfl ?_) | refine br_t (by omega) ?_ | refine bs_f (by omega) ?_ | refine fun (K' : K3) hK' => ?_ | (refine hK' _ _ _ ?_; clear hK' K'))
            intro ρ; rw [hf]; rfl
          · have h5' : (cs.length : Int) = W * H := Classical.byContradiction h5
            repeat ((conv => whnf); first | (refine And.intro (by first | omega | exact Nat.le_of_ble_eq_true rfl | (dsimp only [inK]; omega)) ?_) | refine Exists.intro _ (And.intro rfl ?_) | refine br_f (by omega) ?_ | refine bs_f (by omega) ?_ | refine fun (K' : K3) hK' => ?_ | (refine hK' _ _ _ ?_; clear hK' K'))
            refine Tri.loop (γ := Nat) (fun k => k ≤ cs.length ∧ ∀ j, j < k → -1 ≤ cs.getD j 0 ∧ cs.getD j 0 ≤ 100) (fun k => [(2, V.c .ff), (35, V.c (.sl 0 cs.length)), (36, V.i cs.length), (37, V.i (k : Nat))]) (fun k => [⟨0, .ro 0, cs.map C.i⟩]) 2 (fun k => cs.length - k) 0 (R0 := []) ?_ ?_ ?_
            · exact ⟨by omega, fun j hj => by omega⟩
            · skip
              refine ⟨?_, ?_, rfl, rfl, by exact Nat.le_of_ble_eq_true rfl⟩
              · repeat (first | exact trivial | (refine And.intro (covS_syn (by rfl) rfl (by first | exact trivial | exact Nat.le_of_ble_eq_true rfl)) ?_))
              · repeat (first | exact trivial | refine And.intro (covE_id (Nat.le_of_ble_eq_true rfl) (by exact wf_ints _ _) rfl (by rfl)) ?_)
            · rintro k ⟨hk, hall⟩
              refine vc_ok tok ?_
              by_cases hlt : k < cs.length
              · have hmem : cs.getD k 0 ∈ cs := by rw [List.getD_eq_getElem?_getD, List.getElem?_eq_getElem hlt]; exact List.getElem_mem hlt
                have hld := intL hlt
                have hbad : ¬ (-1 ≤ cs.getD k 0 ∧ cs.getD k 0 ≤ 100) → okC W H cs = false := fun h => by
                  cases hh : okC W H cs with
                  | false => rfl
                  | true => exact absurd ((okC_iff.1 hh).cost _ hmem) h
                obtain ⟨ck, hck⟩ : ∃ ck, ck = cs.getD k 0 := ⟨_, rfl⟩
                rw [← hck] at hld hbad
                by_cases g1 : ck < -1
                · have hf := hbad (by omega)
                  repeat ((conv => whnf); first | (refine And.intro (by first | omega | (dsimp only [inK]; omega)) ?_) | with_reducible refine ld (hld) ?_ | refine br_t (by omega) ?_ | refine bs_t (by omega) ?_ | refine fun (K' : K3) hK' => ?_ | (refine hK' _ _ _ ?_; clear hK' K'))
                  intro ρ; rw [hf]; rfl
                · by_cases g2 : ck > 100
                  · have hf := hbad (by omega)
                    repeat ((conv => whnf); first | (refine And.intro (by first | omega | (dsimp only [inK]; omega)) ?_) | with_reducible refine ld (hld) ?_ | refine br_t (by omega) ?_ | refine bs_f (by omega) ?_ | refine fun (K' : K3) hK' => ?_ | (refine hK' _ _ _ ?_; clear hK' K'))
                    intro ρ; rw [hf]; rfl
                  · repeat ((conv => whnf); first | (refine And.intro (by first | omega | (dsimp only [inK]; omega)) ?_) | with_reducible refine ld (hld) ?_ | refine br_t (by omega) ?_ | refine br_f (by omega) ?_ | refine bs_f (by omega) ?_ | refine fun (K' : K3) hK' => ?_ | (refine hK' _ _ _ ?_; clear hK' K'))
                    refine ⟨k + 1, [], ⟨by omega, fun j hj => ?_⟩, by omega, ?_⟩
                    · by_cases hjk : j = k
                      · rw [hjk, ← hck]; omega
                      · exact hall j (by omega)
                    · skip
                      refine ⟨?_, ?_, rfl, rfl, by exact Nat.le_of_ble_eq_true rfl⟩
                      · repeat (first | exact trivial | (refine And.intro (covS_syn (by rfl) rfl (by first | exact trivial | exact Nat.le_of_ble_eq_true rfl)) ?_))
                      · repeat (first | exact trivial | refine And.intro (covE_id (Nat.le_of_ble_eq_true rfl) (by exact wf_ints _ _) rfl (by rfl)) ?_)
              · have hkl : k = cs.length := by omega
                have ht : okC W H cs = true := okC_iff.2 ⟨by omega, by omega, h5', fun x hx => by
                  obtain ⟨j, hj, rfl⟩ := List.mem_iff_getElem.1 hx
                  have := hall j (by omega)
                  rwa [List.getD_eq_getElem?_getD, List.getElem?_eq_getElem hj] at this⟩
                repeat ((conv => whnf); first | refine br_f (by omega) ?_ | refine fun (K' : K3) hK' => ?_ | (refine hK' _ _ _ ?_; clear hK' K'))
                intro ρ; rw [ht]; rfl
/-- Better, as the reference has it. -/
def betW (a b : Way) : Bool := if a.2 = 0 ∨ b.2 = 0 then decide (a.2 > 0) else lessW a b
theorem at_spec (W H : Int) (n : Nat) (i : Int) (hW : 0 < W) (hi : 0 ≤ i ∧ i ≤ 1000) : Spec Try.prog 62 [chR W H n, V.i i] [] 1 (Is (V.agg [C.i (i % W), C.i (i / W)])) := by
  have h1 : 0 ≤ i / W := Int.ediv_nonneg hi.1 (by omega)
  have h2 : i / W ≤ i := Int.ediv_le_self _ hi.1
  refine Spec.of tok Try.func62 rfl rfl rfl fun n0 cx => vc_ok tok ?_
  repeat ((conv => whnf); first | (refine And.intro (by first | omega | exact Nat.le_of_ble_eq_true rfl | (dsimp only [inK]; omega)) ?_) | refine Exists.intro _ (And.intro rfl ?_) | refine fun (K' : K3) hK' => ?_ | (refine hK' _ _ _ ?_; clear hK' K') | refine draw_auto tok mixed (by kernel_rfl) ?_)
  intro ρ; rfl
theorem rcost_spec (W H : Int) (cs : List Int) (i : Nat) (hi : i < cs.length) : Spec Try.prog 64 [chR W H cs.length, V.i i] [⟨0, .ro 0, cs.map C.i⟩] 1 (Is (V.i (cstI cs i))) := by
  have hlm : (cs.map C.i).length = cs.length := by simp
  refine Spec.of tok Try.func64 rfl rfl rfl fun n0 cx => vc_ok tok ?_
  repeat ((conv => whnf); first | (refine And.intro (by first | omega | exact Nat.le_of_ble_eq_true rfl | (dsimp only [inK]; omega)) ?_) | with_reducible refine ld (intL hi) ?_ | refine Exists.intro _ (And.intro rfl ?_) | refine fun (K' : K3) hK' => ?_ | (refine hK' _ _ _ ?_; clear hK' K'))
  have h : (if 0 > cs.getD i 0 then 0 else cs.getD i 0) = cstI cs i := by
    simp only [cstI, Int.toNat_natCast]; split <;> split <;> omega
  intro ρ; rw [← h]; rfl
theorem rindex_spec (W H : Int) (n : Nat) (x y : Int) (hW : 0 < W ∧ W ≤ 10) (hx : -1000 ≤ x ∧ x ≤ 1000) (hy : -1000 ≤ y ∧ y ≤ 1000) : Spec Try.prog 69 [chR W H n, V.agg [C.i x, C.i y]] [] 1 (Is (V.i (y * W + x))) := by
  have h1 : y * W ≤ 1000 * 10 := by
    by_cases h : 0 ≤ y
    · exact Int.mul_le_mul (by omega) (by omega) (by omega) (by omega)
    · have := Int.mul_nonpos_of_nonpos_of_nonneg (show y ≤ 0 by omega) (show 0 ≤ W by omega); omega
  have h2 : -10000 ≤ y * W := by
    by_cases h : 0 ≤ y
    · have := Int.mul_nonneg h (show 0 ≤ W by omega); omega
    · have := Int.mul_le_mul (show -y ≤ 1000 by omega) hW.2 (by omega) (by omega)
      rw [Int.neg_mul] at this; omega
  refine Spec.of tok Try.func69 rfl rfl rfl fun n0 cx => vc_ok tok ?_
  repeat ((conv => whnf); first | (refine And.intro (by first | omega | exact Nat.le_of_ble_eq_true rfl | (dsimp only [inK]; omega)) ?_) | refine Exists.intro _ (And.intro rfl ?_) | refine fun (K' : K3) hK' => ?_ | (refine hK' _ _ _ ?_; clear hK' K'))
  intro ρ; rfl
def onB (W H x y : Int) : Bool := decide (x ≥ 0) && (decide (x < W) && (decide (y ≥ 0) && decide (y < H)))
theorem on_spec (W H : Int) (n : Nat) (x y : Int) : Spec Try.prog 84 [chR W H n, V.agg [C.i x, C.i y]] [] 1 (Is (V.c (.bool (onB W H x y)))) := by
  refine Spec.of tok Try.func84 rfl rfl rfl fun n0 cx => vc_ok tok ?_
  by_cases h1 : x ≥ 0
  · by_cases h2 : x < W
    · by_cases h3 : y ≥ 0
      · repeat ((conv => whnf); first | (refine And.intro (by first | omega | exact Nat.le_of_ble_eq_true rfl) ?_) | refine Exists.intro _ (And.intro rfl ?_) | refine br_t (by omega) ?_ | refine fun (K' : K3) hK' => ?_ | (refine hK' _ _ _ ?_; clear hK' K'))
        intro ρ; show Value.bool _ = Value.bool _; simp [onB, h1, h2, h3]
      · repeat ((conv => whnf); first | (refine And.intro (by first | omega | exact Nat.le_of_ble_eq_true rfl) ?_) | refine Exists.intro _ (And.intro rfl ?_) | refine br_t (by omega) ?_ | refine br_f (by omega) ?_ | refine fun (K' : K3) hK' => ?_ | (refine hK' _ _ _ ?_; clear hK' K'))
        intro ρ; show Value.bool _ = Value.bool _; simp only [onB, dd_f h3]; simp
    · repeat ((conv => whnf); first | (refine And.intro (by first | omega | exact Nat.le_of_ble_eq_true rfl) ?_) | refine Exists.intro _ (And.intro rfl ?_) | refine br_t (by omega) ?_ | refine br_f (by omega) ?_ | refine fun (K' : K3) hK' => ?_ | (refine hK' _ _ _ ?_; clear hK' K'))
      intro ρ; show Value.bool _ = Value.bool _; simp only [onB, dd_f h2]; simp
  · repeat ((conv => whnf); first | (refine And.intro (by first | omega | exact Nat.le_of_ble_eq_true rfl) ?_) | refine Exists.intro _ (And.intro rfl ?_) | refine br_f (by omega) ?_ | refine fun (K' : K3) hK' => ?_ | (refine hK' _ _ _ ?_; clear hK' K'))
    intro ρ; show Value.bool _ = Value.bool _; simp only [onB, dd_f h1]; simp
theorem apart_spec (x y u v : Int) (hx : -1000 ≤ x ∧ x ≤ 1000) (hy : -1000 ≤ y ∧ y ≤ 1000) (hu : -1000 ≤ u ∧ u ≤ 1000) (hv : -1000 ≤ v ∧ v ≤ 1000) : Spec Try.prog 112 [V.agg [C.i x, C.i y], V.agg [C.i u, C.i v]] [] 0 (Is (V.tup [A.c (C.i (mx (x - u) (u - x))), A.c (C.i (mx (y - v) (v - y)))])) := by
  refine Spec.of tok Try.func112 rfl rfl rfl fun n0 cx => vc_ok tok ?_
  repeat ((conv => whnf); first | (refine And.intro (by first | omega | exact Nat.le_of_ble_eq_true rfl | (dsimp only [inK]; omega)) ?_) | refine Exists.intro _ (And.intro rfl ?_) | refine fun (K' : K3) hK' => ?_ | (refine hK' _ _ _ ?_; clear hK' K') | refine draw_auto tok mixed (by kernel_rfl) ?_)
  intro ρ; rfl
def fourB (x y u v : Int) : Bool := decide (mx (x - u) (u - x) + mx (y - v) (v - y) = 1)
def eightB (x y u v : Int) : Bool := decide (mx (mx (x - u) (u - x)) (mx (y - v) (v - y)) = 1)
theorem mx_bd {a b : Int} (ha : -10000 ≤ a ∧ a ≤ 10000) (hb : -10000 ≤ b ∧ b ≤ 10000) : -10000 ≤ mx a b ∧ mx a b ≤ 10000 := by unfold mx; split <;> omega
theorem four_spec (x y u v : Int) (hx : -1000 ≤ x ∧ x ≤ 1000) (hy : -1000 ≤ y ∧ y ≤ 1000) (hu : -1000 ≤ u ∧ u ≤ 1000) (hv : -1000 ≤ v ∧ v ≤ 1000) : Spec Try.prog 102 [V.agg [C.i x, C.i y], V.agg [C.i u, C.i v]] [] 0 (Is (V.c (.bool (fourB x y u v)))) := by
  have h1 := mx_bd (a := x - u) (b := u - x) (by omega) (by omega)
  have h2 := mx_bd (a := y - v) (b := v - y) (by omega) (by omega)
  refine Spec.of tok Try.func102 rfl rfl rfl fun n0 cx => vc_ok tok ?_
  repeat ((conv => whnf); first | (refine And.intro (by first | omega | (dsimp only [inK]; omega)) ?_) | refine Exists.intro _ (And.intro rfl ?_) | refine fun (K' : K3) hK' => ?_ | (refine hK' _ _ _ ?_; clear hK' K') | refine CallK.val (R := []) (apart_spec x y u v hx hy hu hv) (by kernel_rfl) rfl (by simp [V.wf, A.wf, C.wf]) trivial rfl rfl (by simp [V.wf, A.wf, C.wf]) ?_ | refine CallK.m ?_)
  intro ρ; rfl
theorem eight_spec (x y u v : Int) (hx : -1000 ≤ x ∧ x ≤ 1000) (hy : -1000 ≤ y ∧ y ≤ 1000) (hu : -1000 ≤ u ∧ u ≤ 1000) (hv : -1000 ≤ v ∧ v ≤ 1000) : Spec Try.prog 103 [V.agg [C.i x, C.i y], V.agg [C.i u, C.i v]] [] 0 (Is (V.c (.bool (eightB x y u v)))) := by
  have h1 := mx_bd (a := x - u) (b := u - x) (by omega) (by omega)
  have h2 := mx_bd (a := y - v) (b := v - y) (by omega) (by omega)
  refine Spec.of tok Try.func103 rfl rfl rfl fun n0 cx => vc_ok tok ?_
  repeat ((conv => whnf); first | refine Exists.intro _ (And.intro rfl ?_) | refine fun (K' : K3) hK' => ?_ | (refine hK' _ _ _ ?_; clear hK' K') | refine CallK.val (R := []) (apart_spec x y u v hx hy hu hv) (by kernel_rfl) rfl (by simp [V.wf, A.wf, C.wf]) trivial rfl rfl (by simp [V.wf, A.wf, C.wf]) ?_ | refine CallK.m ?_)
  intro ρ; rfl
end Go.Proofs.Ytbhpnhcdjmcaoaa

/- Boom: Cheapest. -/
namespace Go.Proofs.Ytbhpnhcdjmcaoaa
open Go.RowKit
set_option linter.unusedVariables false
set_option linter.unusedSimpArgs false
section
variable {P : Program} {n0 nx nac : Nat} {f : FuncId} {vs vs' : List V} {Lc L : List E} {R : Rn} {K : V → List E → Nat → Prop}
theorem CallK.barN {o : Option (List Int × Way)} (ho : o = none) (spec : Spec P f vs Lc nac (fun v L' _ => barR o v L')) (hok : callB P f = true)
    (hv : renVs R vs = some vs') (hvw : ∀ v ∈ vs, v.wf nac) (hL : roL R nac L Lc) (hLc : injB [] Lc = true)
    (hK : K (V.tup [A.c .nil, A.agg [C.i 0, C.i 0], A.c .ff]) [] nx) : CallK P n0 f vs' L nx K := by
  refine CallK.mk' hok spec hv hvw hL hLc ?_
  intro v L' nx' hw hq
  subst ho
  have hq : v = V.tup [A.c .nil, A.agg [C.i 0, C.i 0], A.c .ff] := hq
  subst hq
  exact ⟨V.tup [A.c .nil, A.agg [C.i 0, C.i 0], A.c .ff], [], nx, [], ⟨Nat.le_refl _, rfl, rfl, trivial, rfl, rfl⟩, hK⟩
theorem CallK.barS {o : Option (List Int × Way)} {l : List Int} {w : Way} (ho : o = some (l, w)) (spec : Spec P f vs Lc nac (fun v L' _ => barR o v L')) (hok : callB P f = true)
    (hv : renVs R vs = some vs') (hvw : ∀ v ∈ vs, v.wf nac) (hL : roL R nac L Lc) (hLc : injB [] Lc = true)
    (hK : K (V.tup [A.c (.sl nx l.length), A.agg [C.i w.1, C.i w.2], A.c .tt]) [⟨nx, .vec 3 1, l.map C.i⟩] (nx + 1)) : CallK P n0 f vs' L nx K := by
  refine CallK.mk' hok spec hv hvw hL hLc ?_
  intro v L' nx' hw hq
  subst ho
  obtain ⟨lab, rfl, hf⟩ := hq
  refine ⟨V.tup [A.c (.sl nx l.length), A.agg [C.i w.1, C.i w.2], A.c .tt], [⟨nx, .vec 3 1, l.map C.i⟩], nx + 1, [(nx, some lab)], ⟨Nat.le_succ _, ?_, ?_, ⟨covE_some (renL_one _ _) (Nat.lt_succ_self nx) (wf_ints _ _) hf (ren_ints _ _), trivial⟩, rfl, ?_⟩, hK⟩
  · simp [V.ren, A.ren, C.ren, renL_one, seqO, C.i]
  · simp [V.chk, A.chk, C.chk, inLab_one, C.i]
  · simp only [List.all_cons, List.all_nil, Bool.and_true, inLab_one, Kd.isRo, Bool.not_false, Bool.true_and]
    exact chk_ints _ _
end
set_option maxHeartbeats 4000000 in
theorem cheapest_spec (W H : Int) (cs : List Int) (hl : cs.length ≤ 300) :
    Spec Try.prog 18 [chR W H cs.length] [⟨0, .ro 0, cs.map C.i⟩] 2 (Is (if okC W H cs then (match barO W H cs with | none => V.tup [A.c (C.i 0), A.c (C.i 5)] | some (_, w) => V.tup [A.c (C.i w.1), A.c (C.i 0)]) else V.tup [A.c (C.i 0), A.c (C.i 30)])) := by
  refine Spec.of tok Try.func18 rfl rfl rfl fun n0 cx => vc_ok tok ?_
  cases hv : okC W H cs with
  | false =>
    repeat ((conv => whnf); first | (refine And.intro (by first | omega | exact Nat.le_of_ble_eq_true rfl) ?_) | refine Exists.intro _ (And.intro rfl ?_) | refine br_t (by omega) ?_ | refine fun (K' : K3) hK' => ?_ | (refine hK' _ _ _ ?_; clear hK' K') | refine CallK.newNo (a := 0) (bs := []) (R := [(1, none)]) 30 hl (by simp) (.inl ⟨hv, rfl⟩) rfl rfl (roNil rfl) ?_ | refine CallK.m ?_)
    intro ρ; rfl
  | true =>
    have hok := okC_iff.1 hv
    have hba := barrier_spec W H cs hok
    cases hbo : barO W H cs with
    | none =>
      repeat ((conv => whnf); first | (refine And.intro (by first | omega | exact Nat.le_of_ble_eq_true rfl) ?_) | refine Exists.intro _ (And.intro rfl ?_) | refine br_f (by omega) ?_ | refine fun (K' : K3) hK' => ?_ | (refine hK' _ _ _ ?_; clear hK' K') | refine CallK.newOk (a := 0) (bs := []) (R := [(1, none)]) hl (by simp) hv (okB_nil _ _ _) rfl rfl (by omega) (roNil rfl) ?_ | refine CallK.barN (R := [(1, some 3)]) hbo hba (by kernel_rfl) rfl (by simp [V.wf, A.wf, C.wf]) ⟨roE_ints (l := 0) rfl (by omega) rfl (.inl rfl), trivial⟩ rfl ?_ | refine CallK.m ?_)
      intro ρ; rfl
    | some q =>
      obtain ⟨l, w⟩ := q
      repeat ((conv => whnf); first | (refine And.intro (by first | omega | exact Nat.le_of_ble_eq_true rfl) ?_) | refine Exists.intro _ (And.intro rfl ?_) | refine br_f (by omega) ?_ | refine fun (K' : K3) hK' => ?_ | (refine hK' _ _ _ ?_; clear hK' K') | refine CallK.newOk (a := 0) (bs := []) (R := [(1, none)]) hl (by simp) hv (okB_nil _ _ _) rfl rfl (by omega) (roNil rfl) ?_ | refine CallK.barS (R := [(1, some 3)]) hbo hba (by kernel_rfl) rfl (by simp [V.wf, A.wf, C.wf]) ⟨roE_ints (l := 0) rfl (by omega) rfl (.inl rfl), trivial⟩ rfl ?_ | refine CallK.m ?_)
      intro ρ; rfl
end Go.Proofs.Ytbhpnhcdjmcaoaa

/- Boom: how charts, cells and numbers that came in read. -/
namespace Go.Proofs.Ytbhpnhcdjmcaoaa
open Go.RowKit
set_option linter.unusedVariables false
set_option linter.unusedSimpArgs false
open Go.ChangeShapes Go.WideShapes Go.ChangeAt Go.RowKit Go.Deep Go.Joins
theorem i64_bd {n : Int} (h : (Lit.int .i64 n).wf = true) : -9223372036854775808 ≤ n ∧ n ≤ 9223372036854775807 := by
  simp [Lit.wf, IntKind.min, IntKind.max, IntKind.signed, IntKind.bits] at h; omega
theorem ro_at {w : World} {a : Addr} {cs : List Value} (h : ∀ i, i < cs.length → w.cell? (a.add i) = some (cs.getD i undef)) : RoAt w (some a) cs := by
  intro hne
  have hp : 0 < cs.length := List.length_pos_iff.2 hne
  obtain ⟨b, off, spot⟩ := a
  have hspot : spot = none := by simpa [Addr.add] using World.cell?_spot (h 0 hp)
  subst hspot
  refine ⟨b, off, rfl, ?_, fun j hj => by rw [← Go.WideShapes.add_plain]; exact h j hj⟩
  have := World.block_lt_of_cell? _ _ (h 0 hp)
  simpa [Addr.add] using this
theorem add_add (a : Addr) (i j : Nat) : (a.add i).add j = a.add (i + j) := by
  unfold Addr.add
  by_cases hi : i = 0
  · subst hi; simp
  · by_cases hj : j = 0
    · subst hj; simp [hi]
    · simp [hi, hj, Nat.add_assoc]
def cellV (l : List Cell) : List Value := l.flatMap fun x => [.int .i64 x.1, .int .i64 x.2]
theorem cellV_len (l : List Cell) : (cellV l).length = 2 * l.length := by
  induction l with
  | nil => rfl
  | cons x l ih => simp only [cellV, List.flatMap_cons, List.length_append] at *; simp [ih]; omega
theorem cellV_get : ∀ {l : List Cell} {k : Nat}, k < l.length → (cellV l).getD (k * 2) undef = .int .i64 (l.getD k (0, 0)).1 ∧ (cellV l).getD (k * 2 + 1) undef = .int .i64 (l.getD k (0, 0)).2
  | x :: l, 0, _ => ⟨rfl, rfl⟩
  | x :: l, k + 1, h => by
    have := cellV_get (l := l) (k := k) (by simpa using h)
    simp only [cellV, List.flatMap_cons] at *
    rw [show (k + 1) * 2 + 1 = k * 2 + 1 + 1 + 1 by omega, show (k + 1) * 2 = k * 2 + 1 + 1 by omega]
    simpa using this
theorem den_cells (ρ : Env) (l : List Cell) : (cellC l).map (C.den ρ) = cellV l := by
  induction l with
  | nil => rfl
  | cons x l ih => simp only [cellC, cellV, List.flatMap_cons, List.map_append] at *; rw [ih]; rfl
def CellsAt (W : World) (ao : Option Addr) (c : Nat) (l : List Cell) : Prop := RoAt W ao (cellV l) ∧ l.length ≤ c ∧ l.length < 9223372036854775808
def IntsAt (W : World) (ao : Option Addr) (l : List Int) : Prop := RoAt W ao (l.map (Value.int .i64)) ∧ l.length < 9223372036854775808
section
variable {H : Type} {enc : TypeId × Value → H} {W : World} {sp : Nat → Bool}
set_option maxRecDepth 10000 in
theorem open_cells30 {n : Nat} {v : Value} {x : DataW H × List MemPlace} (h : DataW.trod enc Try.prog W 0 sp true n 30 [v] = some x) :
    ∃ (ao : Option Addr) (c : Nat) (l : List Cell), v = .slice ao l.length c ∧ CellsAt W ao c l := by
  rcases open_slice Try.underlying30 h with ⟨hcs, _⟩ | ⟨a, len, cap, m, f, D, Pl, hcs, _, hl, hmax, hm, _, hx⟩
  · cases hcs
    exact ⟨none, 0, [], rfl, fun hne => absurd rfl hne, by simp, by simp⟩
  · cases hcs
    have hc2 : Try.prog.cellsOf 57 = 2 := by kernel_rfl
    have hc1 : Try.prog.cellsOf 3 = 1 := by kernel_rfl
    have hlm : len ≤ m := by rw [hm]; split <;> omega
    have hlen : len < 9223372036854775808 := by unfold maxLen at hmax; omega
    rw [hc2] at hx
    obtain ⟨b, hb⟩ := choose_lt (α := Cell) (n := len) (p := fun i y => W.cell? (a.add (i * 2)) = some (.int .i64 y.1) ∧ W.cell? (a.add (i * 2 + 1)) = some (.int .i64 y.2)) (fun i hi => by
      obtain ⟨cs', h1, h2⟩ := hx i (by omega)
      obtain ⟨_, hlen, hcell⟩ := World.cells?_some h1
      obtain ⟨y0, y1, k, _, hl2, h3, h4⟩ := trod_struct2 Try.underlying57 h2
      match cs', hlen with
      | [c0, c1], _ =>
        simp [hc1] at h3 h4
        obtain ⟨z0, e0, _, _⟩ := DataW.trod_int Try.underlying3 h3
        obtain ⟨z1, e1, _, _⟩ := DataW.trod_int Try.underlying3 h4
        cases e0
        cases e1
        have g0 := hcell 0 (by omega)
        have g1 := hcell 1 (by omega)
        rw [add_add] at g0 g1
        exact ⟨(z0, z1), by simpa using g0, by simpa using g1⟩)
    refine ⟨some a, cap, (List.range len).map b, by simp, ro_at (fun i hi => ?_), by simpa using hl, by simpa using hlen⟩
    rw [cellV_len] at hi
    simp only [List.length_map, List.length_range] at hi
    have hq : i / 2 < len := by omega
    obtain ⟨g0, g1⟩ := hb (i / 2) hq
    obtain ⟨k0, k1⟩ := cellV_get (l := (List.range len).map b) (k := i / 2) (by simpa using hq)
    have hgd : ((List.range len).map b).getD (i / 2) (0, 0) = b (i / 2) := by simp [List.getD_eq_getElem?_getD, hq]
    rw [hgd] at k0 k1
    rcases Nat.mod_two_eq_zero_or_one i with hi2 | hi2
    · rw [show i / 2 * 2 = i by omega] at g0 k0
      rw [g0, k0]
    · rw [show i / 2 * 2 + 1 = i by omega] at g1 k1
      rw [g1, k1]
theorem open_ints22 {n : Nat} {v : Value} {x : DataW H × List MemPlace} (h : DataW.trod enc Try.prog W 0 sp true n 22 [v] = some x) :
    ∃ (ao : Option Addr) (c : Nat) (l : List Int), v = .slice ao l.length c ∧ IntsAt W ao l := by
  rcases open_slice1 Try.underlying22 (by kernel_rfl) h with ⟨hcs, _⟩ | ⟨a, len, cap, m, f, V, D, Pl, hcs, _, hl, hmax, hm, _, hx⟩
  · cases hcs
    exact ⟨none, 0, [], rfl, fun hne => absurd rfl hne, by simp⟩
  · cases hcs
    have hlm : len ≤ m := by rw [hm]; split <;> omega
    have hlen : len < 9223372036854775808 := by unfold maxLen at hmax; omega
    obtain ⟨b, hb⟩ := choose_lt (α := Int) (n := len) (p := fun i b => V i = .int .i64 b) (fun i hi => by
      obtain ⟨b, hb, _, hw⟩ := DataW.trod_int Try.underlying3 (hx i (by omega)).2
      exact ⟨b, by simpa using hb⟩)
    refine ⟨some a, cap, (List.range len).map b, by simp, ro_at (fun i hi => ?_), by simpa using hlen⟩
    have hi' : i < len := by simpa using hi
    rw [(hx i (by omega)).1, hb i hi']
    simp [List.getD_eq_getElem?_getD, hi']
set_option maxRecDepth 100000 in
theorem open_chart {v : Value} {d : DataW H} {p : List MemPlace} {r : Reach} {b0 : Nat} (hv : Value.okWide Try.prog W r b0 24 v) (h : DataW.Trod enc Try.prog W 0 sp true 24 v d p) :
    ∃ (cw ch : Int) (cs : List Int) (ao : Option Addr) (c : Nat), v = .agg #[.int .i64 cw, .int .i64 ch, .slice ao cs.length c] ∧ IntsAt W ao cs := by
  obtain ⟨v0, v1, v2, y0, y1, y2, n, rfl, _, _, h0, h1, h2⟩ := open_agg3 Try.underlying24 (by kernel_rfl) (by kernel_rfl) hv h
  obtain ⟨k, e0, _, f0⟩ := DataW.trod_int Try.underlying3 h0
  obtain ⟨a, e1, _, f2⟩ := DataW.trod_int Try.underlying3 h1
  obtain ⟨ao, c, l, rfl, hl⟩ := open_ints22 h2
  cases e0
  cases e1
  exact ⟨k, a, l, ao, c, rfl, hl⟩
set_option maxRecDepth 100000 in
theorem open_cellsv {v : Value} {d : DataW H} {p : List MemPlace} {r : Reach} {b0 : Nat} (hv : Value.okWide Try.prog W r b0 30 v) (h : DataW.Trod enc Try.prog W 0 sp true 30 v d p) :
    ∃ (ao : Option Addr) (c : Nat) (l : List Cell), v = .slice ao l.length c ∧ CellsAt W ao c l := by
  obtain ⟨fuel, hf⟩ := h
  obtain ⟨ao, n, cp, rfl⟩ := okWide_slice Try.underlying30 hv
  simp only [Value.cells] at hf
  exact open_cells30 hf
set_option maxRecDepth 100000 in
theorem open_intsv {v : Value} {d : DataW H} {p : List MemPlace} {r : Reach} {b0 : Nat} (hv : Value.okWide Try.prog W r b0 22 v) (h : DataW.Trod enc Try.prog W 0 sp true 22 v d p) :
    ∃ (ao : Option Addr) (c : Nat) (l : List Int), v = .slice ao l.length c ∧ IntsAt W ao l := by
  obtain ⟨fuel, hf⟩ := h
  obtain ⟨ao, n, cp, rfl⟩ := okWide_slice Try.underlying22 hv
  simp only [Value.cells] at hf
  exact open_ints22 hf
end
/-- Memory that comes in, with the room behind it. -/
theorem Hp.rosz {ρ : Env} {w : World} {L : List E} {nx : Nat} (h : ∀ e ∈ L, (∃ z, e.kd = .ro z ∧ (z = 0 ∨ e.cs.length ≤ (ρ e.lab).2 * z)) ∧ e.lab < nx ∧ (∀ c ∈ e.cs, c.wf nx) ∧ RoAt w (ρ e.lab).1 (e.cs.map (C.den ρ))) (hd : injB [] L = true) : Hp w.heap.size ρ w L nx := by
  refine ⟨Nat.le_refl _, fun e he => ?_, fun e he => ⟨(h e he).2.1, (h e he).2.2.1⟩, fun e he e' he' hl => injB_spec hd e he e' he' (.inl hl), fun e he e' he' hro => ?_⟩
  · obtain ⟨⟨z, h1, h2⟩, h3, h4, h5⟩ := h e he
    obtain ⟨lab, kd, cs⟩ := e
    simp only at h1 h2
    subst h1
    exact ⟨h5, h2⟩
  · obtain ⟨⟨z, h1, _⟩, _⟩ := h e he
    rw [h1] at hro; cases hro
/-- Where what came in lies: label k at place k. -/
def envL (l : List (Option Addr × Nat)) : Env := fun k => l.getD k (none, 0)
theorem ent_ints {W : World} {ρ : Env} {l : List Int} {k nx : Nat} {ao : Option Addr} (h : IntsAt W ao l) (hk : k < nx) (hr : (ρ k).1 = ao) : (∃ z, (Kd.ro 0) = .ro z ∧ (z = 0 ∨ (l.map C.i).length ≤ (ρ k).2 * z)) ∧ k < nx ∧ (∀ c ∈ l.map C.i, c.wf nx) ∧ RoAt W (ρ k).1 ((l.map C.i).map (C.den ρ)) := by
  refine ⟨⟨0, rfl, .inl rfl⟩, hk, wf_ints _ _, ?_⟩
  rw [List.map_map, hr]; exact h.1
theorem ent_cells {W : World} {ρ : Env} {l : List Cell} {k nx c : Nat} {ao : Option Addr} (h : CellsAt W ao c l) (hk : k < nx) (hr : ρ k = (ao, c)) : (∃ z, (Kd.ro 2) = .ro z ∧ (z = 0 ∨ (cellC l).length ≤ (ρ k).2 * z)) ∧ k < nx ∧ (∀ c ∈ cellC l, c.wf nx) ∧ RoAt W (ρ k).1 ((cellC l).map (C.den ρ)) := by
  refine ⟨⟨2, rfl, .inr ?_⟩, hk, wf_cells _ _, ?_⟩
  · rw [hr, cellC_len]; have := h.2.1; simp only; omega
  · rw [den_cells, hr]; exact h.1
theorem isTrue_any {f : FuncId} {vs : List V} {L : List E} {na : Nat} {ρ : Env} {w : World} {args : Array Value} (spec : Spec Try.prog f vs L na (Is (V.c (.bool true)))) (hp : Hp w.heap.size ρ w L na) (hv : ∀ v ∈ vs, v.wf na) (ha : (vs.map (V.den ρ)).toArray = args) :
    Calls Try.prog f args w fun e w' => e = .returned (.bool true) ∧ Below w.heap.size w w' := by
  subst ha
  refine (spec ρ w hp hv).mono ?_
  rintro e w' ⟨v, ρ', L', nx', rfl, h1, h2, h3, h4, h5, h6⟩
  exact ⟨by rw [h6 ρ']; rfl, h4⟩
end Go.Proofs.Ytbhpnhcdjmcaoaa

/- Boom: what the laws share. -/
namespace Go.Proofs.Ytbhpnhcdjmcaoaa
open Go.RowKit
set_option linter.unusedVariables false
set_option linter.unusedSimpArgs false
theorem wide_spec (W H : Int) (n : Nat) (hn : n < 9223372036854775808) : Spec Try.prog 16 [chR W H n] [] 1 (Is (V.c (.bool (decide ((n : Int) > 300))))) := by
  refine Spec.of tok Try.func16 rfl rfl rfl fun n0 cx => vc_ok tok ?_
  repeat ((conv => whnf); first | (refine And.intro (by first | omega | exact Nat.le_of_ble_eq_true rfl) ?_) | refine Exists.intro _ (And.intro rfl ?_) | refine fun (K' : K3) hK' => ?_ | (refine hK' _ _ _ ?_; clear hK' K'))
  intro ρ; rfl
theorem long_spec (m : Nat) (hm : m < 9223372036854775808) : Spec Try.prog 23 [V.c (.sl 0 m)] [] 1 (Is (V.c (.bool (decide ((m : Int) > 250))))) := by
  refine Spec.of tok Try.func23 rfl rfl rfl fun n0 cx => vc_ok tok ?_
  repeat ((conv => whnf); first | refine fun (K' : K3) hK' => ?_ | (refine hK' _ _ _ ?_; clear hK' K'))
  intro ρ; rfl
theorem bar22 : barO 2 2 [5, 0, 0, 3] = some ([0, 3], (8, 2)) := by decide +kernel
theorem awake_spec : Spec Try.prog 17 [] [] 0 (Is (V.c (.bool true))) := by
  have hc := cheapest_spec 2 2 [5, 0, 0, 3] (by simp)
  have ho : okC 2 2 [5, 0, 0, 3] = true := by decide +kernel
  rw [ho, bar22] at hc
  have hc : Spec Try.prog 18 [chR 2 2 4] [⟨0, .ro 0, [5, 0, 0, 3].map C.i⟩] 2 (Is (V.tup [A.c (C.i 8), A.c (C.i 0)])) := hc
  refine Spec.of tok Try.func17 rfl rfl rfl fun n0 cx => vc_ok tok ?_
  repeat ((conv => whnf); first | (refine And.intro (by first | omega | (dsimp only [inK]; omega)) ?_) | refine br_t (by omega) ?_ | refine fun (K' : K3) hK' => ?_ | (refine hK' _ _ _ ?_; clear hK' K') | refine CallK.val (R := [(0, some 0)]) hc (by kernel_rfl) rfl (by simp [V.wf, A.wf, C.wf]) ⟨roE_ints (l := 0) (k := .vec 3 1) rfl (by omega) rfl (.inl rfl), trivial⟩ rfl rfl (by simp [V.wf, A.wf, C.wf]) ?_ | refine CallK.m ?_)
  intro ρ; rfl
section
variable {n0 nx : Nat} {L : List E} {K : V → List E → Nat → Prop}
theorem awake_k (hK : K (V.c (.bool true)) [] nx) : CallK Try.prog n0 17 [] L nx K :=
  CallK.val (R := []) awake_spec (by kernel_rfl) rfl (by simp) trivial rfl rfl trivial hK
theorem wide_k {W H : Int} {n a : Nat} (hn : n < 9223372036854775808) (hK : K (V.c (.bool (decide ((n : Int) > 300)))) [] nx) : CallK Try.prog n0 16 [V.agg [C.i W, C.i H, .sl a n]] L nx K :=
  CallK.val (R := [(0, some a)]) (wide_spec W H n hn) (by kernel_rfl) rfl (by simp [V.wf, A.wf, C.wf]) trivial rfl rfl trivial hK
theorem long_k {m a : Nat} (hm : m < 9223372036854775808) (hK : K (V.c (.bool (decide ((m : Int) > 250)))) [] nx) : CallK Try.prog n0 23 [V.c (.sl a m)] L nx K :=
  CallK.val (R := [(0, some a)]) (long_spec m hm) (by kernel_rfl) rfl (by simp [V.wf, A.wf, C.wf]) trivial rfl rfl trivial hK
end
end Go.Proofs.Ytbhpnhcdjmcaoaa

/- Boom, the reference: the neighbours of a cell. -/
namespace Go.Proofs.Ytbhpnhcdjmcaoaa
open Go.RowKit
set_option linter.unusedVariables false
set_option linter.unusedSimpArgs false
theorem CallK.den {P : Program} {n0 : Nat} {f : FuncId} {vs vs' : List V} {L : List E} {nx : Nat} {K : V → List E → Nat → Prop} (hd : ∀ ρ, vs.map (V.den ρ) = vs'.map (V.den ρ)) (hw : ∀ v ∈ vs, v.wf nx) (h : CallK P n0 f vs L nx K) : CallK P n0 f vs' L nx K :=
  ⟨h.ok, fun ρ w hp _ => by rw [← hd]; exact h.run ρ w hp hw⟩
theorem four_cand (x y : Int) {a b : Nat} (ha : a < 3) (hb : b < 3) : fourB x y (x + ((b : Int) - 1)) (y + ((a : Int) - 1)) = decide ((b ≠ 1 ∧ a = 1) ∨ (b = 1 ∧ a ≠ 1)) := by
  unfold fourB mx
  rw [decide_eq_decide]
  split <;> split <;> omega
theorem eight_cand (x y : Int) {a b : Nat} (ha : a < 3) (hb : b < 3) : eightB x y (x + ((b : Int) - 1)) (y + ((a : Int) - 1)) = decide (¬ (b = 1 ∧ a = 1)) := by
  unfold eightB mx
  rw [decide_eq_decide]
  split <;> split <;> split <;> omega
theorem onB_t {W H x y : Int} (h : onB W H x y = true) : (0 ≤ x ∧ x < W) ∧ 0 ≤ y ∧ y < H := by
  simp only [onB, Bool.and_eq_true, decide_eq_true_eq] at h; omega
theorem onB_f {W H x y : Int} (h : onB W H x y = false) : ¬ ((0 ≤ x ∧ x < W) ∧ 0 ≤ y ∧ y < H) := fun hh => by
  rw [onB, dd_t (show x ≥ 0 by omega), dd_t (show x < W by omega), dd_t (show y ≥ 0 by omega), dd_t (show y < H by omega)] at h; cases h
theorem idxI_on {W H x y : Int} (h : onB W H x y = true) : idxI W H x y = y * W + x ∧ idxI W H x y ≥ 0 := by
  have := onB_t h
  unfold idxI
  rw [if_pos (by omega)]
  have : 0 ≤ y * W := Int.mul_nonneg (by omega) (by omega)
  exact ⟨rfl, by omega⟩
theorem idxI_off {W H x y : Int} (h : onB W H x y = false) : ¬ idxI W H x y ≥ 0 := by
  have := onB_f h
  unfold idxI
  rw [if_neg (by omega)]; omega
def intsR (l : List Int) (v : V) (L' : List E) : Prop := ∃ lab, v = V.c (.sl lab l.length) ∧ find L' lab = some ⟨lab, .vec 3 1, l.map C.i⟩
set_option maxRecDepth 10000 in
set_option maxHeartbeats 4000000 in
theorem beside_spec (W H : Int) (n : Nat) (i : Int) (e : Bool) (hW : 0 < W ∧ W ≤ 10) (hH : 0 < H ∧ H ≤ 10) (hi : 0 ≤ i ∧ i ≤ 500) : Spec Try.prog 63 [chR W H n, V.i i, V.c (.bool e)] [] 1 (fun v L' _ => intsR (nearL W H e i) v L') := by
  have hx0 : 0 ≤ i % W := Int.emod_nonneg _ (by omega)
  have hx1 : i % W < W := Int.emod_lt_of_pos _ (by omega)
  have hy0 : 0 ≤ i / W := Int.ediv_nonneg hi.1 (by omega)
  have hy1 : i / W ≤ 500 := Int.le_trans (Int.ediv_le_self _ hi.1) (by omega)
  obtain ⟨x, hx⟩ : ∃ x, x = i % W := ⟨_, rfl⟩
  obtain ⟨y, hy⟩ : ∃ y, y = i / W := ⟨_, rfl⟩
  have hat := at_spec W H n i (by omega) (by omega)
  rw [← hx, ← hy] at hat
  rw [← hx] at hx0 hx1
  rw [← hy] at hy0 hy1
  refine Spec.of tok Try.func63 rfl rfl rfl fun n0 cx => vc_ok tok ?_
  repeat ((conv => whnf); first | (refine And.intro (by first | omega | exact Nat.le_of_ble_eq_true rfl) ?_) | refine Exists.intro _ (And.intro rfl ?_) | refine fun (K' : K3) hK' => ?_ | (refine hK' _ _ _ ?_; clear hK' K') | refine CallK.val (R := []) hat (by kernel_rfl) rfl (by simp [V.wf, A.wf, C.wf]) trivial rfl rfl (by simp [V.wf, A.wf, C.wf]) ?_ | refine CallK.m ?_)
  refine Tri.loop (γ := Nat × Nat) (fun g => g.1 ≤ 3 ∧ (candP W H e i (3 * g.1)).length = g.2) (fun g => [(2, V.c (.bool e)), (3, V.c (.ptr 1 0)), (7, V.c (.sl 3 g.2)), (8, V.c (.ptr 2 0)), (9, V.i ((g.1 : Int) - 1))])
    (fun g => [⟨3, .vec 3 1, (candP W H e i (3 * g.1)).map C.i⟩, ⟨2, .own 57, [C.i x, C.i y]⟩, ⟨1, .own 24, [C.i W, C.i H, .sl 0 n]⟩]) 4 (fun g => 3 - g.1) (0, 0) (R0 := [(3, none)]) ?_ ?_ ?_
  · exact ⟨by omega, rfl⟩
  · skip
    refine ⟨?_, ?_, rfl, rfl, by exact Nat.le_of_ble_eq_true rfl⟩
    · repeat (first | exact trivial | (refine And.intro (covS_syn (by rfl) rfl (by first | exact trivial | exact Nat.le_of_ble_eq_true rfl)) ?_))
    · repeat (first | exact trivial | refine And.intro (covE_nil rfl (Nat.le_of_ble_eq_true rfl) rfl rfl) ?_ | refine And.intro (covE_some rfl (Nat.le_of_ble_eq_true rfl) (by simp [C.wf]) rfl (by rfl)) ?_)
  · rintro ⟨a, m0⟩ ⟨ha, hm0⟩
    simp only at ha hm0 ⊢
    refine vc_ok tok ?_
    by_cases ha3 : a < 3
    · repeat ((conv => whnf); first | refine br_t (by omega) ?_ | refine fun (K' : K3) hK' => ?_ | (refine hK' _ _ _ ?_; clear hK' K'))
      refine Tri.loop (γ := Nat × Nat) (fun g => g.1 ≤ 3 ∧ (candP W H e i (3 * a + g.1)).length = g.2) (fun g => [(2, V.c (.bool e)), (3, V.c (.ptr 1 0)), (7, V.c (.sl 3 g.2)), (8, V.c (.ptr 2 0)), (9, V.i ((a : Int) - 1)), (10, V.i ((g.1 : Int) - 1))])
        (fun g => [⟨3, .vec 3 1, (candP W H e i (3 * a + g.1)).map C.i⟩, ⟨2, .own 57, [C.i x, C.i y]⟩, ⟨1, .own 24, [C.i W, C.i H, .sl 0 n]⟩]) 4 (fun g => 3 - g.1) (0, m0) (R0 := []) ?_ ?_ ?_
      · exact ⟨by omega, hm0⟩
      · skip
        refine ⟨?_, ?_, rfl, rfl, by exact Nat.le_of_ble_eq_true rfl⟩
        · repeat (first | exact trivial | (refine And.intro (covS_syn (by rfl) rfl (by first | exact trivial | exact Nat.le_of_ble_eq_true rfl)) ?_))
        · repeat (first | exact trivial | (refine And.intro (covE_id (Nat.le_of_ble_eq_true rfl) (by first | exact wf_ints _ _ | simp [C.wf]) rfl (by rfl)) ?_))
      · rintro ⟨b, m⟩ ⟨hb, hm⟩
        simp only at hb hm ⊢
        have hm9 : m ≤ 9 := by
          rw [← hm]; unfold candP
          refine Nat.le_trans (List.length_filterMap_le _ _) ?_
          rw [List.length_range]
          by_cases q : b = 3
          · omega
          · omega
        refine vc_ok tok ?_
        by_cases hb3 : b < 3
        · have hon := on_spec W H n (x + ((b : Int) - 1)) (y + ((a : Int) - 1))
          have hfo := four_spec x y (x + ((b : Int) - 1)) (y + ((a : Int) - 1)) (by omega) (by omega) (by omega) (by omega)
          have hei := eight_spec x y (x + ((b : Int) - 1)) (y + ((a : Int) - 1)) (by omega) (by omega) (by omega) (by omega)
          have hix := rindex_spec W H n (x + ((b : Int) - 1)) (y + ((a : Int) - 1)) hW (by omega) (by omega)
          have f4 := four_cand x y ha3 hb3
          have f8 := eight_cand x y ha3 hb3
          have hnone : ((b = 1 ∧ a = 1) ∨ (e = false ∧ b ≠ 1 ∧ a ≠ 1)) → candP W H e i (3 * a + (b + 1)) = candP W H e i (3 * a + b) := fun hs => candP_none hb3 (cand_skip hs)
          cases hob : onB W H (x + ((b : Int) - 1)) (y + ((a : Int) - 1)) with
          | false =>
            have hst : candP W H e i (3 * a + (b + 1)) = candP W H e i (3 * a + b) := candP_none hb3 (by rw [← hx, ← hy]; exact cand_out (idxI_off hob))
            repeat ((conv => whnf); first | (refine And.intro (by first | omega | exact Nat.le_of_ble_eq_true rfl | (dsimp only [inK]; omega)) ?_) | refine Exists.intro _ (And.intro rfl ?_) | refine br_t (by omega) ?_ | refine fun (K' : K3) hK' => ?_ | (refine hK' _ _ _ ?_; clear hK' K') | refine CallK.val (R := []) hon (by kernel_rfl) rfl (by simp [V.wf, A.wf, C.wf]) trivial rfl rfl trivial ?_ | refine br_bf hob ?_ | refine CallK.m ?_)
            refine ⟨(b + 1, m), [], ⟨by simp only; omega, by simp only [hst]; exact hm⟩, by simp only; omega, ?_⟩
            refine ⟨?_, ?_, rfl, rfl, by exact Nat.le_of_ble_eq_true rfl⟩
            · repeat (first | exact trivial | (refine And.intro (covS_syn (by first | rfl | (refine congrArg some (congrArg V.i ?_); first | omega | (simp only; omega))) rfl (by first | exact trivial | exact Nat.le_of_ble_eq_true rfl)) ?_))
            · repeat (first | exact trivial | (refine And.intro (covE_id (Nat.le_of_ble_eq_true rfl) (by first | exact wf_ints _ _ | simp [C.wf]) rfl (by first | rfl | exact congrArg (List.map C.i) hst.symm)) ?_))
          | true =>
            have hxy := onB_t hob
            have hsome : ¬ ((b = 1 ∧ a = 1) ∨ (e = false ∧ b ≠ 1 ∧ a ≠ 1)) → candP W H e i (3 * a + (b + 1)) = candP W H e i (3 * a + b) ++ [(y + ((a : Int) - 1)) * W + (x + ((b : Int) - 1))] := fun hs => by
              obtain ⟨q1, q2⟩ := idxI_on hob
              refine candP_some hb3 ?_
              rw [← hx, ← hy, cand_in hs q2, q1]
            cases h4 : fourB x y (x + ((b : Int) - 1)) (y + ((a : Int) - 1)) with
            | true =>
              rw [h4] at f4
              have f4' := of_decide_eq_true f4.symm
              have hst := hsome (by rintro (⟨_, _⟩ | ⟨_, _, _⟩) <;> omega)
              repeat ((conv => whnf); first | (refine And.intro (by first | omega | exact Nat.le_of_ble_eq_true rfl | (dsimp only [inK]; omega) | (exact ⟨rfl, rfl, rfl, Nat.le_of_ble_eq_true rfl, by simp; omega, by exact Nat.le_of_ble_eq_true rfl, by omega, Nat.le_of_ble_eq_true rfl⟩)) ?_) | refine Exists.intro _ (And.intro rfl ?_) | refine br_t (by omega) ?_ | refine fun (K' : K3) hK' => ?_ | (refine hK' _ _ _ ?_; clear hK' K') | refine CallK.val (R := []) hon (by kernel_rfl) rfl (by simp [V.wf, A.wf, C.wf]) trivial rfl rfl trivial ?_ | refine br_bt hob ?_ | refine CallK.val (R := []) hfo (by kernel_rfl) rfl (by simp [V.wf, A.wf, C.wf]) trivial rfl rfl trivial ?_ | refine bs_bt h4 ?_ | refine CallK.val (R := []) hix (by kernel_rfl) rfl (by simp [V.wf, A.wf, C.wf]) trivial rfl rfl trivial ?_ | refine CallK.m ?_)
              refine ⟨(b + 1, m + 1), [(3, some 6)], ⟨by simp only; omega, by simp only [hst, List.length_append, hm]; rfl⟩, by simp only; omega, ?_⟩
              refine ⟨?_, ?_, rfl, rfl, by exact Nat.le_of_ble_eq_true rfl⟩
              · repeat (first | exact trivial | (refine And.intro (covS_syn (by first | rfl | (refine congrArg some (congrArg V.i ?_); first | omega | (simp only; omega))) rfl (by first | exact trivial | exact Nat.le_of_ble_eq_true rfl)) ?_))
              · repeat (first | exact trivial | (refine And.intro (covE_some rfl (Nat.le_of_ble_eq_true rfl) (by first | exact wf_ints _ _ | simp [C.wf]) rfl (by first | (refine (ren_ints _ _).trans (congrArg some ?_); rw [hst, List.map_append]; rfl) | rfl)) ?_))
            | false =>
              rw [h4] at f4
              have f4' := of_decide_eq_false f4.symm
              cases e with
              | false =>
                have hst := hnone (Classical.byCases (fun q : b = 1 => .inl ⟨q, by omega⟩) (fun q => .inr ⟨rfl, q, by omega⟩))
                repeat ((conv => whnf); first | (refine And.intro (by first | omega | exact Nat.le_of_ble_eq_true rfl | (dsimp only [inK]; omega)) ?_) | refine Exists.intro _ (And.intro rfl ?_) | refine br_t (by omega) ?_ | refine fun (K' : K3) hK' => ?_ | (refine hK' _ _ _ ?_; clear hK' K') | refine CallK.val (R := []) hon (by kernel_rfl) rfl (by simp [V.wf, A.wf, C.wf]) trivial rfl rfl trivial ?_ | refine br_bt hob ?_ | refine CallK.val (R := []) hfo (by kernel_rfl) rfl (by simp [V.wf, A.wf, C.wf]) trivial rfl rfl trivial ?_ | refine bs_bf h4 ?_ | refine br_bf (Eq.refl false) ?_ | refine CallK.m ?_)
                refine ⟨(b + 1, m), [], ⟨by simp only; omega, by simp only [hst]; exact hm⟩, by simp only; omega, ?_⟩
                refine ⟨?_, ?_, rfl, rfl, by exact Nat.le_of_ble_eq_true rfl⟩
                · repeat (first | exact trivial | (refine And.intro (covS_syn (by first | rfl | (refine congrArg some (congrArg V.i ?_); first | omega | (simp only; omega))) rfl (by first | exact trivial | exact Nat.le_of_ble_eq_true rfl)) ?_))
                · repeat (first | exact trivial | (refine And.intro (covE_id (Nat.le_of_ble_eq_true rfl) (by first | exact wf_ints _ _ | simp [C.wf]) rfl (by first | rfl | exact congrArg (List.map C.i) hst.symm)) ?_))
              | true =>
                cases h8 : eightB x y (x + ((b : Int) - 1)) (y + ((a : Int) - 1)) with
                | true =>
                  rw [h8] at f8
                  have f8' := of_decide_eq_true f8.symm
                  have hst := hsome (fun h => h.elim f8' (fun h => by cases h.1))
                  repeat ((conv => whnf); first | (refine And.intro (by first | omega | exact Nat.le_of_ble_eq_true rfl | (dsimp only [inK]; omega) | (exact ⟨rfl, rfl, rfl, Nat.le_of_ble_eq_true rfl, by simp; omega, by exact Nat.le_of_ble_eq_true rfl, by omega, Nat.le_of_ble_eq_true rfl⟩)) ?_) | refine Exists.intro _ (And.intro rfl ?_) | refine br_t (by omega) ?_ | refine fun (K' : K3) hK' => ?_ | (refine hK' _ _ _ ?_; clear hK' K') | refine CallK.val (R := []) hon (by kernel_rfl) rfl (by simp [V.wf, A.wf, C.wf]) trivial rfl rfl trivial ?_ | refine br_bt hob ?_ | refine CallK.val (R := []) hfo (by kernel_rfl) rfl (by simp [V.wf, A.wf, C.wf]) trivial rfl rfl trivial ?_ | refine bs_bf h4 ?_ | refine CallK.val (R := []) hei (by kernel_rfl) rfl (by simp [V.wf, A.wf, C.wf]) trivial rfl rfl trivial ?_ | refine br_bt h8 ?_ | refine CallK.val (R := []) hix (by kernel_rfl) rfl (by simp [V.wf, A.wf, C.wf]) trivial rfl rfl trivial ?_ | refine br_bt (Eq.refl true) ?_ | refine CallK.m ?_)
                  refine ⟨(b + 1, m + 1), [(3, some 6)], ⟨by simp only; omega, by simp only [hst, List.length_append, hm]; rfl⟩, by simp only; omega, ?_⟩
                  refine ⟨?_, ?_, rfl, rfl, by exact Nat.le_of_ble_eq_true rfl⟩
                  · repeat (first | exact trivial | (refine And.intro (covS_syn (by first | rfl | (refine congrArg some (congrArg V.i ?_); first | omega | (simp only; omega))) rfl (by first | exact trivial | exact Nat.le_of_ble_eq_true rfl)) ?_))
                  · repeat (first | exact trivial | (refine And.intro (covE_some rfl (Nat.le_of_ble_eq_true rfl) (by first | exact wf_ints _ _ | simp [C.wf]) rfl (by first | (refine (ren_ints _ _).trans (congrArg some ?_); rw [hst, List.map_append]; rfl) | rfl)) ?_))
                | false =>
                  rw [h8] at f8
                  have f8' := of_decide_eq_false f8.symm
                  have hst := hnone (.inl (Classical.byContradiction fun h => f8' h))
                  repeat ((conv => whnf); first | (refine And.intro (by first | omega | exact Nat.le_of_ble_eq_true rfl | (dsimp only [inK]; omega)) ?_) | refine Exists.intro _ (And.intro rfl ?_) | refine br_t (by omega) ?_ | refine fun (K' : K3) hK' => ?_ | (refine hK' _ _ _ ?_; clear hK' K') | refine CallK.val (R := []) hon (by kernel_rfl) rfl (by simp [V.wf, A.wf, C.wf]) trivial rfl rfl trivial ?_ | refine br_bt hob ?_ | refine CallK.val (R := []) hfo (by kernel_rfl) rfl (by simp [V.wf, A.wf, C.wf]) trivial rfl rfl trivial ?_ | refine bs_bf h4 ?_ | refine CallK.val (R := []) hei (by kernel_rfl) rfl (by simp [V.wf, A.wf, C.wf]) trivial rfl rfl trivial ?_ | refine br_bf h8 ?_ | refine br_bt (Eq.refl true) ?_ | refine CallK.m ?_)
                  refine ⟨(b + 1, m), [], ⟨by simp only; omega, by simp only [hst]; exact hm⟩, by simp only; omega, ?_⟩
                  refine ⟨?_, ?_, rfl, rfl, by exact Nat.le_of_ble_eq_true rfl⟩
                  · repeat (first | exact trivial | (refine And.intro (covS_syn (by first | rfl | (refine congrArg some (congrArg V.i ?_); first | omega | (simp only; omega))) rfl (by first | exact trivial | exact Nat.le_of_ble_eq_true rfl)) ?_))
                  · repeat (first | exact trivial | (refine And.intro (covE_id (Nat.le_of_ble_eq_true rfl) (by first | exact wf_ints _ _ | simp [C.wf]) rfl (by first | rfl | exact congrArg (List.map C.i) hst.symm)) ?_))
        · have hb3' : b = 3 := by omega
          subst hb3'
          have h3 : 3 * a + 3 = 3 * (a + 1) := by omega
          repeat ((conv => whnf); first | (refine And.intro (by first | omega | (dsimp only [inK]; omega)) ?_) | refine br_f (by omega) ?_ | refine fun (K' : K3) hK' => ?_ | (refine hK' _ _ _ ?_; clear hK' K'))
          refine ⟨(a + 1, m), [], ⟨by simp only; omega, by simp only; rw [← h3]; exact hm⟩, by simp only; omega, ?_⟩
          refine ⟨?_, ?_, rfl, rfl, by exact Nat.le_of_ble_eq_true rfl⟩
          · repeat (first | exact trivial | (refine And.intro (covS_syn (by first | rfl | (refine congrArg some (congrArg V.i ?_); first | omega | (simp only; omega))) rfl (by first | exact trivial | exact Nat.le_of_ble_eq_true rfl)) ?_))
          · repeat (first | exact trivial | (refine And.intro (covE_id (Nat.le_of_ble_eq_true rfl) (by first | exact wf_ints _ _ | simp [C.wf]) rfl (by rfl)) ?_))
    · have ha3' : a = 3 := by omega
      subst ha3'
      repeat ((conv => whnf); first | refine br_f (by omega) ?_ | refine fun (K' : K3) hK' => ?_ | (refine hK' _ _ _ ?_; clear hK' K'))
      exact ⟨3, by rw [show nearL W H e i = candP W H e i (3 * 3) from rfl, hm0]; rfl, rfl⟩
end Go.Proofs.Ytbhpnhcdjmcaoaa

/- Boom, plain: the reference's ways. -/
namespace Go.Proofs.Ytbhpnhcdjmcaoaa
open Go.RowKit
set_option linter.unusedVariables false
set_option linter.unusedSimpArgs false
def nbR (W H : Int) (cs : List Int) (i : Int) : List Int := if inR cs i && hldI cs i then nearL W H true i else []
def encW (d : Int → Option Way) (i : Nat) : Way := (d i).getD (0, 0)
def encL (d : Int → Option Way) (n : Nat) : List Way := (List.range n).map (encW d)
/-- The last row, the first k of it. -/
def d0R (W H : Int) (cs : List Int) (k : Nat) (i : Int) : Option Way := if ((H - 1) * W ≤ i ∧ i < (H - 1) * W + k) ∧ hldI cs i = true then some (cstI cs i, 1) else none
theorem row_iff {W H i : Int} (hW : 0 < W) : i / W = H - 1 ↔ (H - 1) * W ≤ i ∧ i < (H - 1) * W + W := by
  have h1 := Int.emod_nonneg i (show W ≠ 0 by omega)
  have h2 := Int.emod_lt_of_pos i hW
  have h3 := Int.mul_ediv_add_emod i W
  constructor
  · intro h
    rw [h] at h3
    have : W * (H - 1) = (H - 1) * W := Int.mul_comm _ _
    omega
  · rintro ⟨g1, g2⟩
    have e : (H - 1) * W + W = (H - 1 + 1) * W := by rw [Int.add_mul]; omega
    rw [e] at g2
    have l1 := Int.le_ediv_of_mul_le hW g1
    have l2 := Int.ediv_lt_of_lt_mul hW g2
    omega
theorem nbR_in {W H : Int} {cs : List Int} (hW : 0 < W) (hl : (cs.length : Int) = W * H) (i k : Int) (h : k ∈ nbR W H cs i) : (0 ≤ i ∧ i < cs.length) ∧ 0 ≤ k ∧ k < cs.length := by
  unfold nbR at h
  split at h
  · rename_i hh
    simp only [Bool.and_eq_true, inR, decide_eq_true_eq] at hh
    refine ⟨hh.1, ?_⟩
    unfold nearL at h
    obtain ⟨j, _, hj⟩ := List.mem_filterMap.1 h
    have := cand_lt hW hj
    omega
  · cases h
def itR (W H : Int) (cs : List Int) (t : Nat) : (Int → Option Way) × Bool := iterG (cstI cs) (nbR W H cs) cs.length (d0B W H cs) t
theorem itR_end {W H : Int} {cs : List Int} (h : CO W H cs) : (itR W H cs (cs.length + 1)).2 = false := by
  obtain ⟨h1, h2⟩ := d0_sound (nb := nbR W H cs) (d0B_eq W H cs)
  exact iter_end (fun i => (cst_bd h.cost i).1) iniB_in (nbR_in (by have := h.w; omega) h.len) h1 h2
theorem itR_opt {W H : Int} {cs : List Int} (h : CO W H cs) {t : Nat} (ht : (itR W H cs t).2 = false) : OptD (cstI cs) (iniB W H cs) (nbR W H cs) (itR W H cs t).1 := by
  obtain ⟨h1, h2⟩ := d0_sound (nb := nbR W H cs) (d0B_eq W H cs)
  exact iter_fix (fun i => (cst_bd h.cost i).1) iniB_in (nbR_in (by have := h.w; omega) h.len) h1 h2 ht
def wayR (W H : Int) (cs : List Int) : Int → Option Way := (itR W H cs (cs.length + 1)).1
theorem wayR_opt {W H : Int} {cs : List Int} (h : CO W H cs) : OptD (cstI cs) (iniB W H cs) (nbR W H cs) (wayR W H cs) := itR_opt h (itR_end h)
/-- One neighbour looked at, as the reference does it. -/
def stepR (cs : List Int) (i : Int) (st : (Int → Option Way) × Bool) (k : Int) : (Int → Option Way) × Bool := if hldI cs i then relG (cstI cs) i st k else st
theorem near_in {W H : Int} {e : Bool} {i k : Int} (hW : 0 < W) (h : k ∈ nearL W H e i) : 0 ≤ k ∧ k < W * H := by
  unfold nearL at h
  obtain ⟨j, _, hj⟩ := List.mem_filterMap.1 h
  exact cand_lt hW hj
theorem getD_mem {l : List Int} {j : Nat} (h : j < l.length) : l.getD j 0 ∈ l := by
  rw [List.getD_eq_getElem?_getD, List.getElem?_eq_getElem h]; exact List.getElem_mem h
end Go.Proofs.Ytbhpnhcdjmcaoaa

/- Boom, plain: the greatest heights. -/
namespace Go.Proofs.Ytbhpnhcdjmcaoaa
open Go.RowKit
set_option linter.unusedVariables false
set_option linter.unusedSimpArgs false
/-- Heights that could prove: none of a neighbour is greater than that of the cell, and what the neighbour costs. -/
def Feas (W H : Int) (cs : List Int) (g : Int → Int) : Prop := ∀ a b : Int, 0 ≤ a → a < cs.length → hldI cs a = true → hldI cs b = true → b ∈ nearL W H true a → g b ≤ g a + cstI cs b
def h0I (W : Int) (cs : List Int) (i : Int) : Int := if hldI cs i = false then 0 else if i / W = 0 then cstI cs i else 1000000
def hL (hs : List Int) (i : Int) : Int := hs.getD i.toNat 0
/-- The greatest. -/
structure Great (W H : Int) (cs hs : List Int) : Prop where
  len : hs.length = cs.length
  le : ∀ i : Int, 0 ≤ i → i < cs.length → hL hs i ≤ h0I W cs i
  feas : Feas W H cs (hL hs)
  most : ∀ g : Int → Int, Feas W H cs g → (∀ i : Int, 0 ≤ i → i < cs.length → g i ≤ h0I W cs i) → ∀ i : Int, 0 ≤ i → i < cs.length → g i ≤ hL hs i
theorem Great.unique {W H : Int} {cs hs hs' : List Int} (h : Great W H cs hs) (h' : Great W H cs hs') : hs = hs' := by
  apply List.ext_getElem
  · rw [h.len, h'.len]
  · intro i h1 h2
    have hi : (i : Int) < cs.length := by have := h.len; omega
    have a := h.most _ h'.feas h'.le i (by omega) hi
    have b := h'.most _ h.feas h.le i (by omega) hi
    unfold hL at a b
    rw [Int.toNat_natCast, List.getD_eq_getElem?_getD, List.getD_eq_getElem?_getD, List.getElem?_eq_getElem h1, List.getElem?_eq_getElem h2] at a b
    simp only [Option.getD_some] at a b
    omega
open Classical in
noncomputable def hts (W H : Int) (cs : List Int) : List Int := if h : ∃ hs, Great W H cs hs then Classical.choose h else []
theorem Great.hts {W H : Int} {cs hs : List Int} (h : Great W H cs hs) : Go.Proofs.Ytbhpnhcdjmcaoaa.hts W H cs = hs := by
  unfold Go.Proofs.Ytbhpnhcdjmcaoaa.hts
  rw [dif_pos ⟨hs, h⟩]
  exact (Classical.choose_spec (⟨hs, h⟩ : ∃ hs, Great W H cs hs)).unique h
/-- One edge looked at. -/
def relH (cs : List Int) (st : List Int × Bool) (a b : Int) : List Int × Bool :=
  if (hldI cs a && (hldI cs b && decide (hL st.1 b > hL st.1 a + cstI cs b))) = true then (st.1.set b.toNat (hL st.1 a + cstI cs b), true) else st
/-- What a state is on the way. -/
structure HSt (W H : Int) (cs hs : List Int) : Prop where
  len : hs.length = cs.length
  le : ∀ i : Int, 0 ≤ i → i < cs.length → hL hs i ≤ h0I W cs i
  pos : ∀ i : Int, 0 ≤ i → i < cs.length → 0 ≤ hL hs i
  most : ∀ g : Int → Int, Feas W H cs g → (∀ i : Int, 0 ≤ i → i < cs.length → g i ≤ h0I W cs i) → ∀ i : Int, 0 ≤ i → i < cs.length → g i ≤ hL hs i
def sumH (hs : List Int) : Int := hs.sum
theorem hL_set {hs : List Int} {b j x : Int} (hb : 0 ≤ b) (hj : 0 ≤ j) (hbl : b < hs.length) : hL (hs.set b.toNat x) j = if j = b then x else hL hs j := by
  unfold hL
  rw [List.getD_eq_getElem?_getD, List.getD_eq_getElem?_getD, List.getElem?_set]
  by_cases h : j = b
  · subst h; rw [if_pos rfl, if_pos (by omega), if_pos rfl]; rfl
  · rw [if_neg (by omega), if_neg h]
theorem sum_set : ∀ {hs : List Int} {k : Nat} {x : Int}, k < hs.length → (hs.set k x).sum = hs.sum + x - hs.getD k 0
  | a :: r, 0, x, _ => by simp; omega
  | a :: r, k + 1, x, h => by
    have := sum_set (hs := r) (k := k) (x := x) (by simpa using h)
    rw [List.set_cons_succ, List.sum_cons, List.sum_cons, this]
    simp; omega
theorem sum_pos : ∀ {hs : List Int}, (∀ x ∈ hs, 0 ≤ x) → 0 ≤ hs.sum
  | [], _ => by simp
  | a :: r, h => by
    have := sum_pos (hs := r) (fun x hx => h x (by simp [hx]))
    have := h a (by simp)
    rw [List.sum_cons]; omega
/-- Steps that go on: nothing is lost, and what has turned is said. -/
structure HGo (W H : Int) (cs : List Int) (st st' : List Int × Bool) : Prop where
  ok : HSt W H cs st.1 → HSt W H cs st'.1
  same : st'.2 = false → st' = st
  keep : st.2 = true → st'.2 = true
  less : HSt W H cs st.1 → st'.2 = true → st.2 = true ∧ sumH st'.1 ≤ sumH st.1 ∨ sumH st'.1 < sumH st.1
theorem HGo.refl {W H : Int} {cs : List Int} (st : List Int × Bool) : HGo W H cs st st := ⟨id, fun _ => rfl, id, fun _ h => .inl ⟨h, Int.le_refl _⟩⟩
theorem HGo.trans {W H : Int} {cs : List Int} {a b c : List Int × Bool} (h : HGo W H cs a b) (h' : HGo W H cs b c) : HGo W H cs a c := by
  refine ⟨fun x => h'.ok (h.ok x), fun hf => ?_, fun hk => h'.keep (h.keep hk), fun hs hc => ?_⟩
  · have e := h'.same hf
    rw [e]; exact h.same (by rw [← e]; exact hf)
  · rcases h'.less (h.ok hs) hc with ⟨h1, h2⟩ | h2
    · rcases h.less hs h1 with ⟨h3, h4⟩ | h4
      · exact .inl ⟨h3, by omega⟩
      · exact .inr (by omega)
    · cases hb : b.2 with
      | false => rw [h.same hb] at h2; exact .inr h2
      | true =>
        rcases h.less hs hb with ⟨h3, h4⟩ | h4
        · exact .inr (by omega)
        · exact .inr (by omega)
theorem relH_go {W H : Int} {cs : List Int} (hc : ∀ i, 0 ≤ cstI cs i) {a b : Int} (ha : 0 ≤ a ∧ a < cs.length) (hb : 0 ≤ b ∧ b < cs.length) (hn : b ∈ nearL W H true a) (st : List Int × Bool) : HGo W H cs st (relH cs st a b) := by
  unfold relH
  split
  · rename_i h
    simp only [Bool.and_eq_true, decide_eq_true_eq] at h
    obtain ⟨h1, h2, h3⟩ := h
    refine ⟨fun hs => ?_, fun hf => (by cases hf), fun _ => rfl, fun hs _ => .inr ?_⟩
    · have hbl : b < st.1.length := by have := hs.len; omega
      have e := fun j hj => hL_set (hs := st.1) (b := b) (j := j) (x := hL st.1 a + cstI cs b) hb.1 hj hbl
      refine ⟨by rw [List.length_set]; exact hs.len, fun i i0 i1 => ?_, fun i i0 i1 => ?_, fun g hg hle i i0 i1 => ?_⟩
      · simp only; rw [e i i0]; split
        · rename_i hi; subst hi; have := hs.le i i0 i1; omega
        · exact hs.le i i0 i1
      · simp only; rw [e i i0]; split
        · have := hs.pos a ha.1 ha.2; have := hc b; omega
        · exact hs.pos i i0 i1
      · simp only; rw [e i i0]; split
        · rename_i hi; subst hi
          have := hg a i ha.1 ha.2 h1 h2 hn
          have := hs.most g hg hle a ha.1 ha.2
          omega
        · exact hs.most g hg hle i i0 i1
    · have hbl : b.toNat < st.1.length := by have := hs.len; omega
      unfold sumH
      simp only
      rw [sum_set hbl]
      have : st.1.getD b.toNat 0 = hL st.1 b := rfl
      omega
  · exact HGo.refl _
/-- Where the flag is down, the edge was right. -/
theorem relH_ok {cs : List Int} {st : List Int × Bool} {a b : Int} (h : (relH cs st a b).2 = false) (ha : hldI cs a = true) (hb : hldI cs b = true) : hL st.1 b ≤ hL st.1 a + cstI cs b := by
  unfold relH at h
  split at h
  · cases h
  · rename_i hh
    rw [ha, hb, Bool.true_and, Bool.true_and, decide_eq_true_eq] at hh
    omega
/-- Edges one after the other. -/
def passH (cs : List Int) (es : List (Int × Int)) (st : List Int × Bool) : List Int × Bool := es.foldl (fun st e => relH cs st e.1 e.2) st
theorem passH_go {W H : Int} {cs : List Int} (hc : ∀ i, 0 ≤ cstI cs i) : ∀ {es : List (Int × Int)} (st : List Int × Bool), (∀ e ∈ es, (0 ≤ e.1 ∧ e.1 < cs.length) ∧ (0 ≤ e.2 ∧ e.2 < cs.length) ∧ e.2 ∈ nearL W H true e.1) → HGo W H cs st (passH cs es st)
  | [], st, _ => HGo.refl _
  | e :: r, st, h => by
    have he := h e (by simp)
    exact (relH_go hc he.1 he.2.1 he.2.2 st).trans (passH_go hc (es := r) _ (fun x hx => h x (by simp [hx])))
theorem passH_ok {W H : Int} {cs : List Int} (hc : ∀ i, 0 ≤ cstI cs i) : ∀ {es : List (Int × Int)} {st : List Int × Bool}, (∀ e ∈ es, (0 ≤ e.1 ∧ e.1 < cs.length) ∧ (0 ≤ e.2 ∧ e.2 < cs.length) ∧ e.2 ∈ nearL W H true e.1) → (passH cs es st).2 = false → passH cs es st = st ∧ ∀ e ∈ es, hldI cs e.1 = true → hldI cs e.2 = true → hL st.1 e.2 ≤ hL st.1 e.1 + cstI cs e.2
  | [], st, _, _ => ⟨rfl, fun e he => by cases he⟩
  | e :: r, st, h, hf => by
    have he := h e (by simp)
    have hr := passH_ok hc (es := r) (st := relH cs st e.1 e.2) (fun x hx => h x (by simp [hx])) hf
    have e1 : (relH cs st e.1 e.2).2 = false := by rw [← hr.1]; exact hf
    have e2 := (relH_go (W := W) (H := H) hc he.1 he.2.1 he.2.2 st).same e1
    refine ⟨(hr.1).trans e2, fun x hx => ?_⟩
    rcases List.mem_cons.1 hx with rfl | hx
    · exact relH_ok e1
    · have := hr.2 x hx
      rwa [e2] at this
/-- A state where all edges are right is the greatest. -/
theorem HSt.great {W H : Int} {cs hs : List Int} (h : HSt W H cs hs) (hf : Feas W H cs (hL hs)) : Great W H cs hs := ⟨h.len, h.le, hf, h.most⟩
def h0L (W : Int) (cs : List Int) (k : Nat) : List Int := (List.range cs.length).map fun i => if i < k then h0I W cs i else 0
theorem h0_st {W H : Int} {cs : List Int} (hc : ∀ i, 0 ≤ cstI cs i) : HSt W H cs (h0L W cs cs.length) := by
  have e : ∀ i : Int, 0 ≤ i → i < cs.length → hL (h0L W cs cs.length) i = h0I W cs i := fun i i0 i1 => by
    unfold hL h0L
    have : i.toNat < cs.length := by omega
    rw [List.getD_eq_getElem?_getD, List.getElem?_map, List.getElem?_range this]
    simp only [Option.map_some, Option.getD_some]
    rw [if_pos this]; congr 1; omega
  refine ⟨by simp [h0L], fun i i0 i1 => by rw [e i i0 i1]; exact Int.le_refl _, fun i i0 i1 => ?_, fun g _ hg i i0 i1 => by rw [e i i0 i1]; exact hg i i0 i1⟩
  rw [e i i0 i1]
  unfold h0I
  have := hc i
  split
  · omega
  · split <;> omega
end Go.Proofs.Ytbhpnhcdjmcaoaa

/- Boom: the greatest heights. -/
namespace Go.Proofs.Ytbhpnhcdjmcaoaa
open Go.RowKit
set_option linter.unusedVariables false
set_option linter.unusedSimpArgs false
theorem setL_int {l : List Int} {k : Nat} {z x : Int} (hz : z = k) : setL (l.map C.i) (mulS z.toNat 1) [C.i x] = (l.set k x).map C.i := by
  subst hz
  rw [mulS_eq, Int.toNat_natCast, Nat.mul_one]
  simp [setL, List.map_set]
theorem h0L_put {W : Int} {cs : List Int} {k : Nat} (hk : k < cs.length) : (h0L W cs k).set k (h0I W cs k) = h0L W cs (k + 1) := by
  apply List.ext_getElem
  · simp [h0L]
  · intro j h1 h2
    rw [List.getElem_set]
    simp only [h0L, List.length_map, List.length_range, List.length_set] at h1 h2
    simp only [h0L, List.getElem_map, List.getElem_range]
    by_cases hj : k = j
    · subst hj; rw [if_pos rfl, if_pos (by omega)]
    · rw [if_neg hj]
      by_cases hjk : j < k
      · rw [if_pos hjk, if_pos (by omega)]
      · rw [if_neg hjk, if_neg (by omega)]
theorem h0L_keep {W : Int} {cs : List Int} {k : Nat} (hk : k < cs.length) (h : h0I W cs k = 0) : h0L W cs (k + 1) = h0L W cs k := by
  unfold h0L
  refine List.map_congr_left fun i hi => ?_
  by_cases hik : i = k
  · subst hik; rw [if_pos (by omega), if_neg (by omega), h]
  · by_cases h2 : i < k
    · rw [if_pos (by omega), if_pos h2]
    · rw [if_neg (by omega), if_neg h2]
theorem h0L_z {W : Int} {cs : List Int} : repC cs.length [C.i 0] = (h0L W cs 0).map C.i := by
  unfold h0L
  generalize cs.length = n
  induction n with
  | zero => rfl
  | succ n ih =>
    rw [List.range_succ_eq_map, List.map_cons, List.map_map]
    show C.i 0 :: repC n [C.i 0] = _
    rw [ih]
    simp
theorem h0L_len (W : Int) (cs : List Int) (k : Nat) : (h0L W cs k).length = cs.length := by simp [h0L]
/-- The edges as the program goes over them. -/
def edP (W H : Int) (j : Nat) : List (Int × Int) := (List.range j).flatMap fun i : Nat => (nearL W H true (i : Int)).map fun k => ((i : Int), k)
theorem edP_ok {W H : Int} {cs : List Int} (hok : CO W H cs) {j : Nat} (hj : j ≤ cs.length) : ∀ e ∈ edP W H j, (0 ≤ e.1 ∧ e.1 < cs.length) ∧ (0 ≤ e.2 ∧ e.2 < cs.length) ∧ e.2 ∈ nearL W H true e.1 := fun e he => by
  obtain ⟨i, hi, he⟩ := List.mem_flatMap.1 he
  obtain ⟨k, hk, rfl⟩ := List.mem_map.1 he
  have hi := List.mem_range.1 hi
  have := near_in (by have := hok.w; omega) hk
  have := hok.len
  exact ⟨by simp only; omega, by simp only; omega, hk⟩
theorem passH_succ (W H : Int) (cs : List Int) (st : List Int × Bool) (j : Nat) : passH cs (edP W H (j + 1)) st = (nearL W H true (j : Int)).foldl (fun st k => relH cs st (j : Int) k) (passH cs (edP W H j) st) := by
  unfold passH edP
  rw [List.range_succ, List.flatMap_append, List.foldl_append]
  simp [List.foldl_map]
theorem edP_all {W H : Int} {cs hs : List Int} (h : ∀ e ∈ edP W H cs.length, hldI cs e.1 = true → hldI cs e.2 = true → hL hs e.2 ≤ hL hs e.1 + cstI cs e.2) : Feas W H cs (hL hs) := fun a b a0 a1 ha hb hn => by
  refine h (a, b) (List.mem_flatMap.2 ⟨a.toNat, List.mem_range.2 (by omega), List.mem_map.2 ⟨b, ?_, ?_⟩⟩) ha hb
  · rw [show ((a.toNat : Nat) : Int) = a by omega]; exact hn
  · rw [show ((a.toNat : Nat) : Int) = a by omega]
theorem HSt.sum {W H : Int} {cs hs : List Int} (h : HSt W H cs hs) : 0 ≤ hs.sum := sum_pos (hs := hs) (fun x hx => by
  obtain ⟨i, hi, rfl⟩ := List.mem_iff_getElem.1 hx
  have := h.pos i (by omega) (by have := h.len; omega)
  unfold hL at this
  rwa [Int.toNat_natCast, List.getD_eq_getElem?_getD, List.getElem?_eq_getElem hi] at this)
/-- Numbers and an error, or none. -/
def intsE (l : List Int) (Er : Int) (v : V) (L' : List E) : Prop :=
  ∃ o : C, v = V.tup [A.c o, A.c (C.i Er)] ∧ ((o = C.nil ∧ l = []) ∨ ∃ lab, o = C.sl lab l.length ∧ find L' lab = some ⟨lab, .vec 3 1, l.map C.i⟩)
noncomputable def htsO (W H : Int) (cs : List Int) : List Int := if okC W H cs then hts W H cs else []
def htsE (W H : Int) (cs : List Int) : Int := if okC W H cs then 0 else 30
theorem relH_no {cs : List Int} {st : List Int × Bool} {a b : Int} (h : hldI cs a = false ∨ hldI cs b = false ∨ ¬ hL st.1 b > hL st.1 a + cstI cs b) : relH cs st a b = st := by
  unfold relH
  rw [if_neg]
  simp only [Bool.and_eq_true, decide_eq_true_eq]
  rintro ⟨h1, h2, h3⟩
  rcases h with h | h | h
  · rw [h1] at h; cases h
  · rw [h2] at h; cases h
  · exact h h3
theorem relH_yes {cs : List Int} {st : List Int × Bool} {a b : Int} (h1 : hldI cs a = true) (h2 : hldI cs b = true) (h3 : hL st.1 b > hL st.1 a + cstI cs b) : relH cs st a b = (st.1.set b.toNat (hL st.1 a + cstI cs b), true) := by
  unfold relH
  rw [if_pos]
  simp only [Bool.and_eq_true, decide_eq_true_eq]
  exact ⟨h1, h2, h3⟩
set_option maxRecDepth 10000 in
set_option maxHeartbeats 8000000 in
theorem heights_spec (W H : Int) (cs : List Int) (hl : cs.length ≤ 300) :
    Spec Try.prog 31 [chR W H cs.length] [⟨0, .ro 0, cs.map C.i⟩] 1 (fun v L' _ => intsE (htsO W H cs) (htsE W H cs) v L') := by
  have hlm : (cs.map C.i).length = cs.length := by simp
  refine Spec.of tok Try.func31 rfl rfl rfl fun n0 cx => vc_ok tok ?_
  cases hv : okC W H cs with
  | false =>
    have e1 : htsO W H cs = [] := by unfold htsO; rw [hv]; rfl
    have e2 : htsE W H cs = 30 := by unfold htsE; rw [hv]; rfl
    rw [e1, e2]
    repeat ((conv => whnf); first | (refine And.intro (by first | omega | exact Nat.le_of_ble_eq_true rfl) ?_) | refine Exists.intro _ (And.intro rfl ?_) | refine br_t (by omega) ?_ | refine fun (K' : K3) hK' => ?_ | (refine hK' _ _ _ ?_; clear hK' K') | refine CallK.newNo (a := 0) (bs := []) (R := [(1, none)]) 30 hl (by simp) (.inl ⟨hv, rfl⟩) rfl rfl (roNil rfl) ?_ | refine CallK.m ?_)
    exact .inl ⟨rfl, rfl⟩
  | true =>
    have hok := okC_iff.1 hv
    have e1 : htsO W H cs = hts W H cs := by unfold htsO; rw [hv]; rfl
    have e2 : htsE W H cs = 0 := by unfold htsE; rw [hv]; rfl
    rw [e1, e2]
    have hW := hok.w
    have hH := hok.h
    have hcn := hok.len
    have hn : (cs.length : Int) ≤ 100 := by have := Int.mul_le_mul hW.2 hH.2 (by omega) (by omega : (0:Int) ≤ 10); omega
    have hcb := cst_bd hok.cost
    have hcp : ∀ i, 0 ≤ cstI cs i := fun i => (hcb i).1
    repeat ((conv => whnf); first | (refine And.intro (by first | omega | exact Nat.le_of_ble_eq_true rfl | (dsimp only [inK]; omega)) ?_) | refine Exists.intro _ (And.intro rfl ?_) | refine br_f (by omega) ?_ | refine fun (K' : K3) hK' => ?_ | (refine hK' _ _ _ ?_; clear hK' K') | refine CallK.newOk (a := 0) (bs := []) (R := [(1, none)]) hl (by simp) hv (okB_nil _ _ _) rfl rfl (by omega) (roNil rfl) ?_ | refine CallK.m ?_)
    refine Tri.loop (γ := Nat) (fun k => k ≤ cs.length) (fun k => [(1, V.c (.ptr 2 0)), (4, V.c (.ptr 3 0)), (6, V.c (.ptr 5 0)), (24, V.i cs.length), (25, V.i (k : Nat))])
      (fun k => [⟨5, .own 22, [.sl 4 cs.length]⟩, ⟨4, .vec 3 1, (h0L W cs k).map C.i⟩, ⟨3, .own 65, [C.i W, C.i H, .sl 0 cs.length, .mp 1]⟩, ⟨0, .ro 0, cs.map C.i⟩]) 6 (fun k => cs.length - k) 0 (R0 := [(1, some 2), (2, some 1)]) ?_ ?_ ?_
    · omega
    · skip
      refine ⟨?_, ?_, rfl, rfl, by exact Nat.le_of_ble_eq_true rfl⟩
      · repeat (first | exact trivial | (refine And.intro (covS_syn (by rfl) rfl (by first | exact trivial | exact Nat.le_of_ble_eq_true rfl)) ?_))
      · repeat (first | exact trivial | refine And.intro (covE_some (l := 4) rfl (Nat.le_of_ble_eq_true rfl) (wf_ints _ _) rfl ((ren_ints _ _).trans (congrArg some h0L_z.symm))) ?_ | (refine And.intro (covE_some rfl (Nat.le_of_ble_eq_true rfl) (by first | exact wf_ints _ _ | simp [C.wf]) rfl (by first | exact ren_ints _ _ | rfl)) ?_))
    · intro k hk
      refine vc_ok tok ?_
      by_cases hlt : k < cs.length
      · have hhl : hldI cs (k : Int) = decide (cs.getD k 0 ≠ 0) := by simp [hldI]
        have hr := row_spec W H cs.length (k : Int) 0 (by omega) (by omega) (by omega)
        have hh := holds_spec W H cs k hlt
        have hc := cost_spec W H cs k hlt
        have hck : cstI cs (k : Int) = if cs.getD k 0 > 0 then cs.getD k 0 else 0 := by simp [cstI]
        have hh0 : h0I W cs (k : Int) = if hldI cs (k : Int) = false then 0 else if (k : Int) / W = 0 then cstI cs (k : Int) else 1000000 := rfl
        have hrl := h0L_len W cs k
        rw [← hck] at hc
        obtain ⟨ck, hcke⟩ : ∃ x, x = cs.getD k 0 := ⟨_, rfl⟩
        rw [← hcke] at hh hhl
        obtain ⟨cc, hcc⟩ : ∃ cc, cc = cstI cs (k : Int) := ⟨_, rfl⟩
        rw [← hcc] at hc hh0
        by_cases h1 : ck ≠ 0
        · rw [hhl, dd_t h1, if_neg (by simp)] at hh0
          by_cases h2 : (k : Int) / W = 0
          · have hst : setL ((h0L W cs k).map C.i) (mulS ((k : Nat) : Int).toNat 1) [C.i cc] = (h0L W cs (k + 1)).map C.i := by
              rw [setL_int rfl, ← h0L_put hlt, hh0, if_pos h2]
            repeat ((conv => whnf); first | (refine And.intro (by first | omega | (dsimp only [inK]; omega) | (simp only [setL_length, List.length_map]; omega)) ?_) | refine Exists.intro _ (And.intro rfl ?_) | refine br_t (by omega) ?_ | refine fun (K' : K3) hK' => ?_ | (refine hK' _ _ _ ?_; clear hK' K') | refine draw_auto tok mixed (by kernel_rfl) ?_ | refine CallK.val (R := []) hh (by kernel_rfl) rfl (by simp [V.wf, A.wf, C.wf]) ⟨roE_ints (l := 0) rfl (by omega) rfl (.inl rfl), trivial⟩ rfl rfl trivial ?_ | refine br_bf (congrArg Bool.not (dd_t h1)) ?_ | refine CallK.val (R := []) hr (by kernel_rfl) rfl (by simp [V.wf, A.wf, C.wf]) trivial rfl rfl trivial ?_ | refine HD_mk (fun _ h => CallK.val (R := []) hc (by kernel_rfl) rfl (by simp [V.wf, A.wf, C.wf]) ⟨roE_ints (l := 0) rfl (by omega) rfl (.inl rfl), trivial⟩ rfl rfl trivial h) ?_ | (refine And.intro (by (try dsimp only); rw [mulS_eq]; simp only [List.length_map, Int.toNat_natCast]; omega) ?_) | refine CallK.m ?_)
            refine ⟨k + 1, [], by omega, by omega, ?_⟩
            refine ⟨?_, ?_, rfl, rfl, by exact Nat.le_of_ble_eq_true rfl⟩
            · repeat (first | exact trivial | (refine And.intro (covS_syn (by rfl) rfl (by first | exact trivial | exact Nat.le_of_ble_eq_true rfl)) ?_))
            · repeat (first | exact trivial | (refine And.intro (covE_id (Nat.le_of_ble_eq_true rfl) (by first | exact wf_ints _ _ | simp [C.wf]) rfl (by first | rfl | exact hst)) ?_))
          · have hst : setL ((h0L W cs k).map C.i) (mulS ((k : Nat) : Int).toNat 1) [C.i 1000000] = (h0L W cs (k + 1)).map C.i := by
              rw [setL_int rfl, ← h0L_put hlt, hh0, if_neg h2]
            repeat ((conv => whnf); first | (refine And.intro (by first | omega | (dsimp only [inK]; omega) | (simp only [setL_length, List.length_map]; omega)) ?_) | refine Exists.intro _ (And.intro rfl ?_) | refine br_t (by omega) ?_ | refine br_f (by omega) ?_ | refine fun (K' : K3) hK' => ?_ | (refine hK' _ _ _ ?_; clear hK' K') | refine CallK.val (R := []) hh (by kernel_rfl) rfl (by simp [V.wf, A.wf, C.wf]) ⟨roE_ints (l := 0) rfl (by omega) rfl (.inl rfl), trivial⟩ rfl rfl trivial ?_ | refine br_bf (congrArg Bool.not (dd_t h1)) ?_ | refine CallK.val (R := []) hr (by kernel_rfl) rfl (by simp [V.wf, A.wf, C.wf]) trivial rfl rfl trivial ?_ | (refine And.intro (by (try dsimp only); rw [mulS_eq]; simp only [List.length_map, Int.toNat_natCast]; omega) ?_) | refine CallK.m ?_)
            refine ⟨k + 1, [], by omega, by omega, ?_⟩
            refine ⟨?_, ?_, rfl, rfl, by exact Nat.le_of_ble_eq_true rfl⟩
            · repeat (first | exact trivial | (refine And.intro (covS_syn (by rfl) rfl (by first | exact trivial | exact Nat.le_of_ble_eq_true rfl)) ?_))
            · repeat (first | exact trivial | (refine And.intro (covE_id (Nat.le_of_ble_eq_true rfl) (by first | exact wf_ints _ _ | simp [C.wf]) rfl (by first | rfl | exact hst)) ?_))
        · have hz : h0I W cs (k : Int) = 0 := by rw [hh0, hhl, dd_f h1, if_pos rfl]
          repeat ((conv => whnf); first | (refine And.intro (by first | omega | (dsimp only [inK]; omega)) ?_) | refine Exists.intro _ (And.intro rfl ?_) | refine br_t (by omega) ?_ | refine fun (K' : K3) hK' => ?_ | (refine hK' _ _ _ ?_; clear hK' K') | refine CallK.val (R := []) hh (by kernel_rfl) rfl (by simp [V.wf, A.wf, C.wf]) ⟨roE_ints (l := 0) rfl (by omega) rfl (.inl rfl), trivial⟩ rfl rfl trivial ?_ | refine br_bt (congrArg Bool.not (dd_f h1)) ?_ | refine CallK.m ?_)
          refine ⟨k + 1, [], by omega, by omega, ?_⟩
          refine ⟨?_, ?_, rfl, rfl, by exact Nat.le_of_ble_eq_true rfl⟩
          · repeat (first | exact trivial | (refine And.intro (covS_syn (by rfl) rfl (by first | exact trivial | exact Nat.le_of_ble_eq_true rfl)) ?_))
          · repeat (first | exact trivial | (refine And.intro (covE_id (Nat.le_of_ble_eq_true rfl) (by first | exact wf_ints _ _ | simp [C.wf]) rfl (by first | rfl | rw [h0L_keep hlt hz])) ?_))
      · have hkn : k = cs.length := by omega
        subst hkn
        repeat ((conv => whnf); first | (refine And.intro (by first | omega | exact Nat.le_of_ble_eq_true rfl) ?_) | refine br_f (by omega) ?_ | refine fun (K' : K3) hK' => ?_ | (refine hK' _ _ _ ?_; clear hK' K'))
        refine Tri.loop (γ := List Int × Bool) (fun g => HSt W H cs g.1 ∧ (g.2 = false → Great W H cs g.1)) (fun g => [(1, V.c (.ptr 2 0)), (4, V.c (.ptr 3 0)), (6, V.c (.ptr 5 0)), (8, V.c (.ptr 6 0))])
          (fun g => [⟨6, .own 4, [.bool g.2]⟩, ⟨5, .own 22, [.sl 4 cs.length]⟩, ⟨4, .vec 3 1, g.1.map C.i⟩, ⟨3, .own 65, [C.i W, C.i H, .sl 0 cs.length, .mp 1]⟩, ⟨0, .ro 0, cs.map C.i⟩]) 12 (fun g => (sumH g.1).toNat + (if g.2 then 1 else 0)) (h0L W cs cs.length, true) (R0 := []) ?_ ?_ ?_
        · exact ⟨h0_st hcp, fun h => by cases h⟩
        · skip
          refine ⟨?_, ?_, rfl, rfl, by exact Nat.le_of_ble_eq_true rfl⟩
          · repeat (first | exact trivial | refine And.intro (covS_syn (by rfl) rfl (by exact Nat.le_of_ble_eq_true rfl)) ?_)
          · repeat (first | exact trivial | refine And.intro (covE_b1 (Nat.le_of_ble_eq_true rfl) rfl rfl rfl) ?_ | (refine And.intro (covE_id (Nat.le_of_ble_eq_true rfl) (by first | exact wf_ints _ _ | simp [C.wf]) rfl (by rfl)) ?_))
        · rintro ⟨hs, b⟩ ⟨hst, hgr⟩
          simp only at hst hgr ⊢
          refine vc_ok tok ?_
          cases b with
          | false =>
            have hg := (hgr rfl).hts
            have hgl := hst.len
            repeat ((conv => whnf); first | refine Exists.intro _ (And.intro rfl ?_) | refine fun (K' : K3) hK' => ?_ | (refine hK' _ _ _ ?_; clear hK' K') | refine br_bf (Eq.refl false) ?_)
            rw [hg]
            exact .inr ⟨4, by rw [hgl], rfl⟩
          | true =>
            obtain ⟨ps, hps⟩ : ∃ ps : Nat → List Int × Bool, ps = fun j => passH cs (edP W H j) (hs, false) := ⟨_, rfl⟩
            have hps0 : ps 0 = (hs, false) := by rw [hps]; rfl
            have hpss : ∀ j, ps (j + 1) = (nearL W H true (j : Int)).foldl (fun st k => relH cs st (j : Int) k) (ps j) := fun j => by rw [hps]; exact passH_succ W H cs _ j
            have hpsg : ∀ j, j ≤ cs.length → HGo W H cs (hs, false) (ps j) := fun j hj => by rw [hps]; exact passH_go hcp _ (edP_ok hok hj)
            have hpse : (ps cs.length).2 = false → ps cs.length = (hs, false) ∧ Great W H cs hs := fun h => by
              rw [hps] at h ⊢
              obtain ⟨q1, q2⟩ := passH_ok hcp (edP_ok hok (Nat.le_refl _)) h
              exact ⟨q1, hst.great (edP_all q2)⟩
            clear hps hgr
            repeat ((conv => whnf); first | (refine And.intro (by first | omega | exact Nat.le_of_ble_eq_true rfl) ?_) | refine Exists.intro _ (And.intro rfl ?_) | refine fun (K' : K3) hK' => ?_ | (refine hK' _ _ _ ?_; clear hK' K') | refine br_bt (Eq.refl true) ?_)
            refine Tri.loop (γ := Nat) (fun j => j ≤ cs.length) (fun j => [(1, V.c (.ptr 2 0)), (4, V.c (.ptr 3 0)), (6, V.c (.ptr 5 0)), (8, V.c (.ptr 6 0)), (49, V.i cs.length), (50, V.i (j : Nat))])
              (fun j => [⟨6, .own 4, [.bool (ps j).2]⟩, ⟨5, .own 22, [.sl 4 cs.length]⟩, ⟨4, .vec 3 1, (ps j).1.map C.i⟩, ⟨3, .own 65, [C.i W, C.i H, .sl 0 cs.length, .mp 1]⟩, ⟨0, .ro 0, cs.map C.i⟩]) 12 (fun j => cs.length - j) 0 (R0 := []) ?_ ?_ ?_
            · omega
            · skip
              refine ⟨?_, ?_, rfl, rfl, by exact Nat.le_of_ble_eq_true rfl⟩
              · repeat (first | exact trivial | (refine And.intro (covS_syn (by rfl) rfl (by first | exact trivial | exact Nat.le_of_ble_eq_true rfl)) ?_))
              · repeat (first | exact trivial | refine And.intro (covE_b1 (Nat.le_of_ble_eq_true rfl) rfl rfl (congrArg Prod.snd hps0).symm) ?_ | (refine And.intro (covE_id (Nat.le_of_ble_eq_true rfl) (by first | exact wf_ints _ _ | simp [C.wf]) rfl (by first | rfl | exact congrArg (fun x : List Int × Bool => x.1.map C.i) hps0.symm)) ?_))
            · intro j hj
              refine vc_ok tok ?_
              by_cases hlt : j < cs.length
              · obtain ⟨fs, hfs⟩ : ∃ fs : List Int → List Int × Bool, fs = fun pre => pre.foldl (fun st k => relH cs st (j : Int) k) (ps j) := ⟨_, rfl⟩
                have hfs0 : fs [] = ps j := by rw [hfs]; rfl
                have hfss : ∀ pre k, fs (pre ++ [k]) = relH cs (fs pre) (j : Int) k := fun pre k => by rw [hfs]; simp
                have hfsn : fs (nearL W H true (j : Int)) = ps (j + 1) := by rw [hfs, hpss]
                have hsj := (hpsg j hj).ok hst
                have hhj := holds_spec W H cs j hlt
                have hhlj : hldI cs (j : Int) = decide (cs.getD j 0 ≠ 0) := by simp [hldI]
                rw [← hhlj] at hhj
                clear hpss hpse hfs hhlj
                repeat ((conv => whnf); first | (refine And.intro (by first | omega | exact Nat.le_of_ble_eq_true rfl) ?_) | refine Exists.intro _ (And.intro rfl ?_) | refine br_t (by omega) ?_ | refine fun (K' : K3) hK' => ?_ | (refine hK' _ _ _ ?_; clear hK' K') | refine CallK.fresh (by kernel_rfl) (near_spec _ _ _ _) rfl ?_ | refine CallK.m ?_)
                refine Tri.opq fun K' hK' => ?_
                refine Tri.near (R0 := []) (W := W) (H := H) (n := cs.length) (i := (j : Int)) (e := true) (fun pre => HSt W H cs (fs pre).1)
                  (fun pre => [⟨12, .own 3, [C.i (j : Int)]⟩, ⟨6, .own 4, [.bool (fs pre).2]⟩, ⟨5, .own 22, [.sl 4 cs.length]⟩, ⟨4, .vec 3 1, (fs pre).1.map C.i⟩, ⟨3, .own 65, [C.i W, C.i H, .sl 0 cs.length, .mp 1]⟩, ⟨0, .ro 0, cs.map C.i⟩])
                  (by rw [hfs0]; exact hsj) (by omega) (by omega) (by omega) (by exact rfl) (by exact rfl) (by exact rfl) ?_ ?_ ?_
                · intro oo
                  refine ⟨?_, ?_, rfl, rfl, by exact Nat.le_of_ble_eq_true rfl⟩
                  · repeat (exact trivial)
                  · repeat (first | exact trivial | refine And.intro (covE_b1 (b := true) (Nat.le_of_ble_eq_true rfl) rfl rfl rfl) ?_ | refine And.intro (covE_b1 (Nat.le_of_ble_eq_true rfl) rfl rfl (congrArg Prod.snd hfs0).symm) ?_ | (refine And.intro (covE_id (Nat.le_of_ble_eq_true rfl) (by first | exact wf_ints _ _ | simp [C.wf]) rfl (by first | rfl | exact congrArg (fun x : List Int × Bool => x.1.map C.i) hfs0.symm)) ?_))
                · intro oo ob od pre post kk hsp hk0 hk1 hI cxb hcx
                  have hstep := hfss pre kk
                  have hnk : kk ∈ nearL W H true (j : Int) := by rw [hsp]; simp
                  obtain ⟨k, rfl⟩ : ∃ k : Nat, kk = k := ⟨kk.toNat, by omega⟩
                  have hkl : k < cs.length := by omega
                  have hgo := (relH_go (W := W) (H := H) hcp (a := (j : Int)) (b := (k : Int)) (by omega) (by omega) hnk (fs pre)).ok hI
                  rw [← hstep] at hgo
                  have hhk := holds_spec W H cs k hkl
                  have hhlk : hldI cs (k : Int) = decide (cs.getD k 0 ≠ 0) := by simp [hldI]
                  rw [← hhlk] at hhk
                  have hc := cost_spec W H cs k hkl
                  have hck : cstI cs (k : Int) = if cs.getD k 0 > 0 then cs.getD k 0 else 0 := by simp [cstI]
                  have hcn := hcb (k : Int)
                  rw [← hck] at hc
                  have hfl := hI.len
                  have hpj := hI.pos j (by omega) (by omega)
                  have hpk := hI.pos k (by omega) (by omega)
                  have hbj := hI.le j (by omega) (by omega)
                  have hb0 : ∀ i, h0I W cs i ≤ 1000000 := fun i => by unfold h0I; have := hcb i; split; omega; split <;> omega
                  have hb0j := hb0 j
                  have hldj := intL (l := (fs pre).1) (k := j) (by omega)
                  have hldk := intL (l := (fs pre).1) (k := k) (by omega)
                  have hej : (fs pre).1.getD j 0 = hL (fs pre).1 (j : Int) := by unfold hL; rw [Int.toNat_natCast]
                  have hek : (fs pre).1.getD k 0 = hL (fs pre).1 (k : Int) := by unfold hL; rw [Int.toNat_natCast]
                  rw [hej] at hldj
                  rw [hek] at hldk
                  have hno := relH_no (cs := cs) (st := fs pre) (a := (j : Int)) (b := (k : Int))
                  have hyes := relH_yes (cs := cs) (st := fs pre) (a := (j : Int)) (b := (k : Int))
                  rw [← hstep] at hno hyes
                  obtain ⟨cc, hcc⟩ : ∃ cc, cc = cstI cs (k : Int) := ⟨_, rfl⟩
                  rw [← hcc] at hc hcn hno hyes
                  obtain ⟨xj, hxj⟩ : ∃ x, x = hL (fs pre).1 (j : Int) := ⟨_, rfl⟩
                  obtain ⟨xk, hxk⟩ : ∃ x, x = hL (fs pre).1 (k : Int) := ⟨_, rfl⟩
                  rw [← hxj] at hldj hpj hbj hno hyes
                  rw [← hxk] at hldk hpk hno hyes
                  obtain ⟨fn, hfn⟩ : ∃ fn, fn = fs (pre ++ [(k : Int)]) := ⟨_, rfl⟩
                  obtain ⟨fb, hfb⟩ : ∃ fb, fb = fs pre := ⟨_, rfl⟩
                  rw [← hfb, ← hfn] at hno hyes
                  rw [← hfb] at hldj hldk hfl
                  rw [← hfn] at hgo
                  rw [← hfb, ← hfn]
                  refine vc_ok tok ?_
                  repeat ((conv => whnf); first | refine fun (K' : K3) hK' => ?_ | (refine hK' _ _ _ ?_; clear hK' K') | refine And.intro (Eq.refl oo) ?_)
                  refine vc_ok tok ?_
                  cases h1 : hldI cs (j : Int) with
                  | false =>
                    have e := hno (.inl h1)
                    rw [h1] at hhj
                    repeat ((conv => whnf); first | refine Exists.intro _ (And.intro rfl ?_) | refine fun (K' : K3) hK' => ?_ | (refine hK' _ _ _ ?_; clear hK' K') | refine draw_auto tok mixed (by kernel_rfl) ?_ | refine HD_mk (fun _ h => CallK.val (R := []) hhj (by kernel_rfl) rfl (by simp [V.wf, A.wf, C.wf]) ⟨roE_ints (l := 0) rfl (by omega) rfl (.inl rfl), trivial⟩ rfl rfl trivial h) ?_ | refine And.intro (Eq.refl ob) ?_ | refine br_bf (Eq.refl false) ?_)
                    refine .inl ⟨rfl, hgo, [], rfl, ?_⟩
                    refine ⟨?_, ?_, rfl, rfl, by exact Nat.le_of_ble_eq_true rfl⟩
                    · repeat (exact trivial)
                    · repeat (first | exact trivial | refine And.intro (covE_b1 (Nat.le_of_ble_eq_true rfl) rfl rfl (congrArg Prod.snd e).symm) ?_ | (refine And.intro (covE_id (Nat.le_of_ble_eq_true rfl) (by first | exact wf_ints _ _ | simp [C.wf]) rfl (by first | rfl | exact congrArg (fun x : List Int × Bool => x.1.map C.i) e.symm)) ?_))
                  | true =>
                    rw [h1] at hhj
                    cases h2 : hldI cs (k : Int) with
                    | false =>
                      have e := hno (.inr (.inl h2))
                      rw [h2] at hhk
                      repeat ((conv => whnf); first | refine Exists.intro _ (And.intro rfl ?_) | refine fun (K' : K3) hK' => ?_ | (refine hK' _ _ _ ?_; clear hK' K') | refine draw_auto tok mixed (by kernel_rfl) ?_ | refine HD_mk (fun _ h => CallK.val (R := []) hhj (by kernel_rfl) rfl (by simp [V.wf, A.wf, C.wf]) ⟨roE_ints (l := 0) rfl (by omega) rfl (.inl rfl), trivial⟩ rfl rfl trivial h) ?_ | refine HD_mk (fun _ h => CallK.val (R := []) hhk (by kernel_rfl) rfl (by simp [V.wf, A.wf, C.wf]) ⟨roE_ints (l := 0) rfl (by omega) rfl (.inl rfl), trivial⟩ rfl rfl trivial h) ?_ | refine And.intro (Eq.refl ob) ?_ | refine br_bt (Eq.refl true) ?_ | refine br_bf (Eq.refl false) ?_)
                      refine .inl ⟨rfl, hgo, [], rfl, ?_⟩
                      refine ⟨?_, ?_, rfl, rfl, by exact Nat.le_of_ble_eq_true rfl⟩
                      · repeat (exact trivial)
                      · repeat (first | exact trivial | refine And.intro (covE_b1 (Nat.le_of_ble_eq_true rfl) rfl rfl (congrArg Prod.snd e).symm) ?_ | (refine And.intro (covE_id (Nat.le_of_ble_eq_true rfl) (by first | exact wf_ints _ _ | simp [C.wf]) rfl (by first | rfl | exact congrArg (fun x : List Int × Bool => x.1.map C.i) e.symm)) ?_))
                    | true =>
                      rw [h2] at hhk
                      by_cases h3 : xk > xj + cc
                      · have e := hyes h1 h2 h3
                        have hcell : setL (fb.1.map C.i) (mulS ((k : Nat) : Int).toNat 1) [C.i (xj + cc)] = fn.1.map C.i := by rw [setL_int rfl, e, Int.toNat_natCast]
                        repeat ((conv => whnf); first | (refine And.intro (by first | omega | exact Nat.le_of_ble_eq_true rfl | (dsimp only [inK]; omega) | (simp only [setL_length, List.length_map]; omega)) ?_) | with_reducible refine ld (hldj) ?_ | with_reducible refine ld (hldk) ?_ | refine Exists.intro _ (And.intro rfl ?_) | refine br_t (by omega) ?_ | refine fun (K' : K3) hK' => ?_ | (refine hK' _ _ _ ?_; clear hK' K') | refine draw_auto tok mixed (by kernel_rfl) ?_ | refine HD_mk (fun _ h => CallK.val (R := []) hhj (by kernel_rfl) rfl (by simp [V.wf, A.wf, C.wf]) ⟨roE_ints (l := 0) rfl (by omega) rfl (.inl rfl), trivial⟩ rfl rfl trivial h) ?_ | refine HD_mk (fun _ h => CallK.val (R := []) hhk (by kernel_rfl) rfl (by simp [V.wf, A.wf, C.wf]) ⟨roE_ints (l := 0) rfl (by omega) rfl (.inl rfl), trivial⟩ rfl rfl trivial h) ?_ | refine HD_mk (fun _ h => CallK.val (R := []) hc (by kernel_rfl) rfl (by simp [V.wf, A.wf, C.wf]) ⟨roE_ints (l := 0) rfl (by omega) rfl (.inl rfl), trivial⟩ rfl rfl trivial h) ?_ | (refine And.intro (by (try dsimp only); rw [mulS_eq]; simp only [List.length_map, Int.toNat_natCast]; omega) ?_) | refine And.intro (Eq.refl ob) ?_ | refine br_bt (Eq.refl true) ?_)
                        refine .inl ⟨rfl, hgo, [], rfl, ?_⟩
                        refine ⟨?_, ?_, rfl, rfl, by exact Nat.le_of_ble_eq_true rfl⟩
                        · repeat (exact trivial)
                        · repeat (first | exact trivial | refine And.intro (covE_b1 (Nat.le_of_ble_eq_true rfl) rfl rfl (congrArg Prod.snd e).symm) ?_ | (refine And.intro (covE_id (Nat.le_of_ble_eq_true rfl) (by first | exact wf_ints _ _ | simp [C.wf]) rfl (by first | rfl | exact hcell)) ?_))
                      · have e := hno (.inr (.inr h3))
                        repeat ((conv => whnf); first | (refine And.intro (by first | omega | (dsimp only [inK]; omega) | (simp only [setL_length, List.length_map]; omega)) ?_) | with_reducible refine ld (hldj) ?_ | with_reducible refine ld (hldk) ?_ | refine Exists.intro _ (And.intro rfl ?_) | refine br_f (by omega) ?_ | refine fun (K' : K3) hK' => ?_ | (refine hK' _ _ _ ?_; clear hK' K') | refine draw_auto tok mixed (by kernel_rfl) ?_ | refine HD_mk (fun _ h => CallK.val (R := []) hhj (by kernel_rfl) rfl (by simp [V.wf, A.wf, C.wf]) ⟨roE_ints (l := 0) rfl (by omega) rfl (.inl rfl), trivial⟩ rfl rfl trivial h) ?_ | refine HD_mk (fun _ h => CallK.val (R := []) hhk (by kernel_rfl) rfl (by simp [V.wf, A.wf, C.wf]) ⟨roE_ints (l := 0) rfl (by omega) rfl (.inl rfl), trivial⟩ rfl rfl trivial h) ?_ | refine HD_mk (fun _ h => CallK.val (R := []) hc (by kernel_rfl) rfl (by simp [V.wf, A.wf, C.wf]) ⟨roE_ints (l := 0) rfl (by omega) rfl (.inl rfl), trivial⟩ rfl rfl trivial h) ?_ | refine And.intro (Eq.refl ob) ?_ | refine br_bt (Eq.refl true) ?_)
                        refine .inl ⟨rfl, hgo, [], rfl, ?_⟩
                        refine ⟨?_, ?_, rfl, rfl, by exact Nat.le_of_ble_eq_true rfl⟩
                        · repeat (exact trivial)
                        · repeat (first | exact trivial | refine And.intro (covE_b1 (Nat.le_of_ble_eq_true rfl) rfl rfl (congrArg Prod.snd e).symm) ?_ | (refine And.intro (covE_id (Nat.le_of_ble_eq_true rfl) (by first | exact wf_ints _ _ | simp [C.wf]) rfl (by first | rfl | exact congrArg (fun x : List Int × Bool => x.1.map C.i) e.symm)) ?_))
                · intro oo od hI
                  refine Or.inl ?_
                  refine And.intro rfl ?_
                  conv => whnf
                  refine hK' _ _ _ _ ?_
                  repeat ((conv => whnf); first | (refine And.intro (by first | omega | (dsimp only [inK]; omega)) ?_) | refine fun (K' : K3) hK' => ?_ | (refine hK' _ _ _ ?_; clear hK' K'))
                  refine ⟨j + 1, [], by omega, by omega, ?_⟩
                  refine ⟨?_, ?_, rfl, rfl, by exact Nat.le_of_ble_eq_true rfl⟩
                  · repeat (first | exact trivial | (refine And.intro (covS_syn (by rfl) rfl (by first | exact trivial | exact Nat.le_of_ble_eq_true rfl)) ?_))
                  · repeat (first | exact trivial | refine And.intro (covE_b1 (Nat.le_of_ble_eq_true rfl) rfl rfl (congrArg Prod.snd hfsn)) ?_ | (refine And.intro (covE_id (Nat.le_of_ble_eq_true rfl) (by first | exact wf_ints _ _ | simp [C.wf]) rfl (by first | rfl | exact congrArg (fun x : List Int × Bool => x.1.map C.i) hfsn)) ?_))
              · have hkn : j = cs.length := by omega
                subst hkn
                repeat ((conv => whnf); first | (refine And.intro (by first | omega | exact Nat.le_of_ble_eq_true rfl) ?_) | refine Exists.intro _ (And.intro rfl ?_) | refine br_f (by omega) ?_ | refine fun (K' : K3) hK' => ?_ | (refine hK' _ _ _ ?_; clear hK' K'))
                have hgo := hpsg cs.length (Nat.le_refl _)
                refine ⟨(ps cs.length), [(6, some 12)], ⟨hgo.ok hst, fun h => by obtain ⟨q1, q2⟩ := hpse h; rw [q1]; exact q2⟩, ?_, ?_⟩
                · have hp0 := hst.sum
                  have hp1 := (hgo.ok hst).sum
                  cases hb : (ps cs.length).2 with
                  | false => rw [(hpse hb).1]; simp
                  | true =>
                    rcases hgo.less hst hb with ⟨h, _⟩ | h
                    · cases h
                    · simp only [sumH] at *; simp only [if_true]; omega
                · skip
                  refine ⟨?_, ?_, rfl, rfl, by exact Nat.le_of_ble_eq_true rfl⟩
                  · repeat (first | exact trivial | refine And.intro (covS_syn (by rfl) rfl (by exact Nat.le_of_ble_eq_true rfl)) ?_)
                  · repeat (first | exact trivial | refine And.intro (covE_bR rfl (Nat.le_of_ble_eq_true rfl) rfl rfl rfl) ?_ | (refine And.intro (covE_some rfl (Nat.le_of_ble_eq_true rfl) (by first | exact wf_ints _ _ | simp [C.wf]) rfl (by first | exact ren_ints _ _ | rfl)) ?_))
end Go.Proofs.Ytbhpnhcdjmcaoaa

/- Boom: a list each of whose cells is a neighbour of the one in front of it. -/
namespace Go.Proofs.Ytbhpnhcdjmcaoaa
open Go.RowKit
set_option linter.unusedVariables false
set_option linter.unusedSimpArgs false
def foundF (t : Int) (b : Bool) (k : Int) : Bool := b || decide (k = t)
theorem foundF_eq (t : Int) : ∀ (l : List Int) (b : Bool), l.foldl (foundF t) b = (b || l.contains t)
  | [], b => by simp
  | k :: r, b => by
    rw [List.foldl_cons, foundF_eq t r]
    unfold foundF
    by_cases h : k = t
    · subst h; simp
    · have h2 : ¬ t = k := fun e => h e.symm
      simp [h, h2]
/-- Whether each of the first so many is a neighbour of the one in front of it. -/
def follB (W H : Int) (e : Bool) (l : List Int) (k : Nat) : Bool := (List.range (k - 1)).all fun j => (nearL W H e (l.getD j 0)).contains (l.getD (j + 1) 0)
theorem follB_succ (W H : Int) (e : Bool) (l : List Int) (k : Nat) : follB W H e l (k + 1 + 1) = (follB W H e l (k + 1) && (nearL W H e (l.getD k 0)).contains (l.getD (k + 1) 0)) := by
  unfold follB
  simp [List.range_succ, List.all_append]
theorem follB_false (W H : Int) (e : Bool) (l : List Int) (k : Nat) (hk : k ≤ l.length) (h : follB W H e l k = false) : follB W H e l l.length = false := by
  unfold follB at *
  rw [List.all_eq_false] at h ⊢
  obtain ⟨x, hx, h⟩ := h
  exact ⟨x, by simp only [List.mem_range] at *; omega, h⟩
set_option maxRecDepth 10000 in
set_option maxHeartbeats 4000000 in
theorem follows_spec (W H : Int) (n : Nat) (e : Bool) (l : List Int) (hW : 0 < W ∧ W ≤ 10) (hH : 0 < H ∧ H ≤ 10) (hl : l.length ≤ 300) (hin : ∀ k, k < l.length → 0 ≤ l.getD k 0 ∧ l.getD k 0 < W * H) :
    Spec Try.prog 94 [chV W H n, V.c (.sl 2 l.length), V.c (.bool e)] [⟨2, .ro 0, l.map C.i⟩] 3 (Is (V.c (.bool (follB W H e l l.length)))) := by
  have hlm : (l.map C.i).length = l.length := by simp
  have hWH : W * H ≤ 100 := by have := Int.mul_le_mul hW.2 hH.2 (by omega) (by omega : (0:Int) ≤ 10); omega
  refine Spec.of tok Try.func94 rfl rfl rfl fun n0 cx => vc_ok tok ?_
  repeat ((conv => whnf); first | (refine And.intro (by first | omega | exact Nat.le_of_ble_eq_true rfl) ?_) | refine fun (K' : K3) hK' => ?_ | (refine hK' _ _ _ ?_; clear hK' K'))
  refine Tri.loop (γ := Nat) (fun k => 1 ≤ k ∧ (k ≤ l.length ∨ k = 1) ∧ follB W H e l k = true) (fun k => [(2, V.c (.bool e)), (3, V.c (.ptr 3 0)), (4, V.c (.ptr 4 0)), (7, V.c (.ptr 5 0))])
    (fun k => [⟨5, .own 3, [C.i (k : Nat)]⟩, ⟨4, .own 22, [.sl 2 l.length]⟩, ⟨3, .own 65, [C.i W, C.i H, .sl 0 n, .mp 1]⟩, ⟨2, .ro 0, l.map C.i⟩]) 6 (fun k => l.length - k) 1 (R0 := []) ?_ ?_ ?_
  · exact ⟨by omega, .inr rfl, rfl⟩
  · skip
    refine ⟨?_, ?_, rfl, rfl, by exact Nat.le_of_ble_eq_true rfl⟩
    · repeat (first | exact trivial | (refine And.intro (covS_syn (by rfl) rfl (by first | exact trivial | exact Nat.le_of_ble_eq_true rfl)) ?_))
    · repeat (first | exact trivial | (refine And.intro (covE_id (Nat.le_of_ble_eq_true rfl) (by first | exact wf_ints _ _ | simp [C.wf]) rfl (by rfl)) ?_))
  · rintro k ⟨h1, h2, hf⟩
    refine vc_ok tok ?_
    by_cases hlt : k < l.length
    · obtain ⟨m, rfl⟩ : ∃ m, k = m + 1 := ⟨k - 1, by omega⟩
      obtain ⟨hm0, hm1⟩ := hin m (by omega)
      obtain ⟨i, hi⟩ : ∃ i, i = l.getD m 0 := ⟨_, rfl⟩
      obtain ⟨t, ht⟩ : ∃ t, t = l.getD (m + 1) 0 := ⟨_, rfl⟩
      have hLi : (l.map C.i)[mulS (((m + 1 : Nat) : Int) - 1).toNat 1]? = some (C.i i) := by rw [hi]; exact intLz (by omega) (by omega)
      have hLt : (l.map C.i)[mulS (((m + 1 : Nat) : Int)).toNat 1]? = some (C.i t) := by rw [ht]; exact intLz rfl (by omega)
      rw [← hi] at hm0 hm1
      obtain ⟨fd, hfd⟩ : ∃ fd : Nat → Bool, fd = foldC (foundF t) W H e i false := ⟨_, rfl⟩
      have hfd0 : fd 0 = false := by rw [hfd]; rfl
      have hx0 : 0 ≤ i % W := Int.emod_nonneg _ (by omega)
      have hx1 : i % W < W := Int.emod_lt_of_pos _ (by omega)
      have hy0 : 0 ≤ i / W := Int.ediv_nonneg hm0 (by omega)
      have hy1 : i / W ≤ 100 := Int.le_trans (Int.ediv_le_self _ hm0) (by omega)
      repeat ((conv => whnf); first | (refine And.intro (by first | omega | exact Nat.le_of_ble_eq_true rfl | (dsimp only [inK]; omega)) ?_) | with_reducible refine ld (hLi) ?_ | refine Exists.intro _ (And.intro rfl ?_) | refine br_t (by omega) ?_ | refine fun (K' : K3) hK' => ?_ | (refine hK' _ _ _ ?_; clear hK' K') | refine draw_auto tok mixed (by kernel_rfl) ?_ | refine HD_mk (fun _ h => CallK.fresh (by kernel_rfl) (near_spec _ _ _ _) rfl h) ?_)
      refine Tri.rangeFunc tok (by exact rfl) (by kernel_rfl) (by exact rfl) (by exact rfl) (by exact rfl) (by exact rfl) (by exact rfl) (by exact rfl) ?_
      intro y cxi oo ob od hy hY
      refine vc_ok tok ?_
      repeat ((conv => whnf); first | (refine And.intro (by first | omega | exact Nat.le_of_ble_eq_true rfl) ?_) | refine Exists.intro _ (And.intro rfl ?_) | refine fun (K' : K3) hK' => ?_ | (refine hK' _ _ _ ?_; clear hK' K') | refine CallK.val (R := []) (cell_spec W H n i (by omega) (by omega) (by omega)) (by kernel_rfl) rfl (by simp [V.wf, A.wf, C.wf]) trivial rfl rfl (by simp [V.wf, A.wf, C.wf]) ?_ | refine CallK.m ?_)
      refine Tri.loop (γ := Nat) (fun a => a ≤ 3) (fun a => [(0, V.c (.v y)), (1, V.c (.ptr 7 0)), (2, V.c (.ptr 8 0)), (3, V.c (.ptr 9 0)), (5, V.c (.ptr 11 0)), (6, V.i ((a : Int) - 1))])
        (fun a => [⟨11, .own 57, [C.i (i % W), C.i (i / W)]⟩, ⟨10, .obj oo, []⟩, ⟨9, .own 4, [.bool e]⟩, ⟨8, .own 3, [C.i i]⟩, ⟨7, .own 65, [C.i W, C.i H, .sl 0 n, .mp 1]⟩, ⟨6, .own 4, [.bool (fd (3 * a))]⟩, ⟨5, .own 3, [C.i ((m + 1 : Nat) : Int)]⟩, ⟨4, .own 22, [.sl 2 l.length]⟩, ⟨3, .own 65, [C.i W, C.i H, .sl 0 n, .mp 1]⟩, ⟨2, .ro 0, l.map C.i⟩]) 12 (fun a => 3 - a) 0 (R0 := []) ?_ ?_ ?_
      · omega
      · skip
        refine ⟨?_, ?_, rfl, rfl, by exact Nat.le_of_ble_eq_true rfl⟩
        · repeat (first | exact trivial | (refine And.intro (covS_syn (by rfl) rfl (by first | exact trivial | exact Nat.le_of_ble_eq_true rfl | exact hy)) ?_))
        · repeat (first | exact trivial | refine And.intro (covE_b1 (Nat.le_of_ble_eq_true rfl) rfl rfl hfd0.symm) ?_ | (refine And.intro (covE_id (Nat.le_of_ble_eq_true rfl) (by first | exact wf_ints _ _ | simp [C.wf]) rfl (by rfl)) ?_))
      · intro a ha
        refine vc_ok tok ?_
        by_cases ha3 : a < 3
        · repeat ((conv => whnf); first | refine br_t (by omega) ?_ | refine fun (K' : K3) hK' => ?_ | (refine hK' _ _ _ ?_; clear hK' K'))
          refine Tri.loop (γ := Nat) (fun b => b ≤ 3) (fun b => [(0, V.c (.v y)), (1, V.c (.ptr 7 0)), (2, V.c (.ptr 8 0)), (3, V.c (.ptr 9 0)), (5, V.c (.ptr 11 0)), (6, V.i ((a : Int) - 1)), (7, V.i ((b : Int) - 1))])
            (fun b => [⟨11, .own 57, [C.i (i % W), C.i (i / W)]⟩, ⟨10, .obj oo, []⟩, ⟨9, .own 4, [.bool e]⟩, ⟨8, .own 3, [C.i i]⟩, ⟨7, .own 65, [C.i W, C.i H, .sl 0 n, .mp 1]⟩, ⟨6, .own 4, [.bool (fd (3 * a + b))]⟩, ⟨5, .own 3, [C.i ((m + 1 : Nat) : Int)]⟩, ⟨4, .own 22, [.sl 2 l.length]⟩, ⟨3, .own 65, [C.i W, C.i H, .sl 0 n, .mp 1]⟩, ⟨2, .ro 0, l.map C.i⟩]) 12 (fun b => 3 - b) 0 (R0 := []) ?_ ?_ ?_
          · omega
          · skip
            refine ⟨?_, ?_, rfl, rfl, by exact Nat.le_of_ble_eq_true rfl⟩
            · repeat (first | exact trivial | (refine And.intro (covS_syn (by rfl) rfl (by first | exact trivial | exact Nat.le_of_ble_eq_true rfl | exact hy)) ?_))
            · repeat (first | exact trivial | (refine And.intro (covE_id (Nat.le_of_ble_eq_true rfl) (by first | exact wf_ints _ _ | simp [C.wf]) rfl (by rfl)) ?_))
          · intro b hb
            refine vc_ok tok ?_
            by_cases hb3 : b < 3
            · by_cases hs : (b = 1 ∧ a = 1) ∨ (e = false ∧ b ≠ 1 ∧ a ≠ 1)
              · have hst : fd (3 * a + (b + 1)) = fd (3 * a + b) := by rw [hfd]; exact foldC_none hb3 (cand_skip hs)
                rcases hs with ⟨hb1, ha1⟩ | ⟨he, hb1, ha1⟩
                · repeat ((conv => whnf); first | (refine And.intro (by first | omega | (dsimp only [inK]; omega)) ?_) | refine br_t (by omega) ?_ | refine bs_t (by omega) ?_ | refine fun (K' : K3) hK' => ?_ | (refine hK' _ _ _ ?_; clear hK' K'))
                  refine ⟨b + 1, [], by omega, by omega, ?_⟩
                  refine ⟨?_, ?_, rfl, rfl, by exact Nat.le_of_ble_eq_true rfl⟩
                  · repeat (first | exact trivial | (refine And.intro (covS_syn (by first | rfl | (refine congrArg some (congrArg V.i ?_); omega)) rfl (by first | exact trivial | exact Nat.le_of_ble_eq_true rfl | exact hy)) ?_))
                  · repeat (first | exact trivial | refine And.intro (covE_b1 (Nat.le_of_ble_eq_true rfl) rfl rfl hst.symm) ?_ | (refine And.intro (covE_id (Nat.le_of_ble_eq_true rfl) (by first | exact wf_ints _ _ | simp [C.wf]) rfl (by rfl)) ?_))
                · repeat ((conv => whnf); first | (refine And.intro (by first | omega | (dsimp only [inK]; omega)) ?_) | refine Exists.intro _ (And.intro rfl ?_) | refine br_t (by omega) ?_ | refine br_f (by omega) ?_ | refine fun (K' : K3) hK' => ?_ | (refine hK' _ _ _ ?_; clear hK' K') | refine br_bt (by simp [he]) ?_)
                  refine ⟨b + 1, [], by omega, by omega, ?_⟩
                  refine ⟨?_, ?_, rfl, rfl, by exact Nat.le_of_ble_eq_true rfl⟩
                  · repeat (first | exact trivial | (refine And.intro (covS_syn (by first | rfl | (refine congrArg some (congrArg V.i ?_); omega)) rfl (by first | exact trivial | exact Nat.le_of_ble_eq_true rfl | exact hy)) ?_))
                  · repeat (first | exact trivial | refine And.intro (covE_b1 (Nat.le_of_ble_eq_true rfl) rfl rfl hst.symm) ?_ | (refine And.intro (covE_id (Nat.le_of_ble_eq_true rfl) (by first | exact wf_ints _ _ | simp [C.wf]) rfl (by rfl)) ?_))
              · have hk : idxI W H (i % W + ((b : Int) - 1)) (i / W + ((a : Int) - 1)) ≤ 100 := by
                  by_cases hh : idxI W H (i % W + ((b : Int) - 1)) (i / W + ((a : Int) - 1)) ≥ 0
                  · have := (idxI_lt (by omega) hh).1; omega
                  · omega
                obtain ⟨kk, hkk⟩ : ∃ kk, kk = idxI W H (i % W + ((b : Int) - 1)) (i / W + ((a : Int) - 1)) := ⟨_, rfl⟩
                have hst0 : kk ≥ 0 → fd (3 * a + (b + 1)) = foundF t (fd (3 * a + b)) kk := fun h => by rw [hfd, hkk]; exact foldC_some hb3 (cand_in hs (by rw [← hkk]; exact h))
                have hst1 : ¬ kk ≥ 0 → fd (3 * a + (b + 1)) = fd (3 * a + b) := fun h => by rw [hfd]; exact foldC_none hb3 (cand_out (by rw [← hkk]; exact h))
                obtain ⟨fb, hfb⟩ : ∃ fb, fb = fd (3 * a + b) := ⟨_, rfl⟩
                obtain ⟨fb', hfb'⟩ : ∃ fb', fb' = fd (3 * a + (b + 1)) := ⟨_, rfl⟩
                rw [← hfb, ← hfb'] at hst0 hst1
                rw [← hfb]
                have hcase : (b = 1 ∧ a ≠ 1) ∨ (b ≠ 1 ∧ (e = true ∨ a = 1)) := by
                  by_cases q : b = 1
                  · exact .inl ⟨q, fun q2 => hs (.inl ⟨q, q2⟩)⟩
                  · refine .inr ⟨q, ?_⟩
                    cases e with
                    | true => exact .inl rfl
                    | false => exact .inr (Classical.byContradiction fun q3 => hs (.inr ⟨rfl, q, q3⟩))
                have hix := index_spec W H n (i % W + ((b : Int) - 1)) (i / W + ((a : Int) - 1)) (by omega) (by omega)
                rw [← hkk] at hix
                rw [← hkk] at hk
                clear hs hm1 hi ht hf h2 hLi hfd hkk
                by_cases hin2 : kk ≥ 0
                · have hst := hst0 hin2
                  cases fb
                  · cases e <;> rcases hcase with ⟨q1, q2⟩ | ⟨q1, q2 | q2⟩ <;> (try cases q2)
                    all_goals
                      repeat ((conv => whnf); first | (refine And.intro (by first | omega | exact Nat.le_of_ble_eq_true rfl | (dsimp only [inK]; omega)) ?_) | refine Exists.intro _ (And.intro rfl ?_) | refine br_t (by omega) ?_ | refine br_f (by omega) ?_ | refine bs_f (by omega) ?_ | refine fun (K' : K3) hK' => ?_ | (refine hK' _ _ _ ?_; clear hK' K') | refine CallK.val (R := []) hix (by kernel_rfl) rfl (by simp [V.wf, A.wf, C.wf]) trivial rfl rfl trivial ?_ | refine br_bt (Eq.refl true) ?_ | refine br_bf (Eq.refl false) ?_ | refine CallK.m ?_)
                      refine hY _ _ _ _ (Nat.le_of_ble_eq_true rfl) rfl ⟨rfl, trivial⟩ ?_
                      intro cxb hcx
                      refine vc_ok tok ?_
                      repeat ((conv => whnf); first | refine fun (K' : K3) hK' => ?_ | (refine hK' _ _ _ ?_; clear hK' K') | refine And.intro (Eq.refl oo) ?_)
                      refine vc_ok tok ?_
                      repeat ((conv => whnf); first | (refine And.intro (by first | omega | exact Nat.le_of_ble_eq_true rfl | (dsimp only [inK]; omega)) ?_) | with_reducible refine ld (hLt) ?_ | refine Exists.intro _ (And.intro rfl ?_) | refine fun (K' : K3) hK' => ?_ | (refine hK' _ _ _ ?_; clear hK' K') | refine And.intro (Eq.refl ob) ?_ | refine bs_bf (Eq.refl false) ?_)
                      refine ⟨b + 1, [], by omega, by omega, ?_⟩
                      refine ⟨?_, ?_, rfl, rfl, by exact Nat.le_of_ble_eq_true rfl⟩
                      · repeat (first | exact trivial | (refine And.intro (covS_syn (by first | rfl | (refine congrArg some (congrArg V.i ?_); omega)) rfl (by first | exact trivial | exact Nat.le_of_ble_eq_true rfl | exact hy)) ?_))
                      · repeat (first | exact trivial | (refine And.intro (covE_b1 (Nat.le_of_ble_eq_true rfl) rfl rfl ((show decide (kk = t) = fb' by rw [hst]; simp [foundF]).trans hfb')) ?_) | (refine And.intro (covE_id (Nat.le_of_ble_eq_true rfl) (by first | exact wf_ints _ _ | simp [C.wf]) rfl (by rfl)) ?_))
                  · cases e <;> rcases hcase with ⟨q1, q2⟩ | ⟨q1, q2 | q2⟩ <;> (try cases q2)
                    all_goals
                      repeat ((conv => whnf); first | (refine And.intro (by first | omega | exact Nat.le_of_ble_eq_true rfl | (dsimp only [inK]; omega)) ?_) | refine Exists.intro _ (And.intro rfl ?_) | refine br_t (by omega) ?_ | refine br_f (by omega) ?_ | refine bs_f (by omega) ?_ | refine fun (K' : K3) hK' => ?_ | (refine hK' _ _ _ ?_; clear hK' K') | refine CallK.val (R := []) hix (by kernel_rfl) rfl (by simp [V.wf, A.wf, C.wf]) trivial rfl rfl trivial ?_ | refine br_bt (Eq.refl true) ?_ | refine br_bf (Eq.refl false) ?_ | refine CallK.m ?_)
                      refine hY _ _ _ _ (Nat.le_of_ble_eq_true rfl) rfl ⟨rfl, trivial⟩ ?_
                      intro cxb hcx
                      refine vc_ok tok ?_
                      repeat ((conv => whnf); first | refine fun (K' : K3) hK' => ?_ | (refine hK' _ _ _ ?_; clear hK' K') | refine And.intro (Eq.refl oo) ?_)
                      refine vc_ok tok ?_
                      repeat ((conv => whnf); first | (refine And.intro (by first | omega | exact Nat.le_of_ble_eq_true rfl | (dsimp only [inK]; omega)) ?_) | refine Exists.intro _ (And.intro rfl ?_) | refine fun (K' : K3) hK' => ?_ | (refine hK' _ _ _ ?_; clear hK' K') | refine And.intro (Eq.refl ob) ?_ | refine bs_bt (Eq.refl true) ?_)
                      refine ⟨b + 1, [], by omega, by omega, ?_⟩
                      refine ⟨?_, ?_, rfl, rfl, by exact Nat.le_of_ble_eq_true rfl⟩
                      · repeat (first | exact trivial | (refine And.intro (covS_syn (by first | rfl | (refine congrArg some (congrArg V.i ?_); omega)) rfl (by first | exact trivial | exact Nat.le_of_ble_eq_true rfl | exact hy)) ?_))
                      · repeat (first | exact trivial | (refine And.intro (covE_b1 (Nat.le_of_ble_eq_true rfl) rfl rfl ((show true = fb' by rw [hst]; simp [foundF]).trans hfb')) ?_) | (refine And.intro (covE_id (Nat.le_of_ble_eq_true rfl) (by first | exact wf_ints _ _ | simp [C.wf]) rfl (by rfl)) ?_))
                · have hst := (hst1 hin2).symm.trans hfb'
                  cases e <;> rcases hcase with ⟨q1, q2⟩ | ⟨q1, q2 | q2⟩ <;> (try cases q2)
                  all_goals
                    repeat ((conv => whnf); first | (refine And.intro (by first | omega | exact Nat.le_of_ble_eq_true rfl | (dsimp only [inK]; omega)) ?_) | refine Exists.intro _ (And.intro rfl ?_) | refine br_t (by omega) ?_ | refine br_f (by omega) ?_ | refine bs_f (by omega) ?_ | refine fun (K' : K3) hK' => ?_ | (refine hK' _ _ _ ?_; clear hK' K') | refine CallK.val (R := []) hix (by kernel_rfl) rfl (by simp [V.wf, A.wf, C.wf]) trivial rfl rfl trivial ?_ | refine br_bt (Eq.refl true) ?_ | refine br_bf (Eq.refl false) ?_ | refine CallK.m ?_)
                    refine ⟨b + 1, [], by omega, by omega, ?_⟩
                    refine ⟨?_, ?_, rfl, rfl, by exact Nat.le_of_ble_eq_true rfl⟩
                    · repeat (first | exact trivial | (refine And.intro (covS_syn (by first | rfl | (refine congrArg some (congrArg V.i ?_); omega)) rfl (by first | exact trivial | exact Nat.le_of_ble_eq_true rfl | exact hy)) ?_))
                    · repeat (first | exact trivial | refine And.intro (covE_b1 (Nat.le_of_ble_eq_true rfl) rfl rfl hst) ?_ | (refine And.intro (covE_id (Nat.le_of_ble_eq_true rfl) (by first | exact wf_ints _ _ | simp [C.wf]) rfl (by rfl)) ?_))
            · have hb3' : b = 3 := by omega
              subst hb3'
              repeat ((conv => whnf); first | (refine And.intro (by first | omega | (dsimp only [inK]; omega)) ?_) | refine br_f (by omega) ?_ | refine fun (K' : K3) hK' => ?_ | (refine hK' _ _ _ ?_; clear hK' K'))
              refine ⟨a + 1, [], by omega, by omega, ?_⟩
              refine ⟨?_, ?_, rfl, rfl, by exact Nat.le_of_ble_eq_true rfl⟩
              · repeat (first | exact trivial | (refine And.intro (covS_syn (by first | rfl | (refine congrArg some (congrArg V.i ?_); omega)) rfl (by first | exact trivial | exact Nat.le_of_ble_eq_true rfl | exact hy)) ?_))
              · repeat (first | exact trivial | refine And.intro (covE_b1 (Nat.le_of_ble_eq_true rfl) rfl rfl (congrArg fd (show 3 * a + 3 = 3 * (a + 1) by omega))) ?_ | (refine And.intro (covE_id (Nat.le_of_ble_eq_true rfl) (by first | exact wf_ints _ _ | simp [C.wf]) rfl (by rfl)) ?_))
        · have ha3' : a = 3 := by omega
          subst ha3'
          have hend : fd 9 = (nearL W H e i).contains t := by rw [hfd, foldC_near, foundF_eq]; simp
          have hfs := follB_succ W H e l m
          rw [hf, Bool.true_and, ← hi, ← ht, ← hend] at hfs
          cases hfe : fd 9 with
          | true =>
            repeat ((conv => whnf); first | (refine And.intro (by first | omega | exact Nat.le_of_ble_eq_true rfl | (dsimp only [inK]; omega)) ?_) | refine Exists.intro _ (And.intro rfl ?_) | refine br_f (by omega) ?_ | refine fun (K' : K3) hK' => ?_ | (refine hK' _ _ _ ?_; clear hK' K') | refine Or.inl ?_ | refine And.intro (Eq.refl oo) ?_)
            refine ⟨m + 1 + 1, [(5, some 12)], ⟨by omega, .inl (by omega), by rw [hfs, hfe]⟩, by omega, ?_⟩
            refine ⟨?_, ?_, rfl, rfl, by exact Nat.le_of_ble_eq_true rfl⟩
            · repeat (first | exact trivial | (refine And.intro (covS_syn (by rfl) rfl (by first | exact trivial | exact Nat.le_of_ble_eq_true rfl)) ?_))
            · repeat (first | exact trivial | refine And.intro (covE_i1 rfl (Nat.le_of_ble_eq_true rfl) rfl (by omega)) ?_ | (refine And.intro (covE_some rfl (Nat.le_of_ble_eq_true rfl) (by first | exact wf_ints _ _ | simp [C.wf]) rfl (by first | exact ren_ints _ _ | rfl)) ?_))
          | false =>
            repeat ((conv => whnf); first | refine Exists.intro _ (And.intro rfl ?_) | refine br_f (by omega) ?_ | refine fun (K' : K3) hK' => ?_ | (refine hK' _ _ _ ?_; clear hK' K') | refine Or.inl ?_ | refine And.intro (Eq.refl oo) ?_ | refine br_bt (Eq.refl true) ?_)
            intro ρ
            have hno : follB W H e l l.length = false := follB_false W H e l (m + 1 + 1) (by omega) (by rw [hfs, hfe])
            rw [hno]; rfl
    · have hk : follB W H e l l.length = true := by
        rcases h2 with h2 | h2
        · have : k = l.length := by omega
          rw [← this]; exact hf
        · have : l.length = 0 ∨ l.length = 1 := by omega
          rcases this with h | h <;> rw [h] <;> rfl
      repeat ((conv => whnf); first | refine Exists.intro _ (And.intro rfl ?_) | refine br_f (by omega) ?_ | refine fun (K' : K3) hK' => ?_ | (refine hK' _ _ _ ?_; clear hK' K'))
      intro ρ; rw [hk]; rfl
end Go.Proofs.Ytbhpnhcdjmcaoaa

/- Boom, the reference: the best ways down to the last row. -/
namespace Go.Proofs.Ytbhpnhcdjmcaoaa
open Go.RowKit
set_option linter.unusedVariables false
set_option linter.unusedSimpArgs false
theorem CallK.intsR {P : Program} {n0 nx nac : Nat} {f : FuncId} {vs vs' : List V} {Lc L : List E} {R : Rn} {K : V → List E → Nat → Prop} {l : List Int} (spec : Spec P f vs Lc nac (fun v L' _ => intsR l v L')) (hok : callB P f = true)
    (hv : renVs R vs = some vs') (hvw : ∀ v ∈ vs, v.wf nac) (hL : roL R nac L Lc) (hLc : injB [] Lc = true)
    (hK : K (V.c (.sl nx l.length)) [⟨nx, .vec 3 1, l.map C.i⟩] (nx + 1)) : CallK P n0 f vs' L nx K := by
  refine CallK.mk' hok spec hv hvw hL hLc ?_
  rintro v L' nx' hw ⟨lab, rfl, hf⟩
  refine ⟨V.c (.sl nx l.length), [⟨nx, .vec 3 1, l.map C.i⟩], nx + 1, [(nx, some lab)], ⟨Nat.le_succ _, ?_, ?_, ⟨covE_some (renL_one _ _) (Nat.lt_succ_self nx) (wf_ints _ _) hf (ren_ints _ _), trivial⟩, rfl, ?_⟩, hK⟩
  · simp only [V.ren, A.ren, C.ren, renL_one]
  · simp only [V.chk, A.chk, C.chk]; exact inLab_one nx
  · simp only [List.all_cons, List.all_nil, Bool.and_true, inLab_one, Kd.isRo, Bool.not_false, Bool.true_and]
    exact chk_ints _ _
end Go.Proofs.Ytbhpnhcdjmcaoaa

/- Boom, the reference: ways. -/
namespace Go.Proofs.Ytbhpnhcdjmcaoaa
open Go.RowKit
set_option linter.unusedVariables false
set_option linter.unusedSimpArgs false
@[reducible] def cz : Cell := (0, 0)
/-- Cell i of a list is right: on the chart, beside the one in front of it, and no other one. -/
def stepB (W H : Int) (e : Bool) (p q : Cell) : Bool := fourB p.1 p.2 q.1 q.2 || (e && eightB p.1 p.2 q.1 q.2)
def wayOk (W H : Int) (l : List Cell) (e : Bool) (i : Nat) : Bool := onB W H (l.getD i cz).1 (l.getD i cz).2 && ((decide (i = 0) || stepB W H e (l.getD i cz) (l.getD (i - 1) cz)) && !((l.take i).any fun q => decide (l.getD i cz = q)))
def isWayK (W H : Int) (l : List Cell) (e : Bool) (k : Nat) : Bool := (List.range k).all (wayOk W H l e)
def isWayB (W H : Int) (l : List Cell) (e : Bool) : Bool := isWayK W H l e l.length && (decide ((l.length : Int) ≥ 1) && decide ((l.length : Int) ≤ 100))
theorem isWayK_succ (W H : Int) (l : List Cell) (e : Bool) (k : Nat) : isWayK W H l e (k + 1) = (isWayK W H l e k && wayOk W H l e k) := by simp [isWayK, List.range_succ, List.all_append]
theorem isWayK_get {W H : Int} {l : List Cell} {e : Bool} {k j : Nat} (h : isWayK W H l e k = true) (hj : j < k) : wayOk W H l e j = true := List.all_eq_true.1 h j (by simpa using hj)
theorem isWayB_false {W H : Int} {l : List Cell} {e : Bool} {k : Nat} (hk : k < l.length) (h : wayOk W H l e k = false) : isWayB W H l e = false := by
  have : isWayK W H l e l.length = false := by
    unfold isWayK; rw [List.all_eq_false]; exact ⟨k, by simpa using hk, by simp [h]⟩
  unfold isWayB; rw [this]; rfl
theorem wayOk_on {W H : Int} {l : List Cell} {e : Bool} {k : Nat} (h : wayOk W H l e k = true) : onB W H (l.getD k cz).1 (l.getD k cz).2 = true := by
  unfold wayOk at h; simp only [Bool.and_eq_true] at h; exact h.1
theorem any_take {l : List Cell} {p : Cell} {j i : Nat} (hj : j < i) (hi : i ≤ l.length) (h : p = l.getD j cz) : ((l.take i).any fun q => decide (p = q)) = true := by
  rw [List.any_eq_true]
  refine ⟨l.getD j cz, ?_, by simp [h]⟩
  rw [List.getD_eq_getElem?_getD, List.getElem?_eq_getElem (by omega)]
  exact List.mem_take_iff_getElem.2 ⟨j, by omega, rfl⟩
theorem any_none {l : List Cell} {p : Cell} {i : Nat} (hi : i ≤ l.length) (h : ∀ j, j < i → ¬ p = l.getD j cz) : ((l.take i).any fun q => decide (p = q)) = false := by
  rw [List.any_eq_false]
  intro q hq
  obtain ⟨j, hj, rfl⟩ := List.mem_take_iff_getElem.1 hq
  have := h j (by omega)
  rw [List.getD_eq_getElem?_getD, List.getElem?_eq_getElem (by omega)] at this
  simpa using this
set_option maxRecDepth 10000 in
set_option maxHeartbeats 8000000 in
theorem isWay_spec (W H : Int) (n : Nat) (l : List Cell) (e : Bool) (hW : 0 < W ∧ W ≤ 10) (hH : 0 < H ∧ H ≤ 10) (hl : l.length ≤ 300) :
    Spec Try.prog 86 [chR W H n, V.c (.sl 1 l.length), V.c (.bool e)] [⟨1, .ro 2, cellC l⟩] 2 (Is (V.c (.bool (isWayB W H l e)))) := by
  have hcl := cellC_len l
  refine Spec.of tok Try.func86 rfl rfl rfl fun n0 cx => vc_ok tok ?_
  repeat ((conv => whnf); first | refine fun (K' : K3) hK' => ?_ | (refine hK' _ _ _ ?_; clear hK' K'))
  refine Tri.loop (γ := Nat) (fun k => k ≤ l.length ∧ isWayK W H l e k = true) (fun k => [(1, V.c (.sl 1 l.length)), (2, V.c (.bool e)), (3, V.c (.ptr 2 0)), (11, V.c (.sl 1 l.length)), (12, V.i l.length), (13, V.i (k : Nat))])
    (fun k => [⟨2, .own 24, [C.i W, C.i H, .sl 0 n]⟩, ⟨1, .ro 2, cellC l⟩]) 3 (fun k => l.length - k) 0 (R0 := []) ?_ ?_ ?_
  · exact ⟨by omega, rfl⟩
  · skip
    refine ⟨?_, ?_, rfl, rfl, by exact Nat.le_of_ble_eq_true rfl⟩
    · repeat (first | exact trivial | (refine And.intro (covS_syn (by rfl) rfl (by first | exact trivial | exact Nat.le_of_ble_eq_true rfl)) ?_))
    · repeat (first | exact trivial | (refine And.intro (covE_id (Nat.le_of_ble_eq_true rfl) (by first | first | exact wf_cells _ _ | simp [C.wf]) rfl (by rfl)) ?_))
  · rintro k ⟨hk, hok⟩
    refine vc_ok tok ?_
    by_cases hlt : k < l.length
    · have hld := cellT (l := l) (k := k) rfl hlt
      have hno := fun h => isWayB_false (W := W) (H := H) (e := e) hlt h
      have hon := on_spec W H n (l.getD k cz).1 (l.getD k cz).2
      have hwk : wayOk W H l e k = (onB W H (l.getD k cz).1 (l.getD k cz).2 && ((decide (k = 0) || stepB W H e (l.getD k cz) (l.getD (k - 1) cz)) && !((l.take k).any fun q => decide (l.getD k cz = q)))) := rfl
      have hneq : ∀ j, j < k → l.getD k cz = l.getD j cz → ((l.take k).any fun q => decide (l.getD k cz = q)) = true := fun j hj h => any_take hj (by omega) h
      have hall : (∀ j, j < k → ¬ l.getD k cz = l.getD j cz) → ((l.take k).any fun q => decide (l.getD k cz = q)) = false := fun h => any_none (by omega) h
      obtain ⟨p, hp⟩ : ∃ p, p = l.getD k cz := ⟨_, rfl⟩
      rw [← hp] at hld hon hwk hneq hall
      -- behind the test of the cell itself
      have fin : (decide (k = 0) || stepB W H e p (l.getD (k - 1) cz)) = true → onB W H p.1 p.2 = true → wayOk W H l e k = !((l.take k).any fun q => decide (p = q)) := fun h1 h2 => by rw [hwk, h1, h2]; simp
      cases hob : onB W H p.1 p.2 with
      | false =>
        have hr := hno (by rw [hwk, hob]; rfl)
        repeat ((conv => whnf); first | (refine And.intro (by first | omega | exact Nat.le_of_ble_eq_true rfl | (dsimp only [inK]; omega)) ?_) | with_reducible refine ld (hld) ?_ | refine Exists.intro _ (And.intro rfl ?_) | refine br_t (by omega) ?_ | refine fun (K' : K3) hK' => ?_ | (refine hK' _ _ _ ?_; clear hK' K') | refine draw_auto tok mixed (by kernel_rfl) ?_ | refine HD_mk (fun _ h => CallK.val (R := []) hon (by kernel_rfl) rfl (by simp [V.wf, A.wf, C.wf]) trivial rfl rfl trivial h) ?_ | refine bs_bt (congrArg Bool.not hob) ?_)
        intro ρ; rw [hr]; rfl
      | true =>
        have hpo := onB_t hob
        by_cases hk0 : (k : Int) > 0
        · have hq0 := onB_t (wayOk_on (isWayK_get hok (show k - 1 < k by omega)))
          have hfo := four_spec p.1 p.2 (l.getD (k - 1) cz).1 (l.getD (k - 1) cz).2 (by omega) (by omega) (by omega) (by omega)
          have hei := eight_spec p.1 p.2 (l.getD (k - 1) cz).1 (l.getD (k - 1) cz).2 (by omega) (by omega) (by omega) (by omega)
          have hldq := cellT (l := l) (k := k - 1) (z := (k : Int) - 1) (by omega) (by omega)
          obtain ⟨q0, hq0e⟩ : ∃ q0, q0 = l.getD (k - 1) cz := ⟨_, rfl⟩
          rw [← hq0e] at hfo hei hldq fin hwk
          have hsb : stepB W H e p q0 = (fourB p.1 p.2 q0.1 q0.2 || (e && eightB p.1 p.2 q0.1 q0.2)) := rfl
          have hkz : decide (k = 0) = false := dd_f (by omega)
          cases h4 : fourB p.1 p.2 q0.1 q0.2 with
          | true =>
            repeat ((conv => whnf); first | (refine And.intro (by first | omega | exact Nat.le_of_ble_eq_true rfl | (dsimp only [inK]; omega)) ?_) | with_reducible refine ld (hld) ?_ | with_reducible refine ld (hldq) ?_ | refine Exists.intro _ (And.intro rfl ?_) | refine br_t (by omega) ?_ | refine fun (K' : K3) hK' => ?_ | (refine hK' _ _ _ ?_; clear hK' K') | refine draw_auto tok mixed (by kernel_rfl) ?_ | refine HD_mk (fun _ h => CallK.val (R := []) hon (by kernel_rfl) rfl (by simp [V.wf, A.wf, C.wf]) trivial rfl rfl trivial h) ?_ | refine bs_bf (congrArg Bool.not hob) ?_ | refine HD_mk (fun _ h => CallK.val (R := []) hfo (by kernel_rfl) rfl (by simp [V.wf, A.wf, C.wf]) trivial rfl rfl trivial h) ?_ | refine br_bf (congrArg Bool.not h4) ?_ | refine Two.l ?_)
            refine Tri.loop (γ := Nat) (fun j => j ≤ k ∧ ∀ i, i < j → ¬ p = l.getD i cz) (fun j => [(1, V.c (.sl 1 l.length)), (2, V.c (.bool e)), (3, V.c (.ptr 2 0)), (8, V.c (.ptr 3 0)), (11, V.c (.sl 1 l.length)), (12, V.i l.length), (13, V.i (k : Nat)), (51, V.c (.sl 1 k)), (52, V.i k), (53, V.i (j : Nat))])
              (fun j => [⟨3, .own 57, [C.i p.1, C.i p.2]⟩, ⟨2, .own 24, [C.i W, C.i H, .sl 0 n]⟩, ⟨1, .ro 2, cellC l⟩]) 4 (fun j => k - j) 0 (R0 := []) ?_ ?_ ?_
            · exact ⟨by omega, by omega⟩
            · skip
              refine ⟨?_, ?_, rfl, rfl, by exact Nat.le_of_ble_eq_true rfl⟩
              · repeat (first | exact trivial | (refine And.intro (covS_syn (by rfl) rfl (by first | exact trivial | exact Nat.le_of_ble_eq_true rfl)) ?_))
              · repeat (first | exact trivial | (refine And.intro (covE_id (Nat.le_of_ble_eq_true rfl) (by first | first | exact wf_cells _ _ | simp [C.wf]) rfl (by rfl)) ?_))
            · rintro j ⟨hj, hjn⟩
              refine vc_ok tok ?_
              by_cases hjk : j < k
              · have hld2 := cellT (l := l) (k := j) rfl (by omega)
                have hnj := hneq j hjk
                obtain ⟨q, hq⟩ : ∃ q, q = l.getD j cz := ⟨_, rfl⟩
                rw [← hq] at hld2 hnj
                cases heq : (decide (p.1 = q.1) && (decide (p.2 = q.2) && true)) with
                | true =>
                  have hpq : p = q := by simp at heq; exact Prod.ext heq.1 heq.2
                  have hr := hno (by rw [fin (by rw [hsb, h4]; simp) hob, hnj hpq]; rfl)
                  repeat ((conv => whnf); first | (refine And.intro (by first | omega | exact Nat.le_of_ble_eq_true rfl | (dsimp only [inK]; omega)) ?_) | with_reducible refine ld (hld2) ?_ | refine Exists.intro _ (And.intro rfl ?_) | refine br_t (by omega) ?_ | refine fun (K' : K3) hK' => ?_ | (refine hK' _ _ _ ?_; clear hK' K') | refine br_bt heq ?_)
                  intro ρ; rw [hr]; rfl
                | false =>
                  have hpq : ¬ p = q := fun e => by rw [e] at heq; simp at heq
                  repeat ((conv => whnf); first | (refine And.intro (by first | omega | exact Nat.le_of_ble_eq_true rfl | (dsimp only [inK]; omega)) ?_) | with_reducible refine ld (hld2) ?_ | refine Exists.intro _ (And.intro rfl ?_) | refine br_t (by omega) ?_ | refine fun (K' : K3) hK' => ?_ | (refine hK' _ _ _ ?_; clear hK' K') | refine br_bf heq ?_)
                  refine ⟨j + 1, [], ⟨by omega, fun i hi => ?_⟩, by omega, ?_⟩
                  · by_cases hij : i = j
                    · rw [hij, ← hq]; exact hpq
                    · exact hjn i (by omega)
                  · skip
                    refine ⟨?_, ?_, rfl, rfl, by exact Nat.le_of_ble_eq_true rfl⟩
                    · repeat (first | exact trivial | (refine And.intro (covS_syn (by rfl) rfl (by first | exact trivial | exact Nat.le_of_ble_eq_true rfl)) ?_))
                    · repeat (first | exact trivial | (refine And.intro (covE_id (Nat.le_of_ble_eq_true rfl) (by first | first | exact wf_cells _ _ | simp [C.wf]) rfl (by rfl)) ?_))
              · have hje : j = k := by omega
                subst hje
                have hgo : isWayK W H l e (j + 1) = true := by rw [isWayK_succ, hok, fin (by rw [hsb, h4]; simp) hob, hall hjn]; rfl
                repeat ((conv => whnf); first | (refine And.intro (by first | omega | (dsimp only [inK]; omega)) ?_) | refine br_f (by omega) ?_ | refine fun (K' : K3) hK' => ?_ | (refine hK' _ _ _ ?_; clear hK' K'))
                refine ⟨j + 1, [], ⟨by omega, hgo⟩, by omega, ?_⟩
                refine ⟨?_, ?_, rfl, rfl, by exact Nat.le_of_ble_eq_true rfl⟩
                · repeat (first | exact trivial | (refine And.intro (covS_syn (by rfl) rfl (by first | exact trivial | exact Nat.le_of_ble_eq_true rfl)) ?_))
                · repeat (first | exact trivial | (refine And.intro (covE_id (Nat.le_of_ble_eq_true rfl) (by first | first | exact wf_cells _ _ | simp [C.wf]) rfl (by rfl)) ?_))
          | false =>
            cases e with
            | false =>
              have hr := hno (by rw [hwk, hob, hsb, h4, hkz]; rfl)
              repeat ((conv => whnf); first | (refine And.intro (by first | omega | exact Nat.le_of_ble_eq_true rfl | (dsimp only [inK]; omega)) ?_) | with_reducible refine ld (hld) ?_ | with_reducible refine ld (hldq) ?_ | refine Exists.intro _ (And.intro rfl ?_) | refine br_t (by omega) ?_ | refine fun (K' : K3) hK' => ?_ | (refine hK' _ _ _ ?_; clear hK' K') | refine draw_auto tok mixed (by kernel_rfl) ?_ | refine HD_mk (fun _ h => CallK.val (R := []) hon (by kernel_rfl) rfl (by simp [V.wf, A.wf, C.wf]) trivial rfl rfl trivial h) ?_ | refine bs_bf (congrArg Bool.not hob) ?_ | refine HD_mk (fun _ h => CallK.val (R := []) hfo (by kernel_rfl) rfl (by simp [V.wf, A.wf, C.wf]) trivial rfl rfl trivial h) ?_ | refine br_bt (congrArg Bool.not h4) ?_ | refine br_bf (Eq.refl false) ?_)
              intro ρ; rw [hr]; rfl
            | true =>
              cases h8 : eightB p.1 p.2 q0.1 q0.2 with
              | false =>
                have hr := hno (by rw [hwk, hob, hsb, h4, h8, hkz]; rfl)
                repeat ((conv => whnf); first | (refine And.intro (by first | omega | exact Nat.le_of_ble_eq_true rfl | (dsimp only [inK]; omega)) ?_) | with_reducible refine ld (hld) ?_ | with_reducible refine ld (hldq) ?_ | refine Exists.intro _ (And.intro rfl ?_) | refine br_t (by omega) ?_ | refine fun (K' : K3) hK' => ?_ | (refine hK' _ _ _ ?_; clear hK' K') | refine draw_auto tok mixed (by kernel_rfl) ?_ | refine HD_mk (fun _ h => CallK.val (R := []) hon (by kernel_rfl) rfl (by simp [V.wf, A.wf, C.wf]) trivial rfl rfl trivial h) ?_ | refine bs_bf (congrArg Bool.not hob) ?_ | refine HD_mk (fun _ h => CallK.val (R := []) hfo (by kernel_rfl) rfl (by simp [V.wf, A.wf, C.wf]) trivial rfl rfl trivial h) ?_ | refine br_bt (congrArg Bool.not h4) ?_ | refine HD_mk (fun _ h => CallK.val (R := []) hei (by kernel_rfl) rfl (by simp [V.wf, A.wf, C.wf]) trivial rfl rfl trivial h) ?_ | refine br_bt (congrArg Bool.not h8) ?_ | refine br_bt (Eq.refl true) ?_)
                intro ρ; rw [hr]; rfl
              | true =>
                repeat ((conv => whnf); first | (refine And.intro (by first | omega | exact Nat.le_of_ble_eq_true rfl | (dsimp only [inK]; omega)) ?_) | with_reducible refine ld (hld) ?_ | with_reducible refine ld (hldq) ?_ | refine Exists.intro _ (And.intro rfl ?_) | refine br_t (by omega) ?_ | refine fun (K' : K3) hK' => ?_ | (refine hK' _ _ _ ?_; clear hK' K') | refine draw_auto tok mixed (by kernel_rfl) ?_ | refine HD_mk (fun _ h => CallK.val (R := []) hon (by kernel_rfl) rfl (by simp [V.wf, A.wf, C.wf]) trivial rfl rfl trivial h) ?_ | refine bs_bf (congrArg Bool.not hob) ?_ | refine HD_mk (fun _ h => CallK.val (R := []) hfo (by kernel_rfl) rfl (by simp [V.wf, A.wf, C.wf]) trivial rfl rfl trivial h) ?_ | refine br_bt (congrArg Bool.not h4) ?_ | refine HD_mk (fun _ h => CallK.val (R := []) hei (by kernel_rfl) rfl (by simp [V.wf, A.wf, C.wf]) trivial rfl rfl trivial h) ?_ | refine br_bf (congrArg Bool.not h8) ?_ | refine br_bt (Eq.refl true) ?_ | refine Two.l ?_)
                refine Tri.loop (γ := Nat) (fun j => j ≤ k ∧ ∀ i, i < j → ¬ p = l.getD i cz) (fun j => [(1, V.c (.sl 1 l.length)), (2, V.c (.bool true)), (3, V.c (.ptr 2 0)), (8, V.c (.ptr 3 0)), (11, V.c (.sl 1 l.length)), (12, V.i l.length), (13, V.i (k : Nat)), (51, V.c (.sl 1 k)), (52, V.i k), (53, V.i (j : Nat))])
                  (fun j => [⟨3, .own 57, [C.i p.1, C.i p.2]⟩, ⟨2, .own 24, [C.i W, C.i H, .sl 0 n]⟩, ⟨1, .ro 2, cellC l⟩]) 4 (fun j => k - j) 0 (R0 := []) ?_ ?_ ?_
                · exact ⟨by omega, by omega⟩
                · skip
                  refine ⟨?_, ?_, rfl, rfl, by exact Nat.le_of_ble_eq_true rfl⟩
                  · repeat (first | exact trivial | (refine And.intro (covS_syn (by rfl) rfl (by first | exact trivial | exact Nat.le_of_ble_eq_true rfl)) ?_))
                  · repeat (first | exact trivial | (refine And.intro (covE_id (Nat.le_of_ble_eq_true rfl) (by first | first | exact wf_cells _ _ | simp [C.wf]) rfl (by rfl)) ?_))
                · rintro j ⟨hj, hjn⟩
                  refine vc_ok tok ?_
                  by_cases hjk : j < k
                  · have hld2 := cellT (l := l) (k := j) rfl (by omega)
                    have hnj := hneq j hjk
                    obtain ⟨q, hq⟩ : ∃ q, q = l.getD j cz := ⟨_, rfl⟩
                    rw [← hq] at hld2 hnj
                    cases heq : (decide (p.1 = q.1) && (decide (p.2 = q.2) && true)) with
                    | true =>
                      have hpq : p = q := by simp at heq; exact Prod.ext heq.1 heq.2
                      have hr := hno (by rw [fin (by rw [hsb, h4, h8]; simp) hob, hnj hpq]; rfl)
                      repeat ((conv => whnf); first | (refine And.intro (by first | omega | exact Nat.le_of_ble_eq_true rfl | (dsimp only [inK]; omega)) ?_) | with_reducible refine ld (hld2) ?_ | refine Exists.intro _ (And.intro rfl ?_) | refine br_t (by omega) ?_ | refine fun (K' : K3) hK' => ?_ | (refine hK' _ _ _ ?_; clear hK' K') | refine br_bt heq ?_)
                      intro ρ; rw [hr]; rfl
                    | false =>
                      have hpq : ¬ p = q := fun e => by rw [e] at heq; simp at heq
                      repeat ((conv => whnf); first | (refine And.intro (by first | omega | exact Nat.le_of_ble_eq_true rfl | (dsimp only [inK]; omega)) ?_) | with_reducible refine ld (hld2) ?_ | refine Exists.intro _ (And.intro rfl ?_) | refine br_t (by omega) ?_ | refine fun (K' : K3) hK' => ?_ | (refine hK' _ _ _ ?_; clear hK' K') | refine br_bf heq ?_)
                      refine ⟨j + 1, [], ⟨by omega, fun i hi => ?_⟩, by omega, ?_⟩
                      · by_cases hij : i = j
                        · rw [hij, ← hq]; exact hpq
                        · exact hjn i (by omega)
                      · skip
                        refine ⟨?_, ?_, rfl, rfl, by exact Nat.le_of_ble_eq_true rfl⟩
                        · repeat (first | exact trivial | (refine And.intro (covS_syn (by rfl) rfl (by first | exact trivial | exact Nat.le_of_ble_eq_true rfl)) ?_))
                        · repeat (first | exact trivial | (refine And.intro (covE_id (Nat.le_of_ble_eq_true rfl) (by first | first | exact wf_cells _ _ | simp [C.wf]) rfl (by rfl)) ?_))
                  · have hje : j = k := by omega
                    subst hje
                    have hgo : isWayK W H l true (j + 1) = true := by rw [isWayK_succ, hok, fin (by rw [hsb, h4, h8]; simp) hob, hall hjn]; rfl
                    repeat ((conv => whnf); first | (refine And.intro (by first | omega | (dsimp only [inK]; omega)) ?_) | refine br_f (by omega) ?_ | refine fun (K' : K3) hK' => ?_ | (refine hK' _ _ _ ?_; clear hK' K'))
                    refine ⟨j + 1, [], ⟨by omega, hgo⟩, by omega, ?_⟩
                    refine ⟨?_, ?_, rfl, rfl, by exact Nat.le_of_ble_eq_true rfl⟩
                    · repeat (first | exact trivial | (refine And.intro (covS_syn (by rfl) rfl (by first | exact trivial | exact Nat.le_of_ble_eq_true rfl)) ?_))
                    · repeat (first | exact trivial | (refine And.intro (covE_id (Nat.le_of_ble_eq_true rfl) (by first | first | exact wf_cells _ _ | simp [C.wf]) rfl (by rfl)) ?_))
        · have hk0' : k = 0 := by omega
          repeat ((conv => whnf); first | (refine And.intro (by first | omega | exact Nat.le_of_ble_eq_true rfl | (dsimp only [inK]; omega)) ?_) | with_reducible refine ld (hld) ?_ | refine Exists.intro _ (And.intro rfl ?_) | refine br_t (by omega) ?_ | refine br_f (by omega) ?_ | refine fun (K' : K3) hK' => ?_ | (refine hK' _ _ _ ?_; clear hK' K') | refine draw_auto tok mixed (by kernel_rfl) ?_ | refine HD_mk (fun _ h => CallK.val (R := []) hon (by kernel_rfl) rfl (by simp [V.wf, A.wf, C.wf]) trivial rfl rfl trivial h) ?_ | refine bs_bf (congrArg Bool.not hob) ?_ | refine Two.l ?_)
          have hfk : (decide (k = 0) || stepB W H e p (l.getD (k - 1) cz)) = true := by rw [dd_t hk0']; rfl
          clear hk0 hk0'
          refine Tri.loop (γ := Nat) (fun j => j ≤ k ∧ ∀ i, i < j → ¬ p = l.getD i cz) (fun j => [(1, V.c (.sl 1 l.length)), (2, V.c (.bool e)), (3, V.c (.ptr 2 0)), (8, V.c (.ptr 3 0)), (11, V.c (.sl 1 l.length)), (12, V.i l.length), (13, V.i (k : Nat)), (51, V.c (.sl 1 k)), (52, V.i k), (53, V.i (j : Nat))])
            (fun j => [⟨3, .own 57, [C.i p.1, C.i p.2]⟩, ⟨2, .own 24, [C.i W, C.i H, .sl 0 n]⟩, ⟨1, .ro 2, cellC l⟩]) 4 (fun j => k - j) 0 (R0 := []) ?_ ?_ ?_
          · exact ⟨by omega, by omega⟩
          · skip
            refine ⟨?_, ?_, rfl, rfl, by exact Nat.le_of_ble_eq_true rfl⟩
            · repeat (first | exact trivial | (refine And.intro (covS_syn (by rfl) rfl (by first | exact trivial | exact Nat.le_of_ble_eq_true rfl)) ?_))
            · repeat (first | exact trivial | (refine And.intro (covE_id (Nat.le_of_ble_eq_true rfl) (by first | first | exact wf_cells _ _ | simp [C.wf]) rfl (by rfl)) ?_))
          · rintro j ⟨hj, hjn⟩
            refine vc_ok tok ?_
            by_cases hjk : j < k
            · have hld2 := cellT (l := l) (k := j) rfl (by omega)
              have hnj := hneq j hjk
              obtain ⟨q, hq⟩ : ∃ q, q = l.getD j cz := ⟨_, rfl⟩
              rw [← hq] at hld2 hnj
              cases heq : (decide (p.1 = q.1) && (decide (p.2 = q.2) && true)) with
              | true =>
                have hpq : p = q := by simp at heq; exact Prod.ext heq.1 heq.2
                have hr := hno (by rw [fin (hfk) hob, hnj hpq]; rfl)
                repeat ((conv => whnf); first | (refine And.intro (by first | omega | exact Nat.le_of_ble_eq_true rfl | (dsimp only [inK]; omega)) ?_) | with_reducible refine ld (hld2) ?_ | refine Exists.intro _ (And.intro rfl ?_) | refine br_t (by omega) ?_ | refine fun (K' : K3) hK' => ?_ | (refine hK' _ _ _ ?_; clear hK' K') | refine br_bt heq ?_)
                intro ρ; rw [hr]; rfl
              | false =>
                have hpq : ¬ p = q := fun e => by rw [e] at heq; simp at heq
                repeat ((conv => whnf); first | (refine And.intro (by first | omega | exact Nat.le_of_ble_eq_true rfl | (dsimp only [inK]; omega)) ?_) | with_reducible refine ld (hld2) ?_ | refine Exists.intro _ (And.intro rfl ?_) | refine br_t (by omega) ?_ | refine fun (K' : K3) hK' => ?_ | (refine hK' _ _ _ ?_; clear hK' K') | refine br_bf heq ?_)
                refine ⟨j + 1, [], ⟨by omega, fun i hi => ?_⟩, by omega, ?_⟩
                · by_cases hij : i = j
                  · rw [hij, ← hq]; exact hpq
                  · exact hjn i (by omega)
                · skip
                  refine ⟨?_, ?_, rfl, rfl, by exact Nat.le_of_ble_eq_true rfl⟩
                  · repeat (first | exact trivial | (refine And.intro (covS_syn (by rfl) rfl (by first | exact trivial | exact Nat.le_of_ble_eq_true rfl)) ?_))
                  · repeat (first | exact trivial | (refine And.intro (covE_id (Nat.le_of_ble_eq_true rfl) (by first | first | exact wf_cells _ _ | simp [C.wf]) rfl (by rfl)) ?_))
            · have hje : j = k := by omega
              subst hje
              have hgo : isWayK W H l e (j + 1) = true := by rw [isWayK_succ, hok, fin (hfk) hob, hall hjn]; rfl
              repeat ((conv => whnf); first | (refine And.intro (by first | omega | (dsimp only [inK]; omega)) ?_) | refine br_f (by omega) ?_ | refine fun (K' : K3) hK' => ?_ | (refine hK' _ _ _ ?_; clear hK' K'))
              refine ⟨j + 1, [], ⟨by omega, hgo⟩, by omega, ?_⟩
              refine ⟨?_, ?_, rfl, rfl, by exact Nat.le_of_ble_eq_true rfl⟩
              · repeat (first | exact trivial | (refine And.intro (covS_syn (by rfl) rfl (by first | exact trivial | exact Nat.le_of_ble_eq_true rfl)) ?_))
              · repeat (first | exact trivial | (refine And.intro (covE_id (Nat.le_of_ble_eq_true rfl) (by first | first | exact wf_cells _ _ | simp [C.wf]) rfl (by rfl)) ?_))
    · have hkl : k = l.length := by omega
      subst hkl
      have hr : isWayB W H l e = (decide ((l.length : Int) ≥ 1) && decide ((l.length : Int) ≤ 100)) := by unfold isWayB; rw [hok]; rfl
      by_cases g1 : (l.length : Int) ≥ 1
      · repeat ((conv => whnf); first | refine br_t (by omega) ?_ | refine br_f (by omega) ?_ | refine fun (K' : K3) hK' => ?_ | (refine hK' _ _ _ ?_; clear hK' K'))
        intro ρ; rw [hr, dd_t g1]; rfl
      · repeat ((conv => whnf); first | refine br_f (by omega) ?_ | refine fun (K' : K3) hK' => ?_ | (refine hK' _ _ _ ?_; clear hK' K'))
        intro ρ; rw [hr, dd_f g1]; rfl
end Go.Proofs.Ytbhpnhcdjmcaoaa

/- Boom, the reference: barriers and their cost. -/
namespace Go.Proofs.Ytbhpnhcdjmcaoaa
open Go.RowKit
set_option linter.unusedVariables false
set_option linter.unusedSimpArgs false
def idxU (W : Int) (p : Cell) : Int := p.2 * W + p.1
def barOk (W H : Int) (cs : List Int) (l : List Cell) (i : Nat) : Bool :=
  !(decide (cs.getD (idxU W (l.getD i cz)).toNat 0 = 0) || ((decide ((i : Int) = 0) != decide ((l.getD i cz).2 = 0)) || (decide ((i : Int) = (l.length : Int) - 1) != decide ((l.getD i cz).2 = H - 1))))
def barOkK (W H : Int) (cs : List Int) (l : List Cell) (k : Nat) : Bool := (List.range k).all (barOk W H cs l)
def isBarB (W H : Int) (cs : List Int) (l : List Cell) : Bool := !decide ((l.length : Int) > 100) && (isWayB W H l true && barOkK W H cs l l.length)
theorem barOkK_succ (W H : Int) (cs : List Int) (l : List Cell) (k : Nat) : barOkK W H cs l (k + 1) = (barOkK W H cs l k && barOk W H cs l k) := by simp [barOkK, List.range_succ, List.all_append]
theorem isBarB_false {W H : Int} {cs : List Int} {l : List Cell} {k : Nat} (hk : k < l.length) (h : barOk W H cs l k = false) : isBarB W H cs l = false := by
  have : barOkK W H cs l l.length = false := by
    unfold barOkK; rw [List.all_eq_false]; exact ⟨k, by simpa using hk, by simp [h]⟩
  unfold isBarB; rw [this]; simp
theorem idxU_bd {W H : Int} {p : Cell} (hW : 0 < W ∧ W ≤ 10) (hH : 0 < H ∧ H ≤ 10) (h : onB W H p.1 p.2 = true) : 0 ≤ idxU W p ∧ idxU W p < W * H := by
  have h1 := idxI_on h
  have h2 := idxI_lt hW.1 h1.2
  unfold idxU; omega
set_option maxRecDepth 10000 in
set_option maxHeartbeats 8000000 in
theorem isBar_spec (W H : Int) (cs : List Int) (l : List Cell) (hok : CO W H cs) (hl : l.length ≤ 300) :
    Spec Try.prog 81 [chR W H cs.length, V.c (.sl 1 l.length)] [⟨0, .ro 0, cs.map C.i⟩, ⟨1, .ro 2, cellC l⟩] 2 (Is (V.c (.bool (isBarB W H cs l)))) := by
  have hcl := cellC_len l
  have hlm : (cs.map C.i).length = cs.length := by simp
  obtain ⟨hW, hH, hcn, hcost⟩ := hok
  have hn : W * H ≤ 100 := by have := Int.mul_le_mul hW.2 hH.2 (by omega) (by omega : (0:Int) ≤ 10); omega
  have hiw := isWay_spec W H cs.length l true (by omega) (by omega) hl
  refine Spec.of tok Try.func81 rfl rfl rfl fun n0 cx => vc_ok tok ?_
  by_cases h100 : (l.length : Int) > 100
  · have hr : isBarB W H cs l = false := by unfold isBarB; rw [dd_t h100]; rfl
    repeat ((conv => whnf); first | refine bs_t (by omega) ?_ | refine fun (K' : K3) hK' => ?_ | (refine hK' _ _ _ ?_; clear hK' K'))
    intro ρ; rw [hr]; rfl
  · cases hw : isWayB W H l true with
    | false =>
      have hr : isBarB W H cs l = false := by unfold isBarB; rw [hw]; simp
      repeat ((conv => whnf); first | refine Exists.intro _ (And.intro rfl ?_) | refine bs_f (by omega) ?_ | refine fun (K' : K3) hK' => ?_ | (refine hK' _ _ _ ?_; clear hK' K') | refine CallK.den (vs := [chR W H cs.length, V.c (.sl 1 l.length), V.c (.bool true)]) (fun ρ => rfl) (by simp [V.wf, A.wf, C.wf]) (CallK.val (R := []) hiw (by kernel_rfl) rfl (by simp [V.wf, A.wf, C.wf]) ⟨roE_cells rfl (by omega) rfl (.inr rfl), trivial⟩ rfl rfl trivial ?_) | refine br_bt (congrArg Bool.not hw) ?_ | refine CallK.m ?_)
      intro ρ; rw [hr]; rfl
    | true =>
      have hwk : isWayK W H l true l.length = true := by unfold isWayB at hw; simp only [Bool.and_eq_true] at hw; exact hw.1
      repeat ((conv => whnf); first | refine Exists.intro _ (And.intro rfl ?_) | refine bs_f (by omega) ?_ | refine fun (K' : K3) hK' => ?_ | (refine hK' _ _ _ ?_; clear hK' K') | refine CallK.den (vs := [chR W H cs.length, V.c (.sl 1 l.length), V.c (.bool true)]) (fun ρ => rfl) (by simp [V.wf, A.wf, C.wf]) (CallK.val (R := []) hiw (by kernel_rfl) rfl (by simp [V.wf, A.wf, C.wf]) ⟨roE_cells rfl (by omega) rfl (.inr rfl), trivial⟩ rfl rfl trivial ?_) | refine br_bf (congrArg Bool.not hw) ?_ | refine CallK.m ?_)
      refine Tri.loop (γ := Nat) (fun k => k ≤ l.length ∧ barOkK W H cs l k = true) (fun k => [(1, V.c (.sl 1 l.length)), (2, V.c (.ptr 2 0)), (16, V.c (.sl 1 l.length)), (17, V.i l.length), (18, V.i (k : Nat))])
        (fun k => [⟨2, .own 24, [C.i W, C.i H, .sl 0 cs.length]⟩, ⟨1, .ro 2, cellC l⟩, ⟨0, .ro 0, cs.map C.i⟩]) 3 (fun k => l.length - k) 0 (R0 := []) ?_ ?_ ?_
      · exact ⟨by omega, rfl⟩
      · skip
        refine ⟨?_, ?_, rfl, rfl, by exact Nat.le_of_ble_eq_true rfl⟩
        · repeat (first | exact trivial | (refine And.intro (covS_syn (by rfl) rfl (by first | exact trivial | exact Nat.le_of_ble_eq_true rfl)) ?_))
        · repeat (first | exact trivial | (refine And.intro (covE_id (Nat.le_of_ble_eq_true rfl) (by first | exact wf_ints _ _ | first | exact wf_cells _ _ | simp [C.wf]) rfl (by rfl)) ?_))
      · rintro k ⟨hk, hokk⟩
        refine vc_ok tok ?_
        by_cases hlt : k < l.length
        · have hld := cellT (l := l) (k := k) rfl hlt
          have hno := fun h => isBarB_false (W := W) (H := H) (cs := cs) hlt h
          have hon := wayOk_on (isWayK_get hwk hlt)
          have hbk : barOk W H cs l k = !(decide (cs.getD (idxU W (l.getD k cz)).toNat 0 = 0) || ((decide ((k : Int) = 0) != decide ((l.getD k cz).2 = 0)) || (decide ((k : Int) = (l.length : Int) - 1) != decide ((l.getD k cz).2 = H - 1)))) := rfl
          obtain ⟨p, hp⟩ : ∃ p, p = l.getD k cz := ⟨_, rfl⟩
          rw [← hp] at hld hon hbk
          have hpo := onB_t hon
          have hib := idxU_bd (show 0 < W ∧ W ≤ 10 by omega) (show 0 < H ∧ H ≤ 10 by omega) hon
          have hix := rindex_spec W H cs.length p.1 p.2 (by omega) (by omega) (by omega)
          obtain ⟨i, hi⟩ : ∃ i : Nat, (i : Int) = p.2 * W + p.1 := ⟨(p.2 * W + p.1).toNat, by unfold idxU at hib; omega⟩
          have hiu : idxU W p = i := by unfold idxU; omega
          rw [hiu, Int.toNat_natCast] at hbk
          rw [hiu] at hib
          rw [← hi] at hix
          have hldc := intL (l := cs) (k := i) (by omega)
          obtain ⟨ci, hci⟩ : ∃ ci, ci = cs.getD i 0 := ⟨_, rfl⟩
          rw [← hci] at hldc hbk
          by_cases g1 : ci = 0
          · have hr := hno (by rw [hbk, dd_t g1]; rfl)
            repeat ((conv => whnf); first | (refine And.intro (by first | omega | exact Nat.le_of_ble_eq_true rfl | (dsimp only [inK]; omega)) ?_) | with_reducible refine ld (hld) ?_ | with_reducible refine ld (hldc) ?_ | refine Exists.intro _ (And.intro rfl ?_) | refine br_t (by omega) ?_ | refine bs_t (by omega) ?_ | refine fun (K' : K3) hK' => ?_ | (refine hK' _ _ _ ?_; clear hK' K') | refine draw_auto tok mixed (by kernel_rfl) ?_ | refine HD_mk (fun _ h => CallK.val (R := []) hix (by kernel_rfl) rfl (by simp [V.wf, A.wf, C.wf]) trivial rfl rfl trivial h) ?_)
            intro ρ; rw [hr]; rfl
          · rw [dd_f g1, Bool.false_or] at hbk
            cases g2 : (decide ((k : Int) = 0) != decide (p.2 = 0)) with
            | true =>
              have hr := hno (by rw [hbk, g2]; rfl)
              repeat ((conv => whnf); first | (refine And.intro (by first | omega | exact Nat.le_of_ble_eq_true rfl | (dsimp only [inK]; omega)) ?_) | with_reducible refine ld (hld) ?_ | with_reducible refine ld (hldc) ?_ | refine Exists.intro _ (And.intro rfl ?_) | refine br_t (by omega) ?_ | refine bs_f (by omega) ?_ | refine fun (K' : K3) hK' => ?_ | (refine hK' _ _ _ ?_; clear hK' K') | refine draw_auto tok mixed (by kernel_rfl) ?_ | refine HD_mk (fun _ h => CallK.val (R := []) hix (by kernel_rfl) rfl (by simp [V.wf, A.wf, C.wf]) trivial rfl rfl trivial h) ?_ | refine bs_bt g2 ?_)
              intro ρ; rw [hr]; rfl
            | false =>
              rw [g2, Bool.false_or] at hbk
              cases g3 : (decide ((k : Int) = (l.length : Int) - 1) != decide (p.2 = H - 1)) with
              | true =>
                have hr := hno (by rw [hbk, g3]; rfl)
                repeat ((conv => whnf); first | (refine And.intro (by first | omega | exact Nat.le_of_ble_eq_true rfl | (dsimp only [inK]; omega)) ?_) | with_reducible refine ld (hld) ?_ | with_reducible refine ld (hldc) ?_ | refine Exists.intro _ (And.intro rfl ?_) | refine br_t (by omega) ?_ | refine bs_f (by omega) ?_ | refine fun (K' : K3) hK' => ?_ | (refine hK' _ _ _ ?_; clear hK' K') | refine draw_auto tok mixed (by kernel_rfl) ?_ | refine HD_mk (fun _ h => CallK.val (R := []) hix (by kernel_rfl) rfl (by simp [V.wf, A.wf, C.wf]) trivial rfl rfl trivial h) ?_ | refine bs_bf g2 ?_ | refine br_bt g3 ?_)
                intro ρ; rw [hr]; rfl
              | false =>
                have hgo : barOkK W H cs l (k + 1) = true := by rw [barOkK_succ, hokk, hbk, g3]; rfl
                repeat ((conv => whnf); first | (refine And.intro (by first | omega | exact Nat.le_of_ble_eq_true rfl | (dsimp only [inK]; omega)) ?_) | with_reducible refine ld (hld) ?_ | with_reducible refine ld (hldc) ?_ | refine Exists.intro _ (And.intro rfl ?_) | refine br_t (by omega) ?_ | refine bs_f (by omega) ?_ | refine fun (K' : K3) hK' => ?_ | (refine hK' _ _ _ ?_; clear hK' K') | refine draw_auto tok mixed (by kernel_rfl) ?_ | refine HD_mk (fun _ h => CallK.val (R := []) hix (by kernel_rfl) rfl (by simp [V.wf, A.wf, C.wf]) trivial rfl rfl trivial h) ?_ | refine bs_bf g2 ?_ | refine br_bf g3 ?_)
                refine ⟨k + 1, [], ⟨by omega, hgo⟩, by omega, ?_⟩
                refine ⟨?_, ?_, rfl, rfl, by exact Nat.le_of_ble_eq_true rfl⟩
                · repeat (first | exact trivial | (refine And.intro (covS_syn (by rfl) rfl (by first | exact trivial | exact Nat.le_of_ble_eq_true rfl)) ?_))
                · repeat (first | exact trivial | (refine And.intro (covE_id (Nat.le_of_ble_eq_true rfl) (by first | exact wf_ints _ _ | first | exact wf_cells _ _ | simp [C.wf]) rfl (by rfl)) ?_))
        · have hkl : k = l.length := by omega
          subst hkl
          have hr : isBarB W H cs l = true := by unfold isBarB; rw [hw, hokk, dd_f h100]; rfl
          repeat ((conv => whnf); first | refine br_f (by omega) ?_ | refine fun (K' : K3) hK' => ?_ | (refine hK' _ _ _ ?_; clear hK' K'))
          intro ρ; rw [hr]; rfl
set_option maxHeartbeats 4000000 in
theorem risBar_spec (W H : Int) (cs : List Int) (l : List Cell) (hc : cs.length ≤ 300) (hl : l.length ≤ 300) :
    Spec Try.prog 38 [chR W H cs.length, V.c (.sl 1 l.length)] [⟨0, .ro 0, cs.map C.i⟩, ⟨1, .ro 2, cellC l⟩] 2 (Is (V.tup [A.c (.bool (okC W H cs && isBarB W H cs l)), A.c (C.i (if okC W H cs then 0 else 30))])) := by
  have hva := rvalid_spec W H cs hc
  refine Spec.of tok Try.func38 rfl rfl rfl fun n0 cx => vc_ok tok ?_
  cases hv : okC W H cs with
  | false =>
    repeat ((conv => whnf); first | refine Exists.intro _ (And.intro rfl ?_) | refine fun (K' : K3) hK' => ?_ | (refine hK' _ _ _ ?_; clear hK' K') | refine CallK.val (R := []) hva (by kernel_rfl) rfl (by simp [V.wf, A.wf, C.wf]) ⟨roE_ints rfl (by omega) rfl (.inl rfl), trivial⟩ rfl rfl trivial ?_ | refine br_bt (congrArg Bool.not hv) ?_ | refine CallK.m ?_)
    intro ρ; rfl
  | true =>
    have hib := isBar_spec W H cs l (okC_iff.1 hv) hl
    repeat ((conv => whnf); first | refine Exists.intro _ (And.intro rfl ?_) | refine fun (K' : K3) hK' => ?_ | (refine hK' _ _ _ ?_; clear hK' K') | refine CallK.val (R := []) hva (by kernel_rfl) rfl (by simp [V.wf, A.wf, C.wf]) ⟨roE_ints rfl (by omega) rfl (.inl rfl), trivial⟩ rfl rfl trivial ?_ | refine br_bf (congrArg Bool.not hv) ?_ | refine CallK.val (R := []) hib (by kernel_rfl) rfl (by simp [V.wf, A.wf, C.wf]) ⟨roE_ints rfl (by omega) rfl (.inl rfl), roE_cells rfl (by omega) rfl (.inr rfl), trivial⟩ rfl rfl trivial ?_ | refine CallK.m ?_)
    intro ρ; rfl
def sumK (W : Int) (cs : List Int) (l : List Cell) (k : Nat) : Int := ((l.take k).map fun p => cstI cs (idxU W p)).sum
def sumC (W : Int) (cs : List Int) (l : List Cell) : Int := sumK W cs l l.length
theorem sumK_succ {W : Int} {cs : List Int} {l : List Cell} {k : Nat} (h : k < l.length) : sumK W cs l (k + 1) = sumK W cs l k + cstI cs (idxU W (l.getD k cz)) := by
  unfold sumK
  rw [List.take_add_one, show l[k]?.toList = [l.getD k cz] by rw [List.getElem?_eq_getElem h, List.getD_eq_getElem?_getD, List.getElem?_eq_getElem h]; rfl]
  simp
set_option maxHeartbeats 4000000 in
theorem rcostOf_spec (W H : Int) (cs : List Int) (l : List Cell) (hc : cs.length ≤ 300) (hl : l.length ≤ 300) :
    Spec Try.prog 40 [chR W H cs.length, V.c (.sl 1 l.length)] [⟨0, .ro 0, cs.map C.i⟩, ⟨1, .ro 2, cellC l⟩] 2 (Is (if okC W H cs then (if isBarB W H cs l then V.tup [A.c (C.i (sumC W cs l)), A.c (C.i 0)] else V.tup [A.c (C.i 0), A.c (C.i 5)]) else V.tup [A.c (C.i 0), A.c (C.i 30)])) := by
  have hcl := cellC_len l
  have hlm : (cs.map C.i).length = cs.length := by simp
  have hva := rvalid_spec W H cs hc
  refine Spec.of tok Try.func40 rfl rfl rfl fun n0 cx => vc_ok tok ?_
  cases hv : okC W H cs with
  | false =>
    repeat ((conv => whnf); first | refine Exists.intro _ (And.intro rfl ?_) | refine fun (K' : K3) hK' => ?_ | (refine hK' _ _ _ ?_; clear hK' K') | refine CallK.val (R := []) hva (by kernel_rfl) rfl (by simp [V.wf, A.wf, C.wf]) ⟨roE_ints rfl (by omega) rfl (.inl rfl), trivial⟩ rfl rfl trivial ?_ | refine br_bt (congrArg Bool.not hv) ?_ | refine CallK.m ?_)
    intro ρ; rfl
  | true =>
    have hok := okC_iff.1 hv
    have hib := isBar_spec W H cs l hok hl
    cases hb : isBarB W H cs l with
    | false =>
      repeat ((conv => whnf); first | refine Exists.intro _ (And.intro rfl ?_) | refine fun (K' : K3) hK' => ?_ | (refine hK' _ _ _ ?_; clear hK' K') | refine CallK.val (R := []) hva (by kernel_rfl) rfl (by simp [V.wf, A.wf, C.wf]) ⟨roE_ints rfl (by omega) rfl (.inl rfl), trivial⟩ rfl rfl trivial ?_ | refine br_bf (congrArg Bool.not hv) ?_ | refine CallK.val (R := []) hib (by kernel_rfl) rfl (by simp [V.wf, A.wf, C.wf]) ⟨roE_ints rfl (by omega) rfl (.inl rfl), roE_cells rfl (by omega) rfl (.inr rfl), trivial⟩ rfl rfl trivial ?_ | refine br_bt (congrArg Bool.not hb) ?_ | refine CallK.m ?_)
      intro ρ; rfl
    | true =>
      obtain ⟨hW, hH, hcn, hcost⟩ := hok
      have hn : W * H ≤ 100 := by have := Int.mul_le_mul hW.2 hH.2 (by omega) (by omega : (0:Int) ≤ 10); omega
      have hcb := cst_bd hcost
      have hwk : isWayK W H l true l.length = true := by unfold isBarB isWayB at hb; simp only [Bool.and_eq_true] at hb; exact hb.2.1.1
      repeat ((conv => whnf); first | refine Exists.intro _ (And.intro rfl ?_) | refine fun (K' : K3) hK' => ?_ | (refine hK' _ _ _ ?_; clear hK' K') | refine CallK.val (R := []) hva (by kernel_rfl) rfl (by simp [V.wf, A.wf, C.wf]) ⟨roE_ints rfl (by omega) rfl (.inl rfl), trivial⟩ rfl rfl trivial ?_ | refine br_bf (congrArg Bool.not hv) ?_ | refine CallK.val (R := []) hib (by kernel_rfl) rfl (by simp [V.wf, A.wf, C.wf]) ⟨roE_ints rfl (by omega) rfl (.inl rfl), roE_cells rfl (by omega) rfl (.inr rfl), trivial⟩ rfl rfl trivial ?_ | refine br_bf (congrArg Bool.not hb) ?_ | refine CallK.m ?_)
      refine Tri.loop (γ := Nat) (fun k => k ≤ l.length ∧ 0 ≤ sumK W cs l k ∧ sumK W cs l k ≤ 100 * k) (fun k => [(1, V.c (.sl 1 l.length)), (2, V.c (.ptr 2 0)), (6, V.i (sumK W cs l k)), (16, V.c (.sl 1 l.length)), (17, V.i l.length), (18, V.i (k : Nat))])
        (fun k => [⟨2, .own 24, [C.i W, C.i H, .sl 0 cs.length]⟩, ⟨1, .ro 2, cellC l⟩, ⟨0, .ro 0, cs.map C.i⟩]) 3 (fun k => l.length - k) 0 (R0 := []) ?_ ?_ ?_
      · exact ⟨by omega, by simp [sumK], by simp [sumK]⟩
      · skip
        refine ⟨?_, ?_, rfl, rfl, by exact Nat.le_of_ble_eq_true rfl⟩
        · repeat (first | exact trivial | (refine And.intro (covS_syn (by rfl) rfl (by first | exact trivial | exact Nat.le_of_ble_eq_true rfl)) ?_))
        · repeat (first | exact trivial | (refine And.intro (covE_id (Nat.le_of_ble_eq_true rfl) (by first | exact wf_ints _ _ | first | exact wf_cells _ _ | simp [C.wf]) rfl (by rfl)) ?_))
      · rintro k ⟨hk, hs0, hs1⟩
        refine vc_ok tok ?_
        by_cases hlt : k < l.length
        · have hld := cellT (l := l) (k := k) rfl hlt
          have hon := wayOk_on (isWayK_get hwk hlt)
          have hsu := sumK_succ (W := W) (cs := cs) hlt
          obtain ⟨p, hp⟩ : ∃ p, p = l.getD k cz := ⟨_, rfl⟩
          rw [← hp] at hld hon hsu
          have hpo := onB_t hon
          have hib := idxU_bd (show 0 < W ∧ W ≤ 10 by omega) (show 0 < H ∧ H ≤ 10 by omega) hon
          have hix := rindex_spec W H cs.length p.1 p.2 (by omega) (by omega) (by omega)
          obtain ⟨i, hi⟩ : ∃ i : Nat, (i : Int) = p.2 * W + p.1 := ⟨(p.2 * W + p.1).toNat, by unfold idxU at hib; omega⟩
          have hiu : idxU W p = i := by unfold idxU; omega
          rw [hiu] at hib hsu
          rw [← hi] at hix
          have hrc := rcost_spec W H cs i (by omega)
          have hci := hcb (i : Int)
          obtain ⟨ci, hcie⟩ : ∃ ci, ci = cstI cs (i : Int) := ⟨_, rfl⟩
          rw [← hcie] at hrc hci hsu
          repeat ((conv => whnf); first | (refine And.intro (by first | omega | exact Nat.le_of_ble_eq_true rfl | (dsimp only [inK]; omega)) ?_) | with_reducible refine ld (hld) ?_ | refine Exists.intro _ (And.intro rfl ?_) | refine br_t (by omega) ?_ | refine fun (K' : K3) hK' => ?_ | (refine hK' _ _ _ ?_; clear hK' K') | refine draw_auto tok mixed (by kernel_rfl) ?_ | refine HD_mk (fun _ h => CallK.val (R := []) hix (by kernel_rfl) rfl (by simp [V.wf, A.wf, C.wf]) trivial rfl rfl trivial h) ?_ | refine HD_mk (fun _ h => CallK.val (R := []) hrc (by kernel_rfl) rfl (by simp [V.wf, A.wf, C.wf]) ⟨roE_ints rfl (by omega) rfl (.inl rfl), trivial⟩ rfl rfl trivial h) ?_)
          refine ⟨k + 1, [], ⟨by omega, by omega, by omega⟩, by omega, ?_⟩
          refine ⟨?_, ?_, rfl, rfl, by exact Nat.le_of_ble_eq_true rfl⟩
          · repeat (first | exact trivial | (refine And.intro (covS_syn (by first | rfl | (refine congrArg some (congrArg V.i ?_); omega)) rfl (by first | exact trivial | exact Nat.le_of_ble_eq_true rfl)) ?_))
          · repeat (first | exact trivial | (refine And.intro (covE_id (Nat.le_of_ble_eq_true rfl) (by first | exact wf_ints _ _ | first | exact wf_cells _ _ | simp [C.wf]) rfl (by rfl)) ?_))
        · have hkl : k = l.length := by omega
          subst hkl
          repeat ((conv => whnf); first | refine br_f (by omega) ?_ | refine fun (K' : K3) hK' => ?_ | (refine hK' _ _ _ ?_; clear hK' K'))
          intro ρ; rfl
end Go.Proofs.Ytbhpnhcdjmcaoaa

/- Boom: lists of cells that are barriers, and what they cost. -/
namespace Go.Proofs.Ytbhpnhcdjmcaoaa
open Go.RowKit
set_option linter.unusedVariables false
set_option linter.unusedSimpArgs false
theorem indexI_spec (l : List Int) (x : Int) (hl : l.length ≤ 300) : Spec Try.prog 113 [V.c (.sl 0 l.length), V.i x] [⟨0, .ro 0, l.map C.i⟩] 1 (Is (V.i (idxV l fun y => decide (x = y)))) := by
  have hlm : (l.map C.i).length = l.length := by simp
  refine Spec.of tok Try.func113 rfl rfl rfl fun n0 cx => vc_ok tok ?_
  repeat ((conv => whnf); first | refine fun (K' : K3) hK' => ?_ | (refine hK' _ _ _ ?_; clear hK' K'))
  refine Tri.loop (γ := Nat) (fun k => k ≤ l.length ∧ ∀ i, i < k → decide (x = l.getD i 0) = false) (fun k => [(0, V.c (.sl 0 l.length)), (1, V.i x), (7, V.i l.length), (8, V.i (k : Nat))]) (fun k => [⟨0, .ro 0, l.map C.i⟩]) 1 (fun k => l.length - k) 0 (R0 := []) ?_ ?_ ?_
  · exact ⟨by omega, by omega⟩
  · skip
    refine ⟨?_, ?_, rfl, rfl, by exact Nat.le_of_ble_eq_true rfl⟩
    · repeat (first | exact trivial | (refine And.intro (covS_syn (by rfl) rfl (by first | exact trivial | exact Nat.le_of_ble_eq_true rfl)) ?_))
    · repeat (first | exact trivial | refine And.intro (covE_id (Nat.le_of_ble_eq_true rfl) (by exact wf_ints _ _) rfl (by rfl)) ?_)
  · rintro k ⟨hk, hb⟩
    refine vc_ok tok ?_
    by_cases hlt : k < l.length
    · by_cases hx : x = l.getD k 0
      · repeat ((conv => whnf); first | (refine And.intro (by first | omega | (dsimp only [inK]; omega)) ?_) | with_reducible refine ld (intL hlt) ?_ | refine br_t (by omega) ?_ | refine fun (K' : K3) hK' => ?_ | (refine hK' _ _ _ ?_; clear hK' K'))
        intro ρ
        rw [idxV, find_num hlt (dd_t hx) hb]; rfl
      · repeat ((conv => whnf); first | (refine And.intro (by first | omega | (dsimp only [inK]; omega)) ?_) | with_reducible refine ld (intL hlt) ?_ | refine br_t (by omega) ?_ | refine br_f (by omega) ?_ | refine fun (K' : K3) hK' => ?_ | (refine hK' _ _ _ ?_; clear hK' K'))
        refine ⟨k + 1, [], ⟨by omega, fun i hi => ?_⟩, by omega, ?_⟩
        · by_cases h : i = k
          · rw [h]; exact dd_f hx
          · exact hb i (by omega)
        · skip
          refine ⟨?_, ?_, rfl, rfl, by exact Nat.le_of_ble_eq_true rfl⟩
          · repeat (first | exact trivial | (refine And.intro (covS_syn (by rfl) rfl (by first | exact trivial | exact Nat.le_of_ble_eq_true rfl)) ?_))
          · repeat (first | exact trivial | refine And.intro (covE_id (Nat.le_of_ble_eq_true rfl) (by exact wf_ints _ _) rfl (by rfl)) ?_)
    · have hkl : k = l.length := by omega
      repeat ((conv => whnf); first | refine br_f (by omega) ?_ | refine fun (K' : K3) hK' => ?_ | (refine hK' _ _ _ ?_; clear hK' K'))
      intro ρ
      rw [idxV, find_not (fun i hi => hb i (by omega))]; rfl
def hasI (l : List Int) (x : Int) : Bool := l.any fun y => decide (x = y)
theorem containsI_spec (l : List Int) (x : Int) (hl : l.length ≤ 300) : Spec Try.prog 106 [V.c (.sl 0 l.length), V.i x] [⟨0, .ro 0, l.map C.i⟩] 1 (Is (V.c (.bool (hasI l x)))) := by
  refine Spec.of tok Try.func106 rfl rfl rfl fun n0 cx => vc_ok tok ?_
  repeat ((conv => whnf); first | refine fun (K' : K3) hK' => ?_ | (refine hK' _ _ _ ?_; clear hK' K') | refine CallK.val (R := []) (indexI_spec l x hl) (by kernel_rfl) rfl (by simp [V.wf, A.wf, C.wf]) ⟨roE_ints rfl (by omega) rfl (.inl rfl), trivial⟩ rfl rfl trivial ?_ | refine CallK.m ?_)
  intro ρ
  show Value.bool _ = Value.bool _
  rw [hasI, ← any_idx]
/-- The indexes of cells. -/
def listI (W H : Int) (l : List Cell) : List Int := l.map (idxC W H)
def listOk (W H : Int) (l : List Cell) (j : Nat) : Bool := !(decide (idxC W H (l.getD j cz) < 0) || hasI (listI W H (l.take j)) (idxC W H (l.getD j cz)))
def listOkK (W H : Int) (l : List Cell) (k : Nat) : Bool := (List.range k).all (listOk W H l)
theorem listOkK_succ (W H : Int) (l : List Cell) (k : Nat) : listOkK W H l (k + 1) = (listOkK W H l k && listOk W H l k) := by simp [listOkK, List.range_succ, List.all_append]
theorem listOkK_false {W H : Int} {l : List Cell} {k : Nat} (hk : k < l.length) (h : listOk W H l k = false) : listOkK W H l l.length = false := by
  unfold listOkK; rw [List.all_eq_false]; exact ⟨k, by simpa using hk, by simp [h]⟩
def lenOk (l : List Cell) : Bool := decide (1 ≤ (l.length : Int) ∧ (l.length : Int) ≤ 100)
def lisR (W H : Int) (l : List Cell) (v : V) (L' : List E) : Prop :=
  if listOkK W H l l.length then ∃ lab, v = V.tup [A.c (.sl lab l.length), A.c (.bool (lenOk l))] ∧ find L' lab = some ⟨lab, .vec 3 1, (listI W H l).map C.i⟩
  else v = V.tup [A.c .nil, A.c .ff]
theorem listI_take {W H : Int} {l : List Cell} {k : Nat} (h : k < l.length) : (listI W H (l.take (k + 1))).map C.i = (listI W H (l.take k)).map C.i ++ [C.i (idxC W H (l.getD k cz))] := by
  rw [List.take_add_one, show l[k]?.toList = [l.getD k cz] by rw [List.getElem?_eq_getElem h, List.getD_eq_getElem?_getD, List.getElem?_eq_getElem h]; rfl]
  simp [listI]
set_option maxHeartbeats 4000000 in
theorem listed_spec (W H : Int) (n : Nat) (l : List Cell) (hW : 0 < W ∧ W ≤ 10) (hH : 0 < H ∧ H ≤ 10) (hl : l.length ≤ 300) :
    Spec Try.prog 79 [chV W H n, V.c (.sl 2 l.length)] [⟨2, .ro 2, cellC l⟩] 3 (fun v L' _ => lisR W H l v L') := by
  have hcl := cellC_len l
  have hb := between_spec 1 (l.length : Int) 100
  refine Spec.of tok Try.func79 rfl rfl rfl fun n0 cx => vc_ok tok ?_
  repeat ((conv => whnf); first | refine fun (K' : K3) hK' => ?_ | (refine hK' _ _ _ ?_; clear hK' K'))
  refine Tri.loop (γ := Nat) (fun k => k ≤ l.length ∧ listOkK W H l k = true) (fun k => [(1, V.c (.sl 2 l.length)), (2, V.c (.ptr 3 0)), (6, V.c (.sl 4 k)), (10, V.c (.sl 2 l.length)), (11, V.i l.length), (12, V.i (k : Nat))])
    (fun k => [⟨4, .vec 3 1, (listI W H (l.take k)).map C.i⟩, ⟨3, .own 65, [C.i W, C.i H, .sl 0 n, .mp 1]⟩, ⟨2, .ro 2, cellC l⟩]) 5 (fun k => l.length - k) 0 (R0 := [(4, none)]) ?_ ?_ ?_
  · exact ⟨by omega, rfl⟩
  · skip
    refine ⟨?_, ?_, rfl, rfl, by exact Nat.le_of_ble_eq_true rfl⟩
    · repeat (first | exact trivial | (refine And.intro (covS_syn (by rfl) rfl (by first | exact trivial | exact Nat.le_of_ble_eq_true rfl)) ?_))
    · repeat (first | exact trivial | refine And.intro (covE_some rfl (Nat.le_of_ble_eq_true rfl) (wf_cells _ _) rfl (ren_cells _ _)) ?_ | refine And.intro (covE_nil rfl (Nat.le_of_ble_eq_true rfl) rfl rfl) ?_ | refine And.intro (covE_some rfl (Nat.le_of_ble_eq_true rfl) (by simp [C.wf]) rfl (by rfl)) ?_)
  · rintro k ⟨hk, hok⟩
    refine vc_ok tok ?_
    by_cases hlt : k < l.length
    · have hld := cellT (l := l) (k := k) rfl hlt
      have hix := index_spec W H n (l.getD k cz).1 (l.getD k cz).2 hW hH
      have hib := idxI_bd (x := (l.getD k cz).1) (y := (l.getD k cz).2) hW hH
      have hlen : (listI W H (l.take k)).length = k := by simp [listI]; omega
      have hco := containsI_spec (listI W H (l.take k)) (idxC W H (l.getD k cz)) (by omega)
      rw [hlen] at hco
      have hlk : listOk W H l k = !(decide (idxC W H (l.getD k cz) < 0) || hasI (listI W H (l.take k)) (idxC W H (l.getD k cz))) := rfl
      have hno := fun h => listOkK_false (W := W) (H := H) hlt h
      have htk := listI_take (W := W) (H := H) hlt
      have hie : idxC W H (l.getD k cz) = idxI W H (l.getD k cz).1 (l.getD k cz).2 := rfl
      obtain ⟨p, hp⟩ : ∃ p, p = l.getD k cz := ⟨_, rfl⟩
      rw [← hp] at hld hix hib hco hlk htk hie
      obtain ⟨i, hi⟩ : ∃ i, i = idxC W H p := ⟨_, rfl⟩
      rw [← hi] at hco hlk htk hie
      rw [← hie] at hix hib
      have hrow : ((listI W H (l.take k)).map C.i).length = k := by simp [hlen]
      by_cases h1 : i < 0
      · have hr := hno (by rw [hlk, dd_t h1]; rfl)
        repeat ((conv => whnf); first | (refine And.intro (by first | omega | exact Nat.le_of_ble_eq_true rfl | (dsimp only [inK]; omega)) ?_) | with_reducible refine ld (hld) ?_ | refine Exists.intro _ (And.intro rfl ?_) | refine br_t (by omega) ?_ | refine bs_t (by omega) ?_ | refine fun (K' : K3) hK' => ?_ | (refine hK' _ _ _ ?_; clear hK' K') | refine CallK.val (R := []) hix (by kernel_rfl) rfl (by simp [V.wf, A.wf, C.wf]) trivial rfl rfl trivial ?_ | refine CallK.m ?_)
        unfold lisR; rw [hr]; rfl
      · cases h2 : hasI (listI W H (l.take k)) i with
        | true =>
          have hr := hno (by rw [hlk, h2]; simp)
          repeat ((conv => whnf); first | (refine And.intro (by first | omega | exact Nat.le_of_ble_eq_true rfl | (dsimp only [inK]; omega)) ?_) | with_reducible refine ld (hld) ?_ | refine Exists.intro _ (And.intro rfl ?_) | refine br_t (by omega) ?_ | refine bs_f (by omega) ?_ | refine fun (K' : K3) hK' => ?_ | (refine hK' _ _ _ ?_; clear hK' K') | refine CallK.val (R := []) hix (by kernel_rfl) rfl (by simp [V.wf, A.wf, C.wf]) trivial rfl rfl trivial ?_ | refine CallK.val (R := [(0, some 4)]) hco (by kernel_rfl) rfl (by simp [V.wf, A.wf, C.wf]) ⟨roE_ints (l := 4) rfl (by omega) rfl (.inl rfl), trivial⟩ rfl rfl trivial ?_ | refine br_bt h2 ?_ | refine CallK.m ?_)
          unfold lisR; rw [hr]; rfl
        | false =>
          have hgo : listOkK W H l (k + 1) = true := by rw [listOkK_succ, hok, hlk, h2, dd_f h1]; rfl
          repeat ((conv => whnf); first | (refine And.intro (by first | omega | exact Nat.le_of_ble_eq_true rfl | (dsimp only [inK]; omega) | (exact ⟨rfl, rfl, rfl, Nat.le_of_ble_eq_true rfl, by dsimp only; omega, by exact Nat.le_of_ble_eq_true rfl, by omega, Nat.le_of_ble_eq_true rfl⟩)) ?_) | with_reducible refine ld (hld) ?_ | refine Exists.intro _ (And.intro rfl ?_) | refine br_t (by omega) ?_ | refine bs_f (by omega) ?_ | refine fun (K' : K3) hK' => ?_ | (refine hK' _ _ _ ?_; clear hK' K') | refine CallK.val (R := []) hix (by kernel_rfl) rfl (by simp [V.wf, A.wf, C.wf]) trivial rfl rfl trivial ?_ | refine CallK.val (R := [(0, some 4)]) hco (by kernel_rfl) rfl (by simp [V.wf, A.wf, C.wf]) ⟨roE_ints (l := 4) rfl (by omega) rfl (.inl rfl), trivial⟩ rfl rfl trivial ?_ | refine br_bf h2 ?_ | refine CallK.m ?_)
          refine ⟨k + 1, [(4, some 7)], ⟨by omega, hgo⟩, by omega, ?_⟩
          refine ⟨?_, ?_, rfl, rfl, by exact Nat.le_of_ble_eq_true rfl⟩
          · repeat (first | exact trivial | (refine And.intro (covS_syn (by rfl) rfl (by first | exact trivial | exact Nat.le_of_ble_eq_true rfl)) ?_))
          · repeat (first | exact trivial | refine And.intro (covE_some rfl (Nat.le_of_ble_eq_true rfl) (wf_cells _ _) rfl (ren_cells _ _)) ?_ | (refine And.intro (covE_some rfl (Nat.le_of_ble_eq_true rfl) (by first | exact wf_ints _ _ | simp [C.wf]) rfl (by first | (refine (ren_ints _ _).trans (congrArg some ?_); rw [htk]; rfl) | rfl)) ?_))
    · have hkl : k = l.length := by omega
      subst hkl
      repeat ((conv => whnf); first | refine br_f (by omega) ?_ | refine fun (K' : K3) hK' => ?_ | (refine hK' _ _ _ ?_; clear hK' K') | refine CallK.val (R := []) hb (by kernel_rfl) rfl (by simp [V.wf, A.wf, C.wf]) trivial rfl rfl trivial ?_ | refine CallK.m ?_)
      unfold lisR; rw [hok, List.take_length]
      exact ⟨4, rfl, rfl⟩
def pbarOk (W H : Int) (cs : List Int) (is : List Int) (k : Nat) : Bool :=
  !(!decide (cs.getD (is.getD k 0).toNat 0 ≠ 0) || ((decide (is.getD k 0 / W = 0) != decide ((k : Int) = 0)) || (decide (is.getD k 0 / W = H - 1) != decide ((k : Int) = (is.length : Int) - 1))))
def pbarOkK (W H : Int) (cs : List Int) (is : List Int) (k : Nat) : Bool := (List.range k).all (pbarOk W H cs is)
def isBarP (W H : Int) (cs : List Int) (is : List Int) : Bool := pbarOkK W H cs is is.length && follB W H true is is.length
theorem pbarOkK_succ (W H : Int) (cs is : List Int) (k : Nat) : pbarOkK W H cs is (k + 1) = (pbarOkK W H cs is k && pbarOk W H cs is k) := by simp [pbarOkK, List.range_succ, List.all_append]
theorem isBarP_false {W H : Int} {cs is : List Int} {k : Nat} (hk : k < is.length) (h : pbarOk W H cs is k = false) : isBarP W H cs is = false := by
  have : pbarOkK W H cs is is.length = false := by
    unfold pbarOkK; rw [List.all_eq_false]; exact ⟨k, by simpa using hk, by simp [h]⟩
  unfold isBarP; rw [this]; rfl
set_option maxHeartbeats 4000000 in
theorem pisBar_spec (W H : Int) (cs is : List Int) (hok : CO W H cs) (hl : is.length ≤ 300) (hin : ∀ k, k < is.length → 0 ≤ is.getD k 0 ∧ is.getD k 0 < W * H) :
    Spec Try.prog 80 [chV W H cs.length, V.c (.sl 2 is.length)] [⟨0, .ro 0, cs.map C.i⟩, ⟨2, .ro 0, is.map C.i⟩] 3 (Is (V.c (.bool (isBarP W H cs is)))) := by
  have hlm : (cs.map C.i).length = cs.length := by simp
  have hlm2 : (is.map C.i).length = is.length := by simp
  obtain ⟨hW, hH, hcn, hcost⟩ := hok
  have hn : W * H ≤ 100 := by have := Int.mul_le_mul hW.2 hH.2 (by omega) (by omega : (0:Int) ≤ 10); omega
  have hfo := follows_spec W H cs.length true is (by omega) (by omega) hl hin
  refine Spec.of tok Try.func80 rfl rfl rfl fun n0 cx => vc_ok tok ?_
  repeat ((conv => whnf); first | refine fun (K' : K3) hK' => ?_ | (refine hK' _ _ _ ?_; clear hK' K'))
  refine Tri.loop (γ := Nat) (fun k => k ≤ is.length ∧ pbarOkK W H cs is k = true) (fun k => [(1, V.c (.sl 2 is.length)), (2, V.c (.ptr 3 0)), (7, V.c (.sl 2 is.length)), (8, V.i is.length), (9, V.i (k : Nat))])
    (fun k => [⟨3, .own 65, [C.i W, C.i H, .sl 0 cs.length, .mp 1]⟩, ⟨2, .ro 0, is.map C.i⟩, ⟨0, .ro 0, cs.map C.i⟩]) 4 (fun k => is.length - k) 0 (R0 := []) ?_ ?_ ?_
  · exact ⟨by omega, rfl⟩
  · skip
    refine ⟨?_, ?_, rfl, rfl, by exact Nat.le_of_ble_eq_true rfl⟩
    · repeat (first | exact trivial | (refine And.intro (covS_syn (by rfl) rfl (by first | exact trivial | exact Nat.le_of_ble_eq_true rfl)) ?_))
    · repeat (first | exact trivial | (refine And.intro (covE_id (Nat.le_of_ble_eq_true rfl) (by first | exact wf_ints _ _ | simp [C.wf]) rfl (by rfl)) ?_))
  · rintro k ⟨hk, hokk⟩
    refine vc_ok tok ?_
    by_cases hlt : k < is.length
    · have hld := intL hlt
      have hi0 := hin k hlt
      have hno := fun h => isBarP_false (W := W) (H := H) (cs := cs) hlt h
      have hpk : pbarOk W H cs is k = !(!decide (cs.getD (is.getD k 0).toNat 0 ≠ 0) || ((decide (is.getD k 0 / W = 0) != decide ((k : Int) = 0)) || (decide (is.getD k 0 / W = H - 1) != decide ((k : Int) = (is.length : Int) - 1)))) := rfl
      obtain ⟨i, hi⟩ : ∃ i : Nat, (i : Int) = is.getD k 0 := ⟨(is.getD k 0).toNat, by omega⟩
      rw [← hi] at hld hi0 hpk
      rw [Int.toNat_natCast] at hpk
      have hho := holds_spec W H cs i (by omega)
      have hr0 := row_spec W H cs.length (i : Int) 0 (by omega) (by omega) (by omega)
      have hr1 := row_spec W H cs.length (i : Int) (H - 1) (by omega) (by omega) (by omega)
      obtain ⟨ci, hci⟩ : ∃ ci, ci = cs.getD i 0 := ⟨_, rfl⟩
      rw [← hci] at hho hpk
      by_cases g1 : ci ≠ 0
      · rw [dd_t g1, Bool.not_true, Bool.false_or] at hpk
        cases g2 : (decide ((i : Int) / W = 0) != decide ((k : Int) = 0)) with
        | true =>
          have hr := hno (by rw [hpk, g2]; rfl)
          repeat ((conv => whnf); first | (refine And.intro (by first | omega | (dsimp only [inK]; omega)) ?_) | with_reducible refine ld (hld) ?_ | refine Exists.intro _ (And.intro rfl ?_) | refine br_t (by omega) ?_ | refine fun (K' : K3) hK' => ?_ | (refine hK' _ _ _ ?_; clear hK' K') | refine CallK.val (R := []) hho (by kernel_rfl) rfl (by simp [V.wf, A.wf, C.wf]) ⟨roE_ints rfl (by omega) rfl (.inl rfl), trivial⟩ rfl rfl trivial ?_ | refine bs_bf (congrArg Bool.not (dd_t g1)) ?_ | refine CallK.val (R := []) hr0 (by kernel_rfl) rfl (by simp [V.wf, A.wf, C.wf]) trivial rfl rfl trivial ?_ | refine bs_bt g2 ?_ | refine CallK.m ?_)
          intro ρ; rw [hr]; rfl
        | false =>
          rw [g2, Bool.false_or] at hpk
          cases g3 : (decide ((i : Int) / W = H - 1) != decide ((k : Int) = (is.length : Int) - 1)) with
          | true =>
            have hr := hno (by rw [hpk, g3]; rfl)
            repeat ((conv => whnf); first | (refine And.intro (by first | omega | exact Nat.le_of_ble_eq_true rfl | (dsimp only [inK]; omega)) ?_) | with_reducible refine ld (hld) ?_ | refine Exists.intro _ (And.intro rfl ?_) | refine br_t (by omega) ?_ | refine fun (K' : K3) hK' => ?_ | (refine hK' _ _ _ ?_; clear hK' K') | refine CallK.val (R := []) hho (by kernel_rfl) rfl (by simp [V.wf, A.wf, C.wf]) ⟨roE_ints rfl (by omega) rfl (.inl rfl), trivial⟩ rfl rfl trivial ?_ | refine bs_bf (congrArg Bool.not (dd_t g1)) ?_ | refine CallK.val (R := []) hr0 (by kernel_rfl) rfl (by simp [V.wf, A.wf, C.wf]) trivial rfl rfl trivial ?_ | refine bs_bf g2 ?_ | refine CallK.val (R := []) hr1 (by kernel_rfl) rfl (by simp [V.wf, A.wf, C.wf]) trivial rfl rfl trivial ?_ | refine br_bt g3 ?_ | refine CallK.m ?_)
            intro ρ; rw [hr]; rfl
          | false =>
            have hgo : pbarOkK W H cs is (k + 1) = true := by rw [pbarOkK_succ, hokk, hpk, g3]; rfl
            repeat ((conv => whnf); first | (refine And.intro (by first | omega | exact Nat.le_of_ble_eq_true rfl | (dsimp only [inK]; omega)) ?_) | with_reducible refine ld (hld) ?_ | refine Exists.intro _ (And.intro rfl ?_) | refine br_t (by omega) ?_ | refine fun (K' : K3) hK' => ?_ | (refine hK' _ _ _ ?_; clear hK' K') | refine CallK.val (R := []) hho (by kernel_rfl) rfl (by simp [V.wf, A.wf, C.wf]) ⟨roE_ints rfl (by omega) rfl (.inl rfl), trivial⟩ rfl rfl trivial ?_ | refine bs_bf (congrArg Bool.not (dd_t g1)) ?_ | refine CallK.val (R := []) hr0 (by kernel_rfl) rfl (by simp [V.wf, A.wf, C.wf]) trivial rfl rfl trivial ?_ | refine bs_bf g2 ?_ | refine CallK.val (R := []) hr1 (by kernel_rfl) rfl (by simp [V.wf, A.wf, C.wf]) trivial rfl rfl trivial ?_ | refine br_bf g3 ?_ | refine CallK.m ?_)
            refine ⟨k + 1, [], ⟨by omega, hgo⟩, by omega, ?_⟩
            refine ⟨?_, ?_, rfl, rfl, by exact Nat.le_of_ble_eq_true rfl⟩
            · repeat (first | exact trivial | (refine And.intro (covS_syn (by rfl) rfl (by first | exact trivial | exact Nat.le_of_ble_eq_true rfl)) ?_))
            · repeat (first | exact trivial | (refine And.intro (covE_id (Nat.le_of_ble_eq_true rfl) (by first | exact wf_ints _ _ | simp [C.wf]) rfl (by rfl)) ?_))
      · have hr := hno (by rw [hpk, dd_f g1]; rfl)
        repeat ((conv => whnf); first | (refine And.intro (by first | omega | (dsimp only [inK]; omega)) ?_) | with_reducible refine ld (hld) ?_ | refine Exists.intro _ (And.intro rfl ?_) | refine br_t (by omega) ?_ | refine fun (K' : K3) hK' => ?_ | (refine hK' _ _ _ ?_; clear hK' K') | refine CallK.val (R := []) hho (by kernel_rfl) rfl (by simp [V.wf, A.wf, C.wf]) ⟨roE_ints rfl (by omega) rfl (.inl rfl), trivial⟩ rfl rfl trivial ?_ | refine bs_bt (congrArg Bool.not (dd_f g1)) ?_ | refine CallK.m ?_)
        intro ρ; rw [hr]; rfl
    · have hkl : k = is.length := by omega
      subst hkl
      repeat ((conv => whnf); first | refine Exists.intro _ (And.intro rfl ?_) | refine br_f (by omega) ?_ | refine fun (K' : K3) hK' => ?_ | (refine hK' _ _ _ ?_; clear hK' K') | refine CallK.den (vs := [chV W H cs.length, V.c (.sl 2 is.length), V.c (.bool true)]) (fun ρ => rfl) (by simp [V.wf, A.wf, C.wf]) (CallK.val (R := []) hfo (by kernel_rfl) rfl (by simp [V.wf, A.wf, C.wf]) ⟨roE_ints rfl (by omega) rfl (.inl rfl), trivial⟩ rfl rfl trivial ?_) | refine CallK.m ?_)
      intro ρ; rw [isBarP, hokk]; rfl
end Go.Proofs.Ytbhpnhcdjmcaoaa

/- Boom: IsBarrier, CostOf, Cheapest, Barrier. -/
namespace Go.Proofs.Ytbhpnhcdjmcaoaa
open Go.RowKit
set_option linter.unusedVariables false
set_option linter.unusedSimpArgs false
section
variable {P : Program} {n0 nx nac : Nat} {f : FuncId} {vs vs' : List V} {Lc L : List E} {R : Rn} {K : V → List E → Nat → Prop}
theorem CallK.lisT {W H : Int} {l : List Cell} (ho : listOkK W H l l.length = true) (spec : Spec P f vs Lc nac (fun v L' _ => lisR W H l v L')) (hok : callB P f = true)
    (hv : renVs R vs = some vs') (hvw : ∀ v ∈ vs, v.wf nac) (hL : roL R nac L Lc) (hLc : injB [] Lc = true)
    (hK : K (V.tup [A.c (.sl nx l.length), A.c (.bool (lenOk l))]) [⟨nx, .vec 3 1, (listI W H l).map C.i⟩] (nx + 1)) : CallK P n0 f vs' L nx K := by
  refine CallK.mk' hok spec hv hvw hL hLc ?_
  intro v L' nx' hw hq
  unfold lisR at hq
  rw [ho] at hq
  obtain ⟨lab, rfl, hf⟩ := hq
  refine ⟨V.tup [A.c (.sl nx l.length), A.c (.bool (lenOk l))], [⟨nx, .vec 3 1, (listI W H l).map C.i⟩], nx + 1, [(nx, some lab)], ⟨Nat.le_succ _, ?_, ?_, ⟨covE_some (renL_one _ _) (Nat.lt_succ_self nx) (wf_ints _ _) hf (ren_ints _ _), trivial⟩, rfl, ?_⟩, hK⟩
  · simp [V.ren, A.ren, C.ren, renL_one, seqO]
  · simp [V.chk, A.chk, C.chk, inLab_one]
  · simp only [List.all_cons, List.all_nil, Bool.and_true, inLab_one, Kd.isRo, Bool.not_false, Bool.true_and]
    exact chk_ints _ _
theorem CallK.lisF {W H : Int} {l : List Cell} (ho : listOkK W H l l.length = false) (spec : Spec P f vs Lc nac (fun v L' _ => lisR W H l v L')) (hok : callB P f = true)
    (hv : renVs R vs = some vs') (hvw : ∀ v ∈ vs, v.wf nac) (hL : roL R nac L Lc) (hLc : injB [] Lc = true)
    (hK : K (V.tup [A.c .nil, A.c .ff]) [] nx) : CallK P n0 f vs' L nx K := by
  refine CallK.mk' hok spec hv hvw hL hLc ?_
  intro v L' nx' hw hq
  unfold lisR at hq
  rw [ho] at hq
  have hq : v = V.tup [A.c .nil, A.c .ff] := hq
  subst hq
  exact ⟨V.tup [A.c .nil, A.c .ff], [], nx, [], ⟨Nat.le_refl _, rfl, rfl, trivial, rfl, rfl⟩, hK⟩
theorem CallK.cellsR {l : List Cell} (spec : Spec P f vs Lc nac (fun v L' _ => cellsX l v L')) (hok : callB P f = true)
    (hv : renVs R vs = some vs') (hvw : ∀ v ∈ vs, v.wf nac) (hL : roL R nac L Lc) (hLc : injB [] Lc = true)
    (hK : K (V.c (.sl nx l.length)) [⟨nx, .vec 57 2, cellC l⟩] (nx + 1)) : CallK P n0 f vs' L nx K := by
  refine CallK.mk' hok spec hv hvw hL hLc ?_
  rintro v L' nx' hw (⟨rfl, rfl⟩ | ⟨lab, rfl, hf⟩)
  · refine ⟨V.c (.sl nx 0), [⟨nx, .vec 57 2, []⟩], nx + 1, [(nx, none)], ⟨Nat.le_succ _, ?_, ?_, ⟨covE_nil (renL_one _ _) (Nat.lt_succ_self nx) rfl rfl, trivial⟩, rfl, ?_⟩, hK⟩
    · simp only [V.ren, A.ren, C.ren, renL_one]
    · simp only [V.chk, A.chk, C.chk]; exact inLab_one nx
    · simp only [List.all_cons, List.all_nil, Bool.and_true, inLab_one, Kd.isRo, Bool.not_false]
  · refine ⟨V.c (.sl nx l.length), [⟨nx, .vec 57 2, cellC l⟩], nx + 1, [(nx, some lab)], ⟨Nat.le_succ _, ?_, ?_, ⟨covE_some (renL_one _ _) (Nat.lt_succ_self nx) (wf_cells _ _) hf (ren_cells _ _), trivial⟩, rfl, ?_⟩, hK⟩
    · simp only [V.ren, A.ren, C.ren, renL_one]
    · simp only [V.chk, A.chk, C.chk]; exact inLab_one nx
    · simp only [List.all_cons, List.all_nil, Bool.and_true, inLab_one, Kd.isRo, Bool.not_false, Bool.true_and]
      exact chk_cells _ _
/-- Cells and an error. -/
def cellsE (l : List Cell) (Er : Int) (v : V) (L' : List E) : Prop :=
  ∃ o : C, v = V.tup [A.c o, A.c (C.i Er)] ∧ ((o = C.nil ∧ l = []) ∨ ∃ lab, o = C.sl lab l.length ∧ find L' lab = some ⟨lab, .vec 57 2, cellC l⟩)
theorem CallK.cellsE {l : List Cell} {Er : Int} (spec : Spec P f vs Lc nac (fun v L' _ => cellsE l Er v L')) (hok : callB P f = true)
    (hv : renVs R vs = some vs') (hvw : ∀ v ∈ vs, v.wf nac) (hL : roL R nac L Lc) (hLc : injB [] Lc = true)
    (hK : K (V.tup [A.c (.sl nx l.length), A.c (C.i Er)]) [⟨nx, .vec 57 2, cellC l⟩] (nx + 1)) : CallK P n0 f vs' L nx K := by
  refine CallK.mk' hok spec hv hvw hL hLc ?_
  rintro v L' nx' hw ⟨o, rfl, ⟨rfl, rfl⟩ | ⟨lab, rfl, hf⟩⟩
  · refine ⟨V.tup [A.c (.sl nx 0), A.c (C.i Er)], [⟨nx, .vec 57 2, []⟩], nx + 1, [(nx, none)], ⟨Nat.le_succ _, ?_, ?_, ⟨covE_nil (renL_one _ _) (Nat.lt_succ_self nx) rfl rfl, trivial⟩, rfl, ?_⟩, hK⟩
    · simp [V.ren, A.ren, C.ren, renL_one, C.i, seqO]
    · simp [V.chk, A.chk, C.chk, inLab_one, C.i]
    · simp only [List.all_cons, List.all_nil, Bool.and_true, inLab_one, Kd.isRo, Bool.not_false]
  · refine ⟨V.tup [A.c (.sl nx l.length), A.c (C.i Er)], [⟨nx, .vec 57 2, cellC l⟩], nx + 1, [(nx, some lab)], ⟨Nat.le_succ _, ?_, ?_, ⟨covE_some (renL_one _ _) (Nat.lt_succ_self nx) (wf_cells _ _) hf (ren_cells _ _), trivial⟩, rfl, ?_⟩, hK⟩
    · simp [V.ren, A.ren, C.ren, renL_one, C.i, seqO]
    · simp [V.chk, A.chk, C.chk, inLab_one, C.i]
    · simp only [List.all_cons, List.all_nil, Bool.and_true, inLab_one, Kd.isRo, Bool.not_false, Bool.true_and]
      exact chk_cells _ _
end
theorem listI_len (W H : Int) (l : List Cell) : (listI W H l).length = l.length := by simp [listI]
theorem listI_get {W H : Int} {l : List Cell} {k : Nat} (h : k < l.length) : (listI W H l).getD k 0 = idxC W H (l.getD k cz) := by
  simp [listI, List.getD_eq_getElem?_getD, h]
theorem listOk_in {W H : Int} {l : List Cell} (hW : 0 < W) (ho : listOkK W H l l.length = true) : ∀ k, k < (listI W H l).length → 0 ≤ (listI W H l).getD k 0 ∧ (listI W H l).getD k 0 < W * H := fun k hk => by
  rw [listI_len] at hk
  rw [listI_get hk]
  have h1 := List.all_eq_true.1 ho k (by simpa using hk)
  unfold listOk at h1
  simp only [Bool.not_eq_true', Bool.or_eq_false_iff, decide_eq_false_iff_not] at h1
  have h2 : idxC W H (l.getD k cz) ≥ 0 := by have := h1.1; omega
  exact ⟨h2, (idxI_lt hW h2).1⟩
/-- A list is a barrier, as the program finds it. -/
def pIsBar (W H : Int) (cs : List Int) (l : List Cell) : Bool := listOkK W H l l.length && (lenOk l && isBarP W H cs (listI W H l))
def psumK (cs is : List Int) (k : Nat) : Int := ((is.take k).map (cstI cs)).sum
def psum (cs is : List Int) : Int := psumK cs is is.length
theorem psumK_succ {cs is : List Int} {k : Nat} (h : k < is.length) : psumK cs is (k + 1) = psumK cs is k + cstI cs (is.getD k 0) := by
  unfold psumK
  rw [List.take_add_one, show is[k]?.toList = [is.getD k 0] by rw [List.getElem?_eq_getElem h, List.getD_eq_getElem?_getD, List.getElem?_eq_getElem h]; rfl]
  simp
set_option maxHeartbeats 4000000 in
theorem costOf_spec (W H : Int) (cs : List Int) (l : List Cell) (hl : cs.length ≤ 300) (hc : l.length ≤ 300) :
    Spec Try.prog 39 [chR W H cs.length, V.c (.sl 1 l.length)] [⟨0, .ro 0, cs.map C.i⟩, ⟨1, .ro 2, cellC l⟩] 2 (Is (if okC W H cs then (if pIsBar W H cs l then V.tup [A.c (C.i (psum cs (listI W H l))), A.c (C.i 0)] else V.tup [A.c (C.i 0), A.c (C.i 5)]) else V.tup [A.c (C.i 0), A.c (C.i 30)])) := by
  refine Spec.of tok Try.func39 rfl rfl rfl fun n0 cx => vc_ok tok ?_
  cases hv : okC W H cs with
  | false =>
    repeat ((conv => whnf); first | (refine And.intro (by first | omega | exact Nat.le_of_ble_eq_true rfl) ?_) | refine Exists.intro _ (And.intro rfl ?_) | refine br_t (by omega) ?_ | refine fun (K' : K3) hK' => ?_ | (refine hK' _ _ _ ?_; clear hK' K') | refine CallK.newNo (a := 0) (bs := []) (R := [(1, none)]) 30 hl (by simp) (.inl ⟨hv, rfl⟩) rfl rfl (roNil rfl) ?_ | refine CallK.m ?_)
    intro ρ; rfl
  | true =>
    have hok := okC_iff.1 hv
    have hW := hok.w
    have hH := hok.h
    have hli := listed_spec W H cs.length l (by omega) (by omega) hc
    cases hlo : listOkK W H l l.length with
    | false =>
      have hr : pIsBar W H cs l = false := by unfold pIsBar; rw [hlo]; rfl
      rw [hr]
      repeat ((conv => whnf); first | (refine And.intro (by first | omega | exact Nat.le_of_ble_eq_true rfl) ?_) | refine Exists.intro _ (And.intro rfl ?_) | refine br_f (by omega) ?_ | refine fun (K' : K3) hK' => ?_ | (refine hK' _ _ _ ?_; clear hK' K') | refine CallK.newOk (a := 0) (bs := []) (R := [(1, none)]) hl (by simp) hv (okB_nil _ _ _) rfl rfl (by omega) (roNil rfl) ?_ | refine CallK.lisF (R := [(1, some 3), (2, some 1)]) hlo hli (by kernel_rfl) rfl (by simp [V.wf, A.wf, C.wf]) ⟨roE_cells rfl (by omega) rfl (.inr rfl), trivial⟩ rfl ?_ | refine CallK.m ?_)
      intro ρ; rfl
    | true =>
      have hin := listOk_in (show 0 < W by omega) hlo
      have hib := pisBar_spec W H cs (listI W H l) hok (by rw [listI_len]; exact hc) hin
      rw [listI_len] at hib
      have hr : pIsBar W H cs l = (lenOk l && isBarP W H cs (listI W H l)) := by unfold pIsBar; rw [hlo]; rfl
      rw [hr]
      cases hle : lenOk l with
      | false =>
        repeat ((conv => whnf); first | (refine And.intro (by first | omega | exact Nat.le_of_ble_eq_true rfl) ?_) | refine Exists.intro _ (And.intro rfl ?_) | refine br_f (by omega) ?_ | refine fun (K' : K3) hK' => ?_ | (refine hK' _ _ _ ?_; clear hK' K') | refine CallK.newOk (a := 0) (bs := []) (R := [(1, none)]) hl (by simp) hv (okB_nil _ _ _) rfl rfl (by omega) (roNil rfl) ?_ | refine CallK.lisT (R := [(1, some 3), (2, some 1)]) hlo hli (by kernel_rfl) rfl (by simp [V.wf, A.wf, C.wf]) ⟨roE_cells rfl (by omega) rfl (.inr rfl), trivial⟩ rfl ?_ | refine bs_bt (congrArg Bool.not hle) ?_ | refine CallK.m ?_)
        intro ρ; rfl
      | true =>
        cases hbp : isBarP W H cs (listI W H l) with
        | false =>
          repeat ((conv => whnf); first | (refine And.intro (by first | omega | exact Nat.le_of_ble_eq_true rfl) ?_) | refine Exists.intro _ (And.intro rfl ?_) | refine br_f (by omega) ?_ | refine fun (K' : K3) hK' => ?_ | (refine hK' _ _ _ ?_; clear hK' K') | refine CallK.newOk (a := 0) (bs := []) (R := [(1, none)]) hl (by simp) hv (okB_nil _ _ _) rfl rfl (by omega) (roNil rfl) ?_ | refine CallK.lisT (R := [(1, some 3), (2, some 1)]) hlo hli (by kernel_rfl) rfl (by simp [V.wf, A.wf, C.wf]) ⟨roE_cells rfl (by omega) rfl (.inr rfl), trivial⟩ rfl ?_ | refine bs_bf (congrArg Bool.not hle) ?_ | refine CallK.val (R := [(1, some 3), (2, some 5)]) hib (by kernel_rfl) rfl (by simp [V.wf, A.wf, C.wf]) ⟨roE_ints (l := 0) rfl (by omega) rfl (.inl rfl), roE_ints (l := 5) rfl (by omega) rfl (.inl rfl), trivial⟩ rfl rfl trivial ?_ | refine br_bt (congrArg Bool.not hbp) ?_ | refine CallK.m ?_)
          intro ρ; rfl
        | true =>
          have hn : W * H ≤ 100 := by have := Int.mul_le_mul hW.2 hH.2 (by omega) (by omega : (0:Int) ≤ 10); omega
          have hcn := hok.len
          have hcb := cst_bd hok.cost
          obtain ⟨is, his⟩ : ∃ is, is = listI W H l := ⟨_, rfl⟩
          have hlis : is.length = l.length := by rw [his, listI_len]
          rw [← his] at hin
          repeat ((conv => whnf); first | (refine And.intro (by first | omega | exact Nat.le_of_ble_eq_true rfl) ?_) | refine Exists.intro _ (And.intro rfl ?_) | refine br_f (by omega) ?_ | refine fun (K' : K3) hK' => ?_ | (refine hK' _ _ _ ?_; clear hK' K') | refine CallK.newOk (a := 0) (bs := []) (R := [(1, none)]) hl (by simp) hv (okB_nil _ _ _) rfl rfl (by omega) (roNil rfl) ?_ | refine CallK.lisT (R := [(1, some 3), (2, some 1)]) hlo hli (by kernel_rfl) rfl (by simp [V.wf, A.wf, C.wf]) ⟨roE_cells rfl (by omega) rfl (.inr rfl), trivial⟩ rfl ?_ | refine bs_bf (congrArg Bool.not hle) ?_ | refine CallK.val (R := [(1, some 3), (2, some 5)]) hib (by kernel_rfl) rfl (by simp [V.wf, A.wf, C.wf]) ⟨roE_ints (l := 0) rfl (by omega) rfl (.inl rfl), roE_ints (l := 5) rfl (by omega) rfl (.inl rfl), trivial⟩ rfl rfl trivial ?_ | refine br_bf (congrArg Bool.not hbp) ?_ | refine CallK.m ?_)
          rw [← his]
          clear hib hli his hbp hle hlo
          refine Tri.loop (γ := Nat) (fun k => k ≤ is.length ∧ 0 ≤ psumK cs is k ∧ psumK cs is k ≤ 100 * k) (fun k => [(6, V.c (.ptr 4 0)), (10, V.i (psumK cs is k)), (35, V.c (.sl 5 l.length)), (36, V.i l.length), (37, V.i (k : Nat))])
            (fun k => [⟨5, .vec 3 1, is.map C.i⟩, ⟨4, .own 65, [C.i W, C.i H, .sl 0 cs.length, .mp 3]⟩, ⟨0, .ro 0, cs.map C.i⟩]) 6 (fun k => is.length - k) 0 (R0 := []) ?_ ?_ ?_
          · exact ⟨by omega, by simp [psumK], by simp [psumK]⟩
          · skip
            refine ⟨?_, ?_, rfl, rfl, by exact Nat.le_of_ble_eq_true rfl⟩
            · repeat (first | exact trivial | (refine And.intro (covS_syn (by rfl) rfl (by first | exact trivial | exact Nat.le_of_ble_eq_true rfl)) ?_))
            · repeat (first | exact trivial | (refine And.intro (covE_id (Nat.le_of_ble_eq_true rfl) (by first | exact wf_ints _ _ | simp [C.wf]) rfl (by rfl)) ?_))
          · rintro k ⟨hk, hs0, hs1⟩
            refine vc_ok tok ?_
            by_cases hlt : k < is.length
            · have hld := intL hlt
              have hi0 := hin k hlt
              have hsu := psumK_succ (cs := cs) hlt
              obtain ⟨i, hi⟩ : ∃ i : Nat, (i : Int) = is.getD k 0 := ⟨(is.getD k 0).toNat, by omega⟩
              rw [← hi] at hld hi0 hsu
              have hc' := cost_spec W H cs i (by omega)
              have hck : cstI cs (i : Int) = if cs.getD i 0 > 0 then cs.getD i 0 else 0 := by simp [cstI]
              have hci := hcb (i : Int)
              rw [← hck] at hc'
              obtain ⟨ci, hcie⟩ : ∃ ci, ci = cstI cs (i : Int) := ⟨_, rfl⟩
              rw [← hcie] at hc' hci hsu
              repeat ((conv => whnf); first | (refine And.intro (by first | omega | (dsimp only [inK]; omega) | (simp only [setL_length, List.length_map]; omega)) ?_) | with_reducible refine ld (hld) ?_ | refine Exists.intro _ (And.intro rfl ?_) | refine br_t (by omega) ?_ | refine fun (K' : K3) hK' => ?_ | (refine hK' _ _ _ ?_; clear hK' K') | refine CallK.val (R := [(1, some 3)]) hc' (by kernel_rfl) rfl (by simp [V.wf, A.wf, C.wf]) ⟨roE_ints (l := 0) rfl (by omega) rfl (.inl rfl), trivial⟩ rfl rfl trivial ?_ | refine CallK.m ?_)
              refine ⟨k + 1, [], ⟨by omega, by omega, by omega⟩, by omega, ?_⟩
              refine ⟨?_, ?_, rfl, rfl, by exact Nat.le_of_ble_eq_true rfl⟩
              · repeat (first | exact trivial | (refine And.intro (covS_syn (by first | rfl | (refine congrArg some (congrArg V.i ?_); omega)) rfl (by first | exact trivial | exact Nat.le_of_ble_eq_true rfl)) ?_))
              · repeat (first | exact trivial | (refine And.intro (covE_id (Nat.le_of_ble_eq_true rfl) (by first | exact wf_ints _ _ | simp [C.wf]) rfl (by rfl)) ?_))
            · have hkl : k = is.length := by omega
              subst hkl
              repeat ((conv => whnf); first | refine br_f (by omega) ?_ | refine fun (K' : K3) hK' => ?_ | (refine hK' _ _ _ ?_; clear hK' K'))
              intro ρ; rfl
end Go.Proofs.Ytbhpnhcdjmcaoaa

