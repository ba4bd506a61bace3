/- Texts of the proof, part 4: C3, R1, B9c, O1, L0, R2, P4, P7, H1, B4, R3, R4, R5, B8, B9, P5, KA, P6, P9, P16, P8, P14, X1, R6, X2, P15, X3, D1, D2, D3, X4, X5. -/
import Derived.Test.YtbhpnhcdjmcaoaaJ3
import Derived.WalkKit
import Derived.Below
import Derived.Laws.OwnMore
import Derived.Maps.AppendAt
import Derived.Laws.IdiomCopy
import Derived.Laws.CopyRow
import Derived.IntWalk
import Derived.StillTail
import Derived.Scope
import Derived.ChangeKeysEq
import Derived.Laws.Small
import Derived.OrdersIn
import Derived.TacticsIn
import Derived.OwnWalkIn
import Derived.RangeFuncNested
import Derived.RangeFuncLeaves
import Derived.RangeFuncRecord
import Derived.Maps.Keyed
import Derived.Maps.RangeRun
import Derived.DeepKeys4
import Derived.Test.YtbhpnhcdjmcaoaaRows
import Derived.KernelRfl
import Derived.ProofKit
import Derived.OpenShut
import Derived.Lib.SmallJoins
import Derived.Deep.Slices
/- Boom: callers of newChart. -/
namespace Go.Proofs.Ytbhpnhcdjmcaoaa
open Go.RowKit
set_option linter.unusedVariables false
set_option linter.unusedSimpArgs false
@[reducible] def zeroC : List C := [C.i 0, C.i 0, .nil, .v (.map none)]
/-- A new chart that comes about: its costs lie where the chart's lie. -/
theorem CallK.newOk {n0 nx a : Nat} {L : List E} {W H : Int} {cs : List Int} {bs : List Cell} {R : Rn} {vb : V} {K : V → List E → Nat → Prop} (hl : cs.length ≤ 300) (hb : bs.length ≤ 300) (ho : okC W H cs = true) (hB : okB W H cs bs = true)
    (hR0 : renL R 0 = some a) (hvb : (V.c (.sl 1 bs.length)).ren R = some vb) (ha : a < nx) (hL : roL R 2 L [⟨0, .ro 0, cs.map C.i⟩, ⟨1, .ro 0, cellC bs⟩])
    (hK : K (V.tup [A.agg [C.i W, C.i H, .sl a cs.length, .mp nx], A.c (C.i 0)]) [⟨nx, .mp true .int (bmF (boomF W H bs)), []⟩] (nx + 1)) : CallK Try.prog n0 57 [V.agg [C.i W, C.i H, .sl a cs.length], vb] L nx K := by
  have hins : ∀ q ∈ [(a, 0)], q.2 < 2 ∧ renL R q.2 = some q.1 ∧ q.1 < nx := fun q hq => by
    rw [List.mem_singleton.1 hq]; exact ⟨by show 0 < 2; omega, hR0, ha⟩
  refine CallK.mkIn (R := R) (by kernel_rfl) (newChart_spec W H cs bs hl hb) (vs' := [V.agg [C.i W, C.i H, .sl a cs.length], vb]) ?_ (by simp [V.wf, A.wf, C.wf]) hL (by rfl) [(a, 0)] hins ?_
  · have h1 : (V.agg [C.i W, C.i H, C.sl 0 cs.length]).ren R = some (V.agg [C.i W, C.i H, .sl a cs.length]) := by simp [V.ren, A.ren, C.ren, C.i, seqO, hR0]
    simp only [renVs, List.map_cons, List.map_nil, h1, hvb, seqO]
  · intro v L' nx' hw hq
    unfold newR at hq
    rw [ho, hB] at hq
    obtain ⟨l, rfl, hf⟩ := hq
    have hne : Nat.beq nx a = false := by
      cases hb : Nat.beq nx a with
      | false => rfl
      | true => have := Nat.eq_of_beq_eq_true hb; omega
    have hr1 : renL [(nx, some l), (a, some 0)] nx = some l := by simp [renL]
    have hr2 : renL [(nx, some l), (a, some 0)] a = some 0 := by simp [renL, hne]
    refine ⟨V.tup [A.agg [C.i W, C.i H, .sl a cs.length, .mp nx], A.c (C.i 0)], [⟨nx, .mp true .int (bmF (boomF W H bs)), []⟩], nx + 1, [(nx, some l), (a, some 0)], ⟨Nat.le_succ _, ?_, ?_, ⟨covE_mp hr1 (Nat.lt_succ_self nx) hf rfl, trivial⟩, rfl, ?_, fun q hq => by rw [List.mem_singleton.1 hq]; exact hr2⟩, hK⟩
    · simp [V.ren, A.ren, C.ren, C.i, seqO, hr1, hr2]
    · simp [V.chk, A.chk, C.chk, C.i, inOr, inLab_one]
    · simp [inLab_one, Kd.isRo]
/-- A new chart that does not. -/
theorem CallK.newNo {n0 nx a : Nat} {L : List E} {W H : Int} {cs : List Int} {bs : List Cell} {R : Rn} {vb : V} {K : V → List E → Nat → Prop} (Er : Int) (hl : cs.length ≤ 300) (hb : bs.length ≤ 300) (ho : (okC W H cs = false ∧ Er = 30) ∨ (okC W H cs = true ∧ okB W H cs bs = false ∧ Er = 2))
    (hR0 : renL R 0 = some a) (hvb : (V.c (.sl 1 bs.length)).ren R = some vb) (hL : roL R 2 L [⟨0, .ro 0, cs.map C.i⟩, ⟨1, .ro 0, cellC bs⟩])
    (hK : K (V.tup [A.agg zeroC, A.c (C.i Er)]) [] nx) : CallK Try.prog n0 57 [V.agg [C.i W, C.i H, .sl a cs.length], vb] L nx K := by
  refine CallK.mk' (R := R) (by kernel_rfl) (newChart_spec W H cs bs hl hb) (vs' := [V.agg [C.i W, C.i H, .sl a cs.length], vb]) ?_ (by simp [V.wf, A.wf, C.wf]) hL (by rfl) ?_
  · have h1 : (V.agg [C.i W, C.i H, C.sl 0 cs.length]).ren R = some (V.agg [C.i W, C.i H, .sl a cs.length]) := by simp [V.ren, A.ren, C.ren, C.i, seqO, hR0]
    simp only [renVs, List.map_cons, List.map_nil, h1, hvb, seqO]
  · intro v L' nx' hw hq
    have hv : v = V.tup [A.agg zeroC, A.c (C.i Er)] := by
      unfold newR at hq
      rcases ho with ⟨h1, rfl⟩ | ⟨h1, h2, rfl⟩
      · rw [h1] at hq; exact hq
      · rw [h1, h2] at hq; exact hq
    subst hv
    refine ⟨V.tup [A.agg zeroC, A.c (C.i Er)], [], nx, [], ⟨Nat.le_refl _, ?_, ?_, trivial, rfl, ?_⟩, hK⟩
    · simp [V.ren, A.ren, C.ren, C.i, seqO]
    · simp [V.chk, A.chk, C.chk, C.i]
    · rfl
theorem okB_nil (W H : Int) (cs : List Int) : okB W H cs [] = true := rfl
/-- Without booms. -/
theorem roNil {L : List E} {k : Kd} {cs : List Int} (h : find L 0 = some ⟨0, k, cs.map C.i⟩) : roL [(1, none)] 2 L [⟨0, .ro 0, cs.map C.i⟩, ⟨1, .ro 0, cellC []⟩] :=
  ⟨roE_ints (l := 0) rfl (by omega) h (.inl rfl), roE_none rfl (by omega), trivial⟩
end Go.Proofs.Ytbhpnhcdjmcaoaa

/- Boom, the reference: small functions; neighbours. -/
namespace Go.Proofs.Ytbhpnhcdjmcaoaa
open Go.RowKit
set_option linter.unusedVariables false
set_option linter.unusedSimpArgs false
/-- A chart as the reference's functions take it. -/
@[reducible] def chR (W H : Int) (n : Nat) : V := V.agg [C.i W, C.i H, C.sl 0 n]
def mx (a b : Int) : Int := if b > a then b else a
set_option maxHeartbeats 2000000 in
theorem rvalid_spec (W H : Int) (cs : List Int) (hl : cs.length ≤ 300) : Spec Try.prog 35 [chR W H cs.length] [⟨0, .ro 0, cs.map C.i⟩] 1 (Is (V.c (.bool (okC W H cs)))) := by
  have hlm : (cs.map C.i).length = cs.length := by simp
  refine Spec.of tok Try.func35 rfl rfl rfl fun n0 cx => vc_ok tok ?_
  have hno : (¬ (1 ≤ W ∧ W ≤ 10) ∨ ¬ (1 ≤ H ∧ H ≤ 10) ∨ ¬ (cs.length : Int) = W * H) → okC W H cs = false := fun h => by
    rcases h with h | h | h
    · simp only [okC, dd_f h]; simp
    · simp only [okC, dd_f h]; simp
    · simp only [okC, dd_f h]; simp
  by_cases h1 : W < 1
  · have hf := hno (.inl (by omega))
    repeat ((conv => whnf); first | (refine And.intro (by first | omega | exact Nat.le_of_ble_eq_true rfl) ?_) | refine Exists.intro _ (And.intro rfl ?_) | refine bs_t (by omega) ?_ | refine fun (K' : K3) hK' => ?_ | (refine hK' _ _ _ ?_; clear hK' K'))
    intro ρ; rw [hf]; rfl
  · by_cases h2 : W > 10
    · have hf := hno (.inl (by omega))
      repeat ((conv => whnf); first | (refine And.intro (by first | omega | exact Nat.le_of_ble_eq_true rfl) ?_) | refine Exists.intro _ (And.intro rfl ?_) | refine bs_t (by omega) ?_ | refine bs_f (by omega) ?_ | refine fun (K' : K3) hK' => ?_ | (refine hK' _ _ _ ?_; clear hK' K'))
      intro ρ; rw [hf]; rfl
    · by_cases h3 : H < 1
      · have hf := hno (.inr (.inl (by omega)))
        repeat ((conv => whnf); first | (refine And.intro (by first | omega | exact Nat.le_of_ble_eq_true rfl) ?_) | refine Exists.intro _ (And.intro rfl ?_) | refine bs_t (by omega) ?_ | refine bs_f (by omega) ?_ | refine fun (K' : K3) hK' => ?_ | (refine hK' _ _ _ ?_; clear hK' K'))
        intro ρ; rw [hf]; rfl
      · by_cases h4 : H > 10
        · have hf := hno (.inr (.inl (by omega)))
          repeat ((conv => whnf); first | (refine And.intro (by first | omega | exact Nat.le_of_ble_eq_true rfl) ?_) | refine Exists.intro _ (And.intro rfl ?_) | refine bs_t (by omega) ?_ | refine bs_f (by omega) ?_ | refine fun (K' : K3) hK' => ?_ | (refine hK' _ _ _ ?_; clear hK' K'))
          intro ρ; rw [hf]; rfl
        · have hm : W * H ≤ 10 * 10 := Int.mul_le_mul (by omega) (by omega) (by omega) (by omega)
          have hm0 : 0 ≤ W * H := Int.mul_nonneg (by omega) (by omega)
          by_cases h5 : ¬ (cs.length : Int) = W * H
          · have hf := hno (.inr (.inr h5))
            repeat ((conv => whnf); first | (refine And.intro (by first | omega | exact Nat.le_of_ble_eq_true rfl | (dsimp only [inK]; omega)) ?_) | refine Exists.intro _ (And.intro rfl ?_) | refine br_t (by omega) ?_ | refine bs_f (by omega) ?_ | refine fun (K' : K3) hK' => ?_ | (refine hK' _ _ _ ?_; clear hK' K'))
            intro ρ; rw [hf]; rfl
          · have h5' : (cs.length : Int) = W * H := Classical.byContradiction h5
            repeat ((conv => whnf); first | (refine And.intro (by first | omega | exact Nat.le_of_ble_eq_true rfl | (dsimp only [inK]; omega)) ?_) | refine Exists.intro _ (And.intro rfl ?_) | refine br_f (by omega) ?_ | refine bs_f (by omega) ?_ | refine fun (K' : K3) hK' => ?_ | (refine hK' _ _ _ ?_; clear hK' K'))
            refine Tri.loop (γ := Nat) (fun k => k ≤ cs.length ∧ ∀ j, j < k → -1 ≤ cs.getD j 0 ∧ cs.getD j 0 ≤ 100) (fun k => [(2, V.c .ff), (35, V.c (.sl 0 cs.length)), (36, V.i cs.length), (37, V.i (k : Nat))]) (fun k => [⟨0, .ro 0, cs.map C.i⟩]) 2 (fun k => cs.length - k) 0 (R0 := []) ?_ ?_ ?_
            · exact ⟨by omega, fun j hj => by omega⟩
            · skip
              refine ⟨?_, ?_, rfl, rfl, by exact Nat.le_of_ble_eq_true rfl⟩
              · repeat (first | exact trivial | (refine And.intro (covS_syn (by rfl) rfl (by first | exact trivial | exact Nat.le_of_ble_eq_true rfl)) ?_))
              · repeat (first | exact trivial | refine And.intro (covE_id (Nat.le_of_ble_eq_true rfl) (by exact wf_ints _ _) rfl (by rfl)) ?_)
            · rintro k ⟨hk, hall⟩
              refine vc_ok tok ?_
              by_cases hlt : k < cs.length
              · have hmem : cs.getD k 0 ∈ cs := by rw [List.getD_eq_getElem?_getD, List.getElem?_eq_getElem hlt]; exact List.getElem_mem hlt
                have hld := intL hlt
                have hbad : ¬ (-1 ≤ cs.getD k 0 ∧ cs.getD k 0 ≤ 100) → okC W H cs = false := fun h => by
                  cases hh : okC W H cs with
                  | false => rfl
                  | true => exact absurd ((okC_iff.1 hh).cost _ hmem) h
                obtain ⟨ck, hck⟩ : ∃ ck, ck = cs.getD k 0 := ⟨_, rfl⟩
                rw [← hck] at hld hbad
                by_cases g1 : ck < -1
                · have hf := hbad (by omega)
                  repeat ((conv => whnf); first | (refine And.intro (by first | omega | (dsimp only [inK]; omega)) ?_) | with_reducible refine ld (hld) ?_ | refine br_t (by omega) ?_ | refine bs_t (by omega) ?_ | refine fun (K' : K3) hK' => ?_ | (refine hK' _ _ _ ?_; clear hK' K'))
                  intro ρ; rw [hf]; rfl
                · by_cases g2 : ck > 100
                  · have hf := hbad (by omega)
                    repeat ((conv => whnf); first | (refine And.intro (by first | omega | (dsimp only [inK]; omega)) ?_) | with_reducible refine ld (hld) ?_ | refine br_t (by omega) ?_ | refine bs_f (by omega) ?_ | refine fun (K' : K3) hK' => ?_ | (refine hK' _ _ _ ?_; clear hK' K'))
                    intro ρ; rw [hf]; rfl
                  · repeat ((conv => whnf); first | (refine And.intro (by first | omega | (dsimp only [inK]; omega)) ?_) | with_reducible refine ld (hld) ?_ | refine br_t (by omega) ?_ | refine br_f (by omega) ?_ | refine bs_f (by omega) ?_ | refine fun (K' : K3) hK' => ?_ | (refine hK' _ _ _ ?_; clear hK' K'))
                    refine ⟨k + 1, [], ⟨by omega, fun j hj => ?_⟩, by omega, ?_⟩
                    · by_cases hjk : j = k
                      · rw [hjk, ← hck]; omega
                      · exact hall j (by omega)
                    · skip
                      refine ⟨?_, ?_, rfl, rfl, by exact Nat.le_of_ble_eq_true rfl⟩
                      · repeat (first | exact trivial | (refine And.intro (covS_syn (by rfl) rfl (by first | exact trivial | exact Nat.le_of_ble_eq_true rfl)) ?_))
                      · repeat (first | exact trivial | refine And.intro (covE_id (Nat.le_of_ble_eq_true rfl) (by exact wf_ints _ _) rfl (by rfl)) ?_)
              · have hkl : k = cs.length := by omega
                have ht : okC W H cs = true := okC_iff.2 ⟨by omega, by omega, h5', fun x hx => by
                  obtain ⟨j, hj, rfl⟩ := List.mem_iff_getElem.1 hx
                  have := hall j (by omega)
                  rwa [List.getD_eq_getElem?_getD, List.getElem?_eq_getElem hj] at this⟩
                repeat ((conv => whnf); first | refine br_f (by omega) ?_ | refine fun (K' : K3) hK' => ?_ | (refine hK' _ _ _ ?_; clear hK' K'))
                intro ρ; rw [ht]; rfl
/-- Better, as the reference has it. -/
def betW (a b : Way) : Bool := if a.2 = 0 ∨ b.2 = 0 then decide (a.2 > 0) else lessW a b
theorem at_spec (W H : Int) (n : Nat) (i : Int) (hW : 0 < W) (hi : 0 ≤ i ∧ i ≤ 1000) : Spec Try.prog 62 [chR W H n, V.i i] [] 1 (Is (V.agg [C.i (i % W), C.i (i / W)])) := by
  have h1 : 0 ≤ i / W := Int.ediv_nonneg hi.1 (by omega)
  have h2 : i / W ≤ i := Int.ediv_le_self _ hi.1
  refine Spec.of tok Try.func62 rfl rfl rfl fun n0 cx => vc_ok tok ?_
  repeat ((conv => whnf); first | (refine And.intro (by first | omega | exact Nat.le_of_ble_eq_true rfl | (dsimp only [inK]; omega)) ?_) | refine Exists.intro _ (And.intro rfl ?_) | refine fun (K' : K3) hK' => ?_ | (refine hK' _ _ _ ?_; clear hK' K') | refine draw_auto tok mixed (by kernel_rfl) ?_)
  intro ρ; rfl
def onB (W H x y : Int) : Bool := decide (x ≥ 0) && (decide (x < W) && (decide (y ≥ 0) && decide (y < H)))
theorem apart_spec (x y u v : Int) (hx : -1000 ≤ x ∧ x ≤ 1000) (hy : -1000 ≤ y ∧ y ≤ 1000) (hu : -1000 ≤ u ∧ u ≤ 1000) (hv : -1000 ≤ v ∧ v ≤ 1000) : Spec Try.prog 112 [V.agg [C.i x, C.i y], V.agg [C.i u, C.i v]] [] 0 (Is (V.tup [A.c (C.i (mx (x - u) (u - x))), A.c (C.i (mx (y - v) (v - y)))])) := by
  refine Spec.of tok Try.func112 rfl rfl rfl fun n0 cx => vc_ok tok ?_
  repeat ((conv => whnf); first | (refine And.intro (by first | omega | exact Nat.le_of_ble_eq_true rfl | (dsimp only [inK]; omega)) ?_) | refine Exists.intro _ (And.intro rfl ?_) | refine fun (K' : K3) hK' => ?_ | (refine hK' _ _ _ ?_; clear hK' K') | refine draw_auto tok mixed (by kernel_rfl) ?_)
  intro ρ; rfl
def fourB (x y u v : Int) : Bool := decide (mx (x - u) (u - x) + mx (y - v) (v - y) = 1)
def eightB (x y u v : Int) : Bool := decide (mx (mx (x - u) (u - x)) (mx (y - v) (v - y)) = 1)
end Go.Proofs.Ytbhpnhcdjmcaoaa

/- Boom: Cheapest. -/
namespace Go.Proofs.Ytbhpnhcdjmcaoaa
open Go.RowKit
set_option linter.unusedVariables false
set_option linter.unusedSimpArgs false
section
variable {P : Program} {n0 nx nac : Nat} {f : FuncId} {vs vs' : List V} {Lc L : List E} {R : Rn} {K : V → List E → Nat → Prop}
theorem CallK.barN {o : Option (List Int × Way)} (ho : o = none) (spec : Spec P f vs Lc nac (fun v L' _ => barR o v L')) (hok : callB P f = true)
    (hv : renVs R vs = some vs') (hvw : ∀ v ∈ vs, v.wf nac) (hL : roL R nac L Lc) (hLc : injB [] Lc = true)
    (hK : K (V.tup [A.c .nil, A.agg [C.i 0, C.i 0], A.c .ff]) [] nx) : CallK P n0 f vs' L nx K := by
  refine CallK.mk' hok spec hv hvw hL hLc ?_
  intro v L' nx' hw hq
  subst ho
  have hq : v = V.tup [A.c .nil, A.agg [C.i 0, C.i 0], A.c .ff] := hq
  subst hq
  exact ⟨V.tup [A.c .nil, A.agg [C.i 0, C.i 0], A.c .ff], [], nx, [], ⟨Nat.le_refl _, rfl, rfl, trivial, rfl, rfl⟩, hK⟩
theorem CallK.barS {o : Option (List Int × Way)} {l : List Int} {w : Way} (ho : o = some (l, w)) (spec : Spec P f vs Lc nac (fun v L' _ => barR o v L')) (hok : callB P f = true)
    (hv : renVs R vs = some vs') (hvw : ∀ v ∈ vs, v.wf nac) (hL : roL R nac L Lc) (hLc : injB [] Lc = true)
    (hK : K (V.tup [A.c (.sl nx l.length), A.agg [C.i w.1, C.i w.2], A.c .tt]) [⟨nx, .vec 3 1, l.map C.i⟩] (nx + 1)) : CallK P n0 f vs' L nx K := by
  refine CallK.mk' hok spec hv hvw hL hLc ?_
  intro v L' nx' hw hq
  subst ho
  obtain ⟨lab, rfl, hf⟩ := hq
  refine ⟨V.tup [A.c (.sl nx l.length), A.agg [C.i w.1, C.i w.2], A.c .tt], [⟨nx, .vec 3 1, l.map C.i⟩], nx + 1, [(nx, some lab)], ⟨Nat.le_succ _, ?_, ?_, ⟨covE_some (renL_one _ _) (Nat.lt_succ_self nx) (wf_ints _ _) hf (ren_ints _ _), trivial⟩, rfl, ?_⟩, hK⟩
  · simp [V.ren, A.ren, C.ren, renL_one, seqO, C.i]
  · simp [V.chk, A.chk, C.chk, inLab_one, C.i]
  · simp only [List.all_cons, List.all_nil, Bool.and_true, inLab_one, Kd.isRo, Bool.not_false, Bool.true_and]
    exact chk_ints _ _
end
set_option maxHeartbeats 4000000 in
theorem cheapest_spec (W H : Int) (cs : List Int) (hl : cs.length ≤ 300) :
    Spec Try.prog 18 [chR W H cs.length] [⟨0, .ro 0, cs.map C.i⟩] 2 (Is (if okC W H cs then (match barO W H cs with | none => V.tup [A.c (C.i 0), A.c (C.i 5)] | some (_, w) => V.tup [A.c (C.i w.1), A.c (C.i 0)]) else V.tup [A.c (C.i 0), A.c (C.i 30)])) := by
  refine Spec.of tok Try.func18 rfl rfl rfl fun n0 cx => vc_ok tok ?_
  cases hv : okC W H cs with
  | false =>
    repeat ((conv => whnf); first | (refine And.intro (by first | omega | exact Nat.le_of_ble_eq_true rfl) ?_) | refine Exists.intro _ (And.intro rfl ?_) | refine br_t (by omega) ?_ | refine fun (K' : K3) hK' => ?_ | (refine hK' _ _ _ ?_; clear hK' K') | refine CallK.newNo (a := 0) (bs := []) (R := [(1, none)]) 30 hl (by simp) (.inl ⟨hv, rfl⟩) rfl rfl (roNil rfl) ?_ | refine CallK.m ?_)
    intro ρ; rfl
  | true =>
    have hok := okC_iff.1 hv
    have hba := barrier_spec W H cs hok
    cases hbo : barO W H cs with
    | none =>
      repeat ((conv => whnf); first | (refine And.intro (by first | omega | exact Nat.le_of_ble_eq_true rfl) ?_) | refine Exists.intro _ (And.intro rfl ?_) | refine br_f (by omega) ?_ | refine fun (K' : K3) hK' => ?_ | (refine hK' _ _ _ ?_; clear hK' K') | refine CallK.newOk (a := 0) (bs := []) (R := [(1, none)]) hl (by simp) hv (okB_nil _ _ _) rfl rfl (by omega) (roNil rfl) ?_ | refine CallK.barN (R := [(1, some 3)]) hbo hba (by kernel_rfl) rfl (by simp [V.wf, A.wf, C.wf]) ⟨roE_ints (l := 0) rfl (by omega) rfl (.inl rfl), trivial⟩ rfl ?_ | refine CallK.m ?_)
      intro ρ; rfl
    | some q =>
      obtain ⟨l, w⟩ := q
      repeat ((conv => whnf); first | (refine And.intro (by first | omega | exact Nat.le_of_ble_eq_true rfl) ?_) | refine Exists.intro _ (And.intro rfl ?_) | refine br_f (by omega) ?_ | refine fun (K' : K3) hK' => ?_ | (refine hK' _ _ _ ?_; clear hK' K') | refine CallK.newOk (a := 0) (bs := []) (R := [(1, none)]) hl (by simp) hv (okB_nil _ _ _) rfl rfl (by omega) (roNil rfl) ?_ | refine CallK.barS (R := [(1, some 3)]) hbo hba (by kernel_rfl) rfl (by simp [V.wf, A.wf, C.wf]) ⟨roE_ints (l := 0) rfl (by omega) rfl (.inl rfl), trivial⟩ rfl ?_ | refine CallK.m ?_)
      intro ρ; rfl
end Go.Proofs.Ytbhpnhcdjmcaoaa

/- Boom: how charts, cells and numbers that came in read. -/
namespace Go.Proofs.Ytbhpnhcdjmcaoaa
open Go.RowKit
set_option linter.unusedVariables false
set_option linter.unusedSimpArgs false
open Go.ChangeShapes Go.WideShapes Go.ChangeAt Go.RowKit Go.Deep Go.Joins
theorem ro_at {w : World} {a : Addr} {cs : List Value} (h : ∀ i, i < cs.length → w.cell? (a.add i) = some (cs.getD i undef)) : RoAt w (some a) cs := by
  intro hne
  have hp : 0 < cs.length := List.length_pos_iff.2 hne
  obtain ⟨b, off, spot⟩ := a
  have hspot : spot = none := by simpa [Addr.add] using World.cell?_spot (h 0 hp)
  subst hspot
  refine ⟨b, off, rfl, ?_, fun j hj => by rw [← Go.WideShapes.add_plain]; exact h j hj⟩
  have := World.block_lt_of_cell? _ _ (h 0 hp)
  simpa [Addr.add] using this
theorem add_add (a : Addr) (i j : Nat) : (a.add i).add j = a.add (i + j) := by
  unfold Addr.add
  by_cases hi : i = 0
  · subst hi; simp
  · by_cases hj : j = 0
    · subst hj; simp [hi]
    · simp [hi, hj, Nat.add_assoc]
def cellV (l : List Cell) : List Value := l.flatMap fun x => [.int .i64 x.1, .int .i64 x.2]
theorem cellV_len (l : List Cell) : (cellV l).length = 2 * l.length := by
  induction l with
  | nil => rfl
  | cons x l ih => simp only [cellV, List.flatMap_cons, List.length_append] at *; simp [ih]; omega
theorem cellV_get : ∀ {l : List Cell} {k : Nat}, k < l.length → (cellV l).getD (k * 2) undef = .int .i64 (l.getD k (0, 0)).1 ∧ (cellV l).getD (k * 2 + 1) undef = .int .i64 (l.getD k (0, 0)).2
  | x :: l, 0, _ => ⟨rfl, rfl⟩
  | x :: l, k + 1, h => by
    have := cellV_get (l := l) (k := k) (by simpa using h)
    simp only [cellV, List.flatMap_cons] at *
    rw [show (k + 1) * 2 + 1 = k * 2 + 1 + 1 + 1 by omega, show (k + 1) * 2 = k * 2 + 1 + 1 by omega]
    simpa using this
theorem den_cells (ρ : Env) (l : List Cell) : (cellC l).map (C.den ρ) = cellV l := by
  induction l with
  | nil => rfl
  | cons x l ih => simp only [cellC, cellV, List.flatMap_cons, List.map_append] at *; rw [ih]; rfl
def CellsAt (W : World) (ao : Option Addr) (c : Nat) (l : List Cell) : Prop := RoAt W ao (cellV l) ∧ l.length ≤ c ∧ l.length < 9223372036854775808
def IntsAt (W : World) (ao : Option Addr) (l : List Int) : Prop := RoAt W ao (l.map (Value.int .i64)) ∧ l.length < 9223372036854775808
section
variable {H : Type} {enc : TypeId × Value → H} {W : World} {sp : Nat → Bool}
set_option maxRecDepth 10000 in
theorem open_cells30 {n : Nat} {v : Value} {x : DataW H × List MemPlace} (h : DataW.trod enc Try.prog W 0 sp true n 30 [v] = some x) :
    ∃ (ao : Option Addr) (c : Nat) (l : List Cell), v = .slice ao l.length c ∧ CellsAt W ao c l := by
  rcases open_slice Try.underlying30 h with ⟨hcs, _⟩ | ⟨a, len, cap, m, f, D, Pl, hcs, _, hl, hmax, hm, _, hx⟩
  · cases hcs
    exact ⟨none, 0, [], rfl, fun hne => absurd rfl hne, by simp, by simp⟩
  · cases hcs
    have hc2 : Try.prog.cellsOf 57 = 2 := by kernel_rfl
    have hc1 : Try.prog.cellsOf 3 = 1 := by kernel_rfl
    have hlm : len ≤ m := by rw [hm]; split <;> omega
    have hlen : len < 9223372036854775808 := by unfold maxLen at hmax; omega
    rw [hc2] at hx
    obtain ⟨b, hb⟩ := choose_lt (α := Cell) (n := len) (p := fun i y => W.cell? (a.add (i * 2)) = some (.int .i64 y.1) ∧ W.cell? (a.add (i * 2 + 1)) = some (.int .i64 y.2)) (fun i hi => by
      obtain ⟨cs', h1, h2⟩ := hx i (by omega)
      obtain ⟨_, hlen, hcell⟩ := World.cells?_some h1
      obtain ⟨y0, y1, k, _, hl2, h3, h4⟩ := trod_struct2 Try.underlying57 h2
      match cs', hlen with
      | [c0, c1], _ =>
        simp [hc1] at h3 h4
        obtain ⟨z0, e0, _, _⟩ := DataW.trod_int Try.underlying3 h3
        obtain ⟨z1, e1, _, _⟩ := DataW.trod_int Try.underlying3 h4
        cases e0
        cases e1
        have g0 := hcell 0 (by omega)
        have g1 := hcell 1 (by omega)
        rw [add_add] at g0 g1
        exact ⟨(z0, z1), by simpa using g0, by simpa using g1⟩)
    refine ⟨some a, cap, (List.range len).map b, by simp, ro_at (fun i hi => ?_), by simpa using hl, by simpa using hlen⟩
    rw [cellV_len] at hi
    simp only [List.length_map, List.length_range] at hi
    have hq : i / 2 < len := by omega
    obtain ⟨g0, g1⟩ := hb (i / 2) hq
    obtain ⟨k0, k1⟩ := cellV_get (l := (List.range len).map b) (k := i / 2) (by simpa using hq)
    have hgd : ((List.range len).map b).getD (i / 2) (0, 0) = b (i / 2) := by simp [List.getD_eq_getElem?_getD, hq]
    rw [hgd] at k0 k1
    rcases Nat.mod_two_eq_zero_or_one i with hi2 | hi2
    · rw [show i / 2 * 2 = i by omega] at g0 k0
      rw [g0, k0]
    · rw [show i / 2 * 2 + 1 = i by omega] at g1 k1
      rw [g1, k1]
theorem open_ints22 {n : Nat} {v : Value} {x : DataW H × List MemPlace} (h : DataW.trod enc Try.prog W 0 sp true n 22 [v] = some x) :
    ∃ (ao : Option Addr) (c : Nat) (l : List Int), v = .slice ao l.length c ∧ IntsAt W ao l := by
  rcases open_slice1 Try.underlying22 (by kernel_rfl) h with ⟨hcs, _⟩ | ⟨a, len, cap, m, f, V, D, Pl, hcs, _, hl, hmax, hm, _, hx⟩
  · cases hcs
    exact ⟨none, 0, [], rfl, fun hne => absurd rfl hne, by simp⟩
  · cases hcs
    have hlm : len ≤ m := by rw [hm]; split <;> omega
    have hlen : len < 9223372036854775808 := by unfold maxLen at hmax; omega
    obtain ⟨b, hb⟩ := choose_lt (α := Int) (n := len) (p := fun i b => V i = .int .i64 b) (fun i hi => by
      obtain ⟨b, hb, _, hw⟩ := DataW.trod_int Try.underlying3 (hx i (by omega)).2
      exact ⟨b, by simpa using hb⟩)
    refine ⟨some a, cap, (List.range len).map b, by simp, ro_at (fun i hi => ?_), by simpa using hlen⟩
    have hi' : i < len := by simpa using hi
    rw [(hx i (by omega)).1, hb i hi']
    simp [List.getD_eq_getElem?_getD, hi']
set_option maxRecDepth 100000 in
theorem open_chart {v : Value} {d : DataW H} {p : List MemPlace} {r : Reach} {b0 : Nat} (hv : Value.okWide Try.prog W r b0 24 v) (h : DataW.Trod enc Try.prog W 0 sp true 24 v d p) :
    ∃ (cw ch : Int) (cs : List Int) (ao : Option Addr) (c : Nat), v = .agg #[.int .i64 cw, .int .i64 ch, .slice ao cs.length c] ∧ IntsAt W ao cs := by
  obtain ⟨v0, v1, v2, y0, y1, y2, n, rfl, _, _, h0, h1, h2⟩ := open_agg3 Try.underlying24 (by kernel_rfl) (by kernel_rfl) hv h
  obtain ⟨k, e0, _, f0⟩ := DataW.trod_int Try.underlying3 h0
  obtain ⟨a, e1, _, f2⟩ := DataW.trod_int Try.underlying3 h1
  obtain ⟨ao, c, l, rfl, hl⟩ := open_ints22 h2
  cases e0
  cases e1
  exact ⟨k, a, l, ao, c, rfl, hl⟩
set_option maxRecDepth 100000 in
theorem open_cellsv {v : Value} {d : DataW H} {p : List MemPlace} {r : Reach} {b0 : Nat} (hv : Value.okWide Try.prog W r b0 30 v) (h : DataW.Trod enc Try.prog W 0 sp true 30 v d p) :
    ∃ (ao : Option Addr) (c : Nat) (l : List Cell), v = .slice ao l.length c ∧ CellsAt W ao c l := by
  obtain ⟨fuel, hf⟩ := h
  obtain ⟨ao, n, cp, rfl⟩ := okWide_slice Try.underlying30 hv
  simp only [Value.cells] at hf
  exact open_cells30 hf
end
/-- Memory that comes in, with the room behind it. -/
theorem Hp.rosz {ρ : Env} {w : World} {L : List E} {nx : Nat} (h : ∀ e ∈ L, (∃ z, e.kd = .ro z ∧ (z = 0 ∨ e.cs.length ≤ (ρ e.lab).2 * z)) ∧ e.lab < nx ∧ (∀ c ∈ e.cs, c.wf nx) ∧ RoAt w (ρ e.lab).1 (e.cs.map (C.den ρ))) (hd : injB [] L = true) : Hp w.heap.size ρ w L nx := by
  refine ⟨Nat.le_refl _, fun e he => ?_, fun e he => ⟨(h e he).2.1, (h e he).2.2.1⟩, fun e he e' he' hl => injB_spec hd e he e' he' (.inl hl), fun e he e' he' hro => ?_⟩
  · obtain ⟨⟨z, h1, h2⟩, h3, h4, h5⟩ := h e he
    obtain ⟨lab, kd, cs⟩ := e
    simp only at h1 h2
    subst h1
    exact ⟨h5, h2⟩
  · obtain ⟨⟨z, h1, _⟩, _⟩ := h e he
    rw [h1] at hro; cases hro
/-- Where what came in lies: label k at place k. -/
def envL (l : List (Option Addr × Nat)) : Env := fun k => l.getD k (none, 0)
theorem ent_ints {W : World} {ρ : Env} {l : List Int} {k nx : Nat} {ao : Option Addr} (h : IntsAt W ao l) (hk : k < nx) (hr : (ρ k).1 = ao) : (∃ z, (Kd.ro 0) = .ro z ∧ (z = 0 ∨ (l.map C.i).length ≤ (ρ k).2 * z)) ∧ k < nx ∧ (∀ c ∈ l.map C.i, c.wf nx) ∧ RoAt W (ρ k).1 ((l.map C.i).map (C.den ρ)) := by
  refine ⟨⟨0, rfl, .inl rfl⟩, hk, wf_ints _ _, ?_⟩
  rw [List.map_map, hr]; exact h.1
theorem ent_cells {W : World} {ρ : Env} {l : List Cell} {k nx c : Nat} {ao : Option Addr} (h : CellsAt W ao c l) (hk : k < nx) (hr : ρ k = (ao, c)) : (∃ z, (Kd.ro 2) = .ro z ∧ (z = 0 ∨ (cellC l).length ≤ (ρ k).2 * z)) ∧ k < nx ∧ (∀ c ∈ cellC l, c.wf nx) ∧ RoAt W (ρ k).1 ((cellC l).map (C.den ρ)) := by
  refine ⟨⟨2, rfl, .inr ?_⟩, hk, wf_cells _ _, ?_⟩
  · rw [hr, cellC_len]; have := h.2.1; simp only; omega
  · rw [den_cells, hr]; exact h.1
theorem isTrue_any {f : FuncId} {vs : List V} {L : List E} {na : Nat} {ρ : Env} {w : World} {args : Array Value} (spec : Spec Try.prog f vs L na (Is (V.c (.bool true)))) (hp : Hp w.heap.size ρ w L na) (hv : ∀ v ∈ vs, v.wf na) (ha : (vs.map (V.den ρ)).toArray = args) :
    Calls Try.prog f args w fun e w' => e = .returned (.bool true) ∧ Below w.heap.size w w' := by
  subst ha
  refine (spec ρ w hp hv).mono ?_
  rintro e w' ⟨v, ρ', L', nx', rfl, h1, h2, h3, h4, h5, h6⟩
  exact ⟨by rw [h6 ρ']; rfl, h4⟩
end Go.Proofs.Ytbhpnhcdjmcaoaa

/- Boom: what the laws share. -/
namespace Go.Proofs.Ytbhpnhcdjmcaoaa
open Go.RowKit
set_option linter.unusedVariables false
set_option linter.unusedSimpArgs false
theorem wide_spec (W H : Int) (n : Nat) (hn : n < 9223372036854775808) : Spec Try.prog 16 [chR W H n] [] 1 (Is (V.c (.bool (decide ((n : Int) > 300))))) := by
  refine Spec.of tok Try.func16 rfl rfl rfl fun n0 cx => vc_ok tok ?_
  repeat ((conv => whnf); first | (refine And.intro (by first | omega | exact Nat.le_of_ble_eq_true rfl) ?_) | refine Exists.intro _ (And.intro rfl ?_) | refine fun (K' : K3) hK' => ?_ | (refine hK' _ _ _ ?_; clear hK' K'))
  intro ρ; rfl
theorem long_spec (m : Nat) (hm : m < 9223372036854775808) : Spec Try.prog 23 [V.c (.sl 0 m)] [] 1 (Is (V.c (.bool (decide ((m : Int) > 250))))) := by
  refine Spec.of tok Try.func23 rfl rfl rfl fun n0 cx => vc_ok tok ?_
  repeat ((conv => whnf); first | refine fun (K' : K3) hK' => ?_ | (refine hK' _ _ _ ?_; clear hK' K'))
  intro ρ; rfl
theorem bar22 : barO 2 2 [5, 0, 0, 3] = some ([0, 3], (8, 2)) := by decide +kernel
theorem awake_spec : Spec Try.prog 17 [] [] 0 (Is (V.c (.bool true))) := by
  have hc := cheapest_spec 2 2 [5, 0, 0, 3] (by simp)
  have ho : okC 2 2 [5, 0, 0, 3] = true := by decide +kernel
  rw [ho, bar22] at hc
  have hc : Spec Try.prog 18 [chR 2 2 4] [⟨0, .ro 0, [5, 0, 0, 3].map C.i⟩] 2 (Is (V.tup [A.c (C.i 8), A.c (C.i 0)])) := hc
  refine Spec.of tok Try.func17 rfl rfl rfl fun n0 cx => vc_ok tok ?_
  repeat ((conv => whnf); first | (refine And.intro (by first | omega | (dsimp only [inK]; omega)) ?_) | refine br_t (by omega) ?_ | refine fun (K' : K3) hK' => ?_ | (refine hK' _ _ _ ?_; clear hK' K') | refine CallK.val (R := [(0, some 0)]) hc (by kernel_rfl) rfl (by simp [V.wf, A.wf, C.wf]) ⟨roE_ints (l := 0) (k := .vec 3 1) rfl (by omega) rfl (.inl rfl), trivial⟩ rfl rfl (by simp [V.wf, A.wf, C.wf]) ?_ | refine CallK.m ?_)
  intro ρ; rfl
section
variable {n0 nx : Nat} {L : List E} {K : V → List E → Nat → Prop}
theorem awake_k (hK : K (V.c (.bool true)) [] nx) : CallK Try.prog n0 17 [] L nx K :=
  CallK.val (R := []) awake_spec (by kernel_rfl) rfl (by simp) trivial rfl rfl trivial hK
theorem wide_k {W H : Int} {n a : Nat} (hn : n < 9223372036854775808) (hK : K (V.c (.bool (decide ((n : Int) > 300)))) [] nx) : CallK Try.prog n0 16 [V.agg [C.i W, C.i H, .sl a n]] L nx K :=
  CallK.val (R := [(0, some a)]) (wide_spec W H n hn) (by kernel_rfl) rfl (by simp [V.wf, A.wf, C.wf]) trivial rfl rfl trivial hK
theorem long_k {m a : Nat} (hm : m < 9223372036854775808) (hK : K (V.c (.bool (decide ((m : Int) > 250)))) [] nx) : CallK Try.prog n0 23 [V.c (.sl a m)] L nx K :=
  CallK.val (R := [(0, some a)]) (long_spec m hm) (by kernel_rfl) rfl (by simp [V.wf, A.wf, C.wf]) trivial rfl rfl trivial hK
end
end Go.Proofs.Ytbhpnhcdjmcaoaa

/- Boom, the reference: the neighbours of a cell. -/
namespace Go.Proofs.Ytbhpnhcdjmcaoaa
open Go.RowKit
set_option linter.unusedVariables false
set_option linter.unusedSimpArgs false
theorem CallK.den {P : Program} {n0 : Nat} {f : FuncId} {vs vs' : List V} {L : List E} {nx : Nat} {K : V → List E → Nat → Prop} (hd : ∀ ρ, vs.map (V.den ρ) = vs'.map (V.den ρ)) (hw : ∀ v ∈ vs, v.wf nx) (h : CallK P n0 f vs L nx K) : CallK P n0 f vs' L nx K :=
  ⟨h.ok, fun ρ w hp _ => by rw [← hd]; exact h.run ρ w hp hw⟩
theorem onB_t {W H x y : Int} (h : onB W H x y = true) : (0 ≤ x ∧ x < W) ∧ 0 ≤ y ∧ y < H := by
  simp only [onB, Bool.and_eq_true, decide_eq_true_eq] at h; omega
theorem idxI_on {W H x y : Int} (h : onB W H x y = true) : idxI W H x y = y * W + x ∧ idxI W H x y ≥ 0 := by
  have := onB_t h
  unfold idxI
  rw [if_pos (by omega)]
  have : 0 ≤ y * W := Int.mul_nonneg (by omega) (by omega)
  exact ⟨rfl, by omega⟩
def intsR (l : List Int) (v : V) (L' : List E) : Prop := ∃ lab, v = V.c (.sl lab l.length) ∧ find L' lab = some ⟨lab, .vec 3 1, l.map C.i⟩
end Go.Proofs.Ytbhpnhcdjmcaoaa

/- Boom, plain: the reference's ways. -/
namespace Go.Proofs.Ytbhpnhcdjmcaoaa
open Go.RowKit
set_option linter.unusedVariables false
set_option linter.unusedSimpArgs false
def nbR (W H : Int) (cs : List Int) (i : Int) : List Int := if inR cs i && hldI cs i then nearL W H true i else []
def encW (d : Int → Option Way) (i : Nat) : Way := (d i).getD (0, 0)
def encL (d : Int → Option Way) (n : Nat) : List Way := (List.range n).map (encW d)
/-- The last row, the first k of it. -/
def d0R (W H : Int) (cs : List Int) (k : Nat) (i : Int) : Option Way := if ((H - 1) * W ≤ i ∧ i < (H - 1) * W + k) ∧ hldI cs i = true then some (cstI cs i, 1) else none
theorem nbR_in {W H : Int} {cs : List Int} (hW : 0 < W) (hl : (cs.length : Int) = W * H) (i k : Int) (h : k ∈ nbR W H cs i) : (0 ≤ i ∧ i < cs.length) ∧ 0 ≤ k ∧ k < cs.length := by
  unfold nbR at h
  split at h
  · rename_i hh
    simp only [Bool.and_eq_true, inR, decide_eq_true_eq] at hh
    refine ⟨hh.1, ?_⟩
    unfold nearL at h
    obtain ⟨j, _, hj⟩ := List.mem_filterMap.1 h
    have := cand_lt hW hj
    omega
  · cases h
def itR (W H : Int) (cs : List Int) (t : Nat) : (Int → Option Way) × Bool := iterG (cstI cs) (nbR W H cs) cs.length (d0B W H cs) t
theorem itR_end {W H : Int} {cs : List Int} (h : CO W H cs) : (itR W H cs (cs.length + 1)).2 = false := by
  obtain ⟨h1, h2⟩ := d0_sound (nb := nbR W H cs) (d0B_eq W H cs)
  exact iter_end (fun i => (cst_bd h.cost i).1) iniB_in (nbR_in (by have := h.w; omega) h.len) h1 h2
theorem itR_opt {W H : Int} {cs : List Int} (h : CO W H cs) {t : Nat} (ht : (itR W H cs t).2 = false) : OptD (cstI cs) (iniB W H cs) (nbR W H cs) (itR W H cs t).1 := by
  obtain ⟨h1, h2⟩ := d0_sound (nb := nbR W H cs) (d0B_eq W H cs)
  exact iter_fix (fun i => (cst_bd h.cost i).1) iniB_in (nbR_in (by have := h.w; omega) h.len) h1 h2 ht
def wayR (W H : Int) (cs : List Int) : Int → Option Way := (itR W H cs (cs.length + 1)).1
theorem wayR_opt {W H : Int} {cs : List Int} (h : CO W H cs) : OptD (cstI cs) (iniB W H cs) (nbR W H cs) (wayR W H cs) := itR_opt h (itR_end h)
/-- One neighbour looked at, as the reference does it. -/
def stepR (cs : List Int) (i : Int) (st : (Int → Option Way) × Bool) (k : Int) : (Int → Option Way) × Bool := if hldI cs i then relG (cstI cs) i st k else st
theorem near_in {W H : Int} {e : Bool} {i k : Int} (hW : 0 < W) (h : k ∈ nearL W H e i) : 0 ≤ k ∧ k < W * H := by
  unfold nearL at h
  obtain ⟨j, _, hj⟩ := List.mem_filterMap.1 h
  exact cand_lt hW hj
theorem getD_mem {l : List Int} {j : Nat} (h : j < l.length) : l.getD j 0 ∈ l := by
  rw [List.getD_eq_getElem?_getD, List.getElem?_eq_getElem h]; exact List.getElem_mem h
end Go.Proofs.Ytbhpnhcdjmcaoaa

/- Boom, plain: the greatest heights. -/
namespace Go.Proofs.Ytbhpnhcdjmcaoaa
open Go.RowKit
set_option linter.unusedVariables false
set_option linter.unusedSimpArgs false
/-- Heights that could prove: none of a neighbour is greater than that of the cell, and what the neighbour costs. -/
def Feas (W H : Int) (cs : List Int) (g : Int → Int) : Prop := ∀ a b : Int, 0 ≤ a → a < cs.length → hldI cs a = true → hldI cs b = true → b ∈ nearL W H true a → g b ≤ g a + cstI cs b
def h0I (W : Int) (cs : List Int) (i : Int) : Int := if hldI cs i = false then 0 else if i / W = 0 then cstI cs i else 1000000
def hL (hs : List Int) (i : Int) : Int := hs.getD i.toNat 0
/-- The greatest. -/
structure Great (W H : Int) (cs hs : List Int) : Prop where
  len : hs.length = cs.length
  le : ∀ i : Int, 0 ≤ i → i < cs.length → hL hs i ≤ h0I W cs i
  feas : Feas W H cs (hL hs)
  most : ∀ g : Int → Int, Feas W H cs g → (∀ i : Int, 0 ≤ i → i < cs.length → g i ≤ h0I W cs i) → ∀ i : Int, 0 ≤ i → i < cs.length → g i ≤ hL hs i
theorem Great.unique {W H : Int} {cs hs hs' : List Int} (h : Great W H cs hs) (h' : Great W H cs hs') : hs = hs' := by
  apply List.ext_getElem
  · rw [h.len, h'.len]
  · intro i h1 h2
    have hi : (i : Int) < cs.length := by have := h.len; omega
    have a := h.most _ h'.feas h'.le i (by omega) hi
    have b := h'.most _ h.feas h.le i (by omega) hi
    unfold hL at a b
    rw [Int.toNat_natCast, List.getD_eq_getElem?_getD, List.getD_eq_getElem?_getD, List.getElem?_eq_getElem h1, List.getElem?_eq_getElem h2] at a b
    simp only [Option.getD_some] at a b
    omega
open Classical in
noncomputable def hts (W H : Int) (cs : List Int) : List Int := if h : ∃ hs, Great W H cs hs then Classical.choose h else []
theorem Great.hts {W H : Int} {cs hs : List Int} (h : Great W H cs hs) : Go.Proofs.Ytbhpnhcdjmcaoaa.hts W H cs = hs := by
  unfold Go.Proofs.Ytbhpnhcdjmcaoaa.hts
  rw [dif_pos ⟨hs, h⟩]
  exact (Classical.choose_spec (⟨hs, h⟩ : ∃ hs, Great W H cs hs)).unique h
/-- One edge looked at. -/
def relH (cs : List Int) (st : List Int × Bool) (a b : Int) : List Int × Bool :=
  if (hldI cs a && (hldI cs b && decide (hL st.1 b > hL st.1 a + cstI cs b))) = true then (st.1.set b.toNat (hL st.1 a + cstI cs b), true) else st
/-- What a state is on the way. -/
structure HSt (W H : Int) (cs hs : List Int) : Prop where
  len : hs.length = cs.length
  le : ∀ i : Int, 0 ≤ i → i < cs.length → hL hs i ≤ h0I W cs i
  pos : ∀ i : Int, 0 ≤ i → i < cs.length → 0 ≤ hL hs i
  most : ∀ g : Int → Int, Feas W H cs g → (∀ i : Int, 0 ≤ i → i < cs.length → g i ≤ h0I W cs i) → ∀ i : Int, 0 ≤ i → i < cs.length → g i ≤ hL hs i
def sumH (hs : List Int) : Int := hs.sum
theorem hL_set {hs : List Int} {b j x : Int} (hb : 0 ≤ b) (hj : 0 ≤ j) (hbl : b < hs.length) : hL (hs.set b.toNat x) j = if j = b then x else hL hs j := by
  unfold hL
  rw [List.getD_eq_getElem?_getD, List.getD_eq_getElem?_getD, List.getElem?_set]
  by_cases h : j = b
  · subst h; rw [if_pos rfl, if_pos (by omega), if_pos rfl]; rfl
  · rw [if_neg (by omega), if_neg h]
theorem sum_pos : ∀ {hs : List Int}, (∀ x ∈ hs, 0 ≤ x) → 0 ≤ hs.sum
  | [], _ => by simp
  | a :: r, h => by
    have := sum_pos (hs := r) (fun x hx => h x (by simp [hx]))
    have := h a (by simp)
    rw [List.sum_cons]; omega
/-- Steps that go on: nothing is lost, and what has turned is said. -/
structure HGo (W H : Int) (cs : List Int) (st st' : List Int × Bool) : Prop where
  ok : HSt W H cs st.1 → HSt W H cs st'.1
  same : st'.2 = false → st' = st
  keep : st.2 = true → st'.2 = true
  less : HSt W H cs st.1 → st'.2 = true → st.2 = true ∧ sumH st'.1 ≤ sumH st.1 ∨ sumH st'.1 < sumH st.1
theorem HGo.refl {W H : Int} {cs : List Int} (st : List Int × Bool) : HGo W H cs st st := ⟨id, fun _ => rfl, id, fun _ h => .inl ⟨h, Int.le_refl _⟩⟩
theorem HGo.trans {W H : Int} {cs : List Int} {a b c : List Int × Bool} (h : HGo W H cs a b) (h' : HGo W H cs b c) : HGo W H cs a c := by
  refine ⟨fun x => h'.ok (h.ok x), fun hf => ?_, fun hk => h'.keep (h.keep hk), fun hs hc => ?_⟩
  · have e := h'.same hf
    rw [e]; exact h.same (by rw [← e]; exact hf)
  · rcases h'.less (h.ok hs) hc with ⟨h1, h2⟩ | h2
    · rcases h.less hs h1 with ⟨h3, h4⟩ | h4
      · exact .inl ⟨h3, by omega⟩
      · exact .inr (by omega)
    · cases hb : b.2 with
      | false => rw [h.same hb] at h2; exact .inr h2
      | true =>
        rcases h.less hs hb with ⟨h3, h4⟩ | h4
        · exact .inr (by omega)
        · exact .inr (by omega)
/-- Edges one after the other. -/
def passH (cs : List Int) (es : List (Int × Int)) (st : List Int × Bool) : List Int × Bool := es.foldl (fun st e => relH cs st e.1 e.2) st
def h0L (W : Int) (cs : List Int) (k : Nat) : List Int := (List.range cs.length).map fun i => if i < k then h0I W cs i else 0
end Go.Proofs.Ytbhpnhcdjmcaoaa

/- Boom: the greatest heights. -/
namespace Go.Proofs.Ytbhpnhcdjmcaoaa
open Go.RowKit
set_option linter.unusedVariables false
set_option linter.unusedSimpArgs false
/-- The edges as the program goes over them. -/
def edP (W H : Int) (j : Nat) : List (Int × Int) := (List.range j).flatMap fun i : Nat => (nearL W H true (i : Int)).map fun k => ((i : Int), k)
theorem HSt.sum {W H : Int} {cs hs : List Int} (h : HSt W H cs hs) : 0 ≤ hs.sum := sum_pos (hs := hs) (fun x hx => by
  obtain ⟨i, hi, rfl⟩ := List.mem_iff_getElem.1 hx
  have := h.pos i (by omega) (by have := h.len; omega)
  unfold hL at this
  rwa [Int.toNat_natCast, List.getD_eq_getElem?_getD, List.getElem?_eq_getElem hi] at this)
/-- Numbers and an error, or none. -/
def intsE (l : List Int) (Er : Int) (v : V) (L' : List E) : Prop :=
  ∃ o : C, v = V.tup [A.c o, A.c (C.i Er)] ∧ ((o = C.nil ∧ l = []) ∨ ∃ lab, o = C.sl lab l.length ∧ find L' lab = some ⟨lab, .vec 3 1, l.map C.i⟩)
noncomputable def htsO (W H : Int) (cs : List Int) : List Int := if okC W H cs then hts W H cs else []
def htsE (W H : Int) (cs : List Int) : Int := if okC W H cs then 0 else 30
end Go.Proofs.Ytbhpnhcdjmcaoaa

/- Boom: a list each of whose cells is a neighbour of the one in front of it. -/
namespace Go.Proofs.Ytbhpnhcdjmcaoaa
open Go.RowKit
set_option linter.unusedVariables false
set_option linter.unusedSimpArgs false
def foundF (t : Int) (b : Bool) (k : Int) : Bool := b || decide (k = t)
/-- Whether each of the first so many is a neighbour of the one in front of it. -/
def follB (W H : Int) (e : Bool) (l : List Int) (k : Nat) : Bool := (List.range (k - 1)).all fun j => (nearL W H e (l.getD j 0)).contains (l.getD (j + 1) 0)
end Go.Proofs.Ytbhpnhcdjmcaoaa

/- Boom, the reference: the best ways down to the last row. -/
namespace Go.Proofs.Ytbhpnhcdjmcaoaa
open Go.RowKit
set_option linter.unusedVariables false
set_option linter.unusedSimpArgs false
theorem CallK.intsR {P : Program} {n0 nx nac : Nat} {f : FuncId} {vs vs' : List V} {Lc L : List E} {R : Rn} {K : V → List E → Nat → Prop} {l : List Int} (spec : Spec P f vs Lc nac (fun v L' _ => intsR l v L')) (hok : callB P f = true)
    (hv : renVs R vs = some vs') (hvw : ∀ v ∈ vs, v.wf nac) (hL : roL R nac L Lc) (hLc : injB [] Lc = true)
    (hK : K (V.c (.sl nx l.length)) [⟨nx, .vec 3 1, l.map C.i⟩] (nx + 1)) : CallK P n0 f vs' L nx K := by
  refine CallK.mk' hok spec hv hvw hL hLc ?_
  rintro v L' nx' hw ⟨lab, rfl, hf⟩
  refine ⟨V.c (.sl nx l.length), [⟨nx, .vec 3 1, l.map C.i⟩], nx + 1, [(nx, some lab)], ⟨Nat.le_succ _, ?_, ?_, ⟨covE_some (renL_one _ _) (Nat.lt_succ_self nx) (wf_ints _ _) hf (ren_ints _ _), trivial⟩, rfl, ?_⟩, hK⟩
  · simp only [V.ren, A.ren, C.ren, renL_one]
  · simp only [V.chk, A.chk, C.chk]; exact inLab_one nx
  · simp only [List.all_cons, List.all_nil, Bool.and_true, inLab_one, Kd.isRo, Bool.not_false, Bool.true_and]
    exact chk_ints _ _
end Go.Proofs.Ytbhpnhcdjmcaoaa

/- Boom, the reference: ways. -/
namespace Go.Proofs.Ytbhpnhcdjmcaoaa
open Go.RowKit
set_option linter.unusedVariables false
set_option linter.unusedSimpArgs false
@[reducible] def cz : Cell := (0, 0)
/-- Cell i of a list is right: on the chart, beside the one in front of it, and no other one. -/
def stepB (W H : Int) (e : Bool) (p q : Cell) : Bool := fourB p.1 p.2 q.1 q.2 || (e && eightB p.1 p.2 q.1 q.2)
def wayOk (W H : Int) (l : List Cell) (e : Bool) (i : Nat) : Bool := onB W H (l.getD i cz).1 (l.getD i cz).2 && ((decide (i = 0) || stepB W H e (l.getD i cz) (l.getD (i - 1) cz)) && !((l.take i).any fun q => decide (l.getD i cz = q)))
def isWayK (W H : Int) (l : List Cell) (e : Bool) (k : Nat) : Bool := (List.range k).all (wayOk W H l e)
def isWayB (W H : Int) (l : List Cell) (e : Bool) : Bool := isWayK W H l e l.length && (decide ((l.length : Int) ≥ 1) && decide ((l.length : Int) ≤ 100))
end Go.Proofs.Ytbhpnhcdjmcaoaa

/- Boom, the reference: barriers and their cost. -/
namespace Go.Proofs.Ytbhpnhcdjmcaoaa
open Go.RowKit
set_option linter.unusedVariables false
set_option linter.unusedSimpArgs false
def idxU (W : Int) (p : Cell) : Int := p.2 * W + p.1
def barOk (W H : Int) (cs : List Int) (l : List Cell) (i : Nat) : Bool :=
  !(decide (cs.getD (idxU W (l.getD i cz)).toNat 0 = 0) || ((decide ((i : Int) = 0) != decide ((l.getD i cz).2 = 0)) || (decide ((i : Int) = (l.length : Int) - 1) != decide ((l.getD i cz).2 = H - 1))))
def barOkK (W H : Int) (cs : List Int) (l : List Cell) (k : Nat) : Bool := (List.range k).all (barOk W H cs l)
def isBarB (W H : Int) (cs : List Int) (l : List Cell) : Bool := !decide ((l.length : Int) > 100) && (isWayB W H l true && barOkK W H cs l l.length)
def sumK (W : Int) (cs : List Int) (l : List Cell) (k : Nat) : Int := ((l.take k).map fun p => cstI cs (idxU W p)).sum
def sumC (W : Int) (cs : List Int) (l : List Cell) : Int := sumK W cs l l.length
end Go.Proofs.Ytbhpnhcdjmcaoaa

/- Boom: lists of cells that are barriers, and what they cost. -/
namespace Go.Proofs.Ytbhpnhcdjmcaoaa
open Go.RowKit
set_option linter.unusedVariables false
set_option linter.unusedSimpArgs false
def hasI (l : List Int) (x : Int) : Bool := l.any fun y => decide (x = y)
/-- The indexes of cells. -/
def listI (W H : Int) (l : List Cell) : List Int := l.map (idxC W H)
def listOk (W H : Int) (l : List Cell) (j : Nat) : Bool := !(decide (idxC W H (l.getD j cz) < 0) || hasI (listI W H (l.take j)) (idxC W H (l.getD j cz)))
def listOkK (W H : Int) (l : List Cell) (k : Nat) : Bool := (List.range k).all (listOk W H l)
def lenOk (l : List Cell) : Bool := decide (1 ≤ (l.length : Int) ∧ (l.length : Int) ≤ 100)
def lisR (W H : Int) (l : List Cell) (v : V) (L' : List E) : Prop :=
  if listOkK W H l l.length then ∃ lab, v = V.tup [A.c (.sl lab l.length), A.c (.bool (lenOk l))] ∧ find L' lab = some ⟨lab, .vec 3 1, (listI W H l).map C.i⟩
  else v = V.tup [A.c .nil, A.c .ff]
def pbarOk (W H : Int) (cs : List Int) (is : List Int) (k : Nat) : Bool :=
  !(!decide (cs.getD (is.getD k 0).toNat 0 ≠ 0) || ((decide (is.getD k 0 / W = 0) != decide ((k : Int) = 0)) || (decide (is.getD k 0 / W = H - 1) != decide ((k : Int) = (is.length : Int) - 1))))
def pbarOkK (W H : Int) (cs : List Int) (is : List Int) (k : Nat) : Bool := (List.range k).all (pbarOk W H cs is)
def isBarP (W H : Int) (cs : List Int) (is : List Int) : Bool := pbarOkK W H cs is is.length && follB W H true is is.length
end Go.Proofs.Ytbhpnhcdjmcaoaa

/- Boom: IsBarrier, CostOf, Cheapest, Barrier. -/
namespace Go.Proofs.Ytbhpnhcdjmcaoaa
open Go.RowKit
set_option linter.unusedVariables false
set_option linter.unusedSimpArgs false
section
variable {P : Program} {n0 nx nac : Nat} {f : FuncId} {vs vs' : List V} {Lc L : List E} {R : Rn} {K : V → List E → Nat → Prop}
theorem CallK.cellsR {l : List Cell} (spec : Spec P f vs Lc nac (fun v L' _ => cellsX l v L')) (hok : callB P f = true)
    (hv : renVs R vs = some vs') (hvw : ∀ v ∈ vs, v.wf nac) (hL : roL R nac L Lc) (hLc : injB [] Lc = true)
    (hK : K (V.c (.sl nx l.length)) [⟨nx, .vec 57 2, cellC l⟩] (nx + 1)) : CallK P n0 f vs' L nx K := by
  refine CallK.mk' hok spec hv hvw hL hLc ?_
  rintro v L' nx' hw (⟨rfl, rfl⟩ | ⟨lab, rfl, hf⟩)
  · refine ⟨V.c (.sl nx 0), [⟨nx, .vec 57 2, []⟩], nx + 1, [(nx, none)], ⟨Nat.le_succ _, ?_, ?_, ⟨covE_nil (renL_one _ _) (Nat.lt_succ_self nx) rfl rfl, trivial⟩, rfl, ?_⟩, hK⟩
    · simp only [V.ren, A.ren, C.ren, renL_one]
    · simp only [V.chk, A.chk, C.chk]; exact inLab_one nx
    · simp only [List.all_cons, List.all_nil, Bool.and_true, inLab_one, Kd.isRo, Bool.not_false]
  · refine ⟨V.c (.sl nx l.length), [⟨nx, .vec 57 2, cellC l⟩], nx + 1, [(nx, some lab)], ⟨Nat.le_succ _, ?_, ?_, ⟨covE_some (renL_one _ _) (Nat.lt_succ_self nx) (wf_cells _ _) hf (ren_cells _ _), trivial⟩, rfl, ?_⟩, hK⟩
    · simp only [V.ren, A.ren, C.ren, renL_one]
    · simp only [V.chk, A.chk, C.chk]; exact inLab_one nx
    · simp only [List.all_cons, List.all_nil, Bool.and_true, inLab_one, Kd.isRo, Bool.not_false, Bool.true_and]
      exact chk_cells _ _
/-- Cells and an error. -/
def cellsE (l : List Cell) (Er : Int) (v : V) (L' : List E) : Prop :=
  ∃ o : C, v = V.tup [A.c o, A.c (C.i Er)] ∧ ((o = C.nil ∧ l = []) ∨ ∃ lab, o = C.sl lab l.length ∧ find L' lab = some ⟨lab, .vec 57 2, cellC l⟩)
theorem CallK.cellsE {l : List Cell} {Er : Int} (spec : Spec P f vs Lc nac (fun v L' _ => cellsE l Er v L')) (hok : callB P f = true)
    (hv : renVs R vs = some vs') (hvw : ∀ v ∈ vs, v.wf nac) (hL : roL R nac L Lc) (hLc : injB [] Lc = true)
    (hK : K (V.tup [A.c (.sl nx l.length), A.c (C.i Er)]) [⟨nx, .vec 57 2, cellC l⟩] (nx + 1)) : CallK P n0 f vs' L nx K := by
  refine CallK.mk' hok spec hv hvw hL hLc ?_
  rintro v L' nx' hw ⟨o, rfl, ⟨rfl, rfl⟩ | ⟨lab, rfl, hf⟩⟩
  · refine ⟨V.tup [A.c (.sl nx 0), A.c (C.i Er)], [⟨nx, .vec 57 2, []⟩], nx + 1, [(nx, none)], ⟨Nat.le_succ _, ?_, ?_, ⟨covE_nil (renL_one _ _) (Nat.lt_succ_self nx) rfl rfl, trivial⟩, rfl, ?_⟩, hK⟩
    · simp [V.ren, A.ren, C.ren, renL_one, C.i, seqO]
    · simp [V.chk, A.chk, C.chk, inLab_one, C.i]
    · simp only [List.all_cons, List.all_nil, Bool.and_true, inLab_one, Kd.isRo, Bool.not_false]
  · refine ⟨V.tup [A.c (.sl nx l.length), A.c (C.i Er)], [⟨nx, .vec 57 2, cellC l⟩], nx + 1, [(nx, some lab)], ⟨Nat.le_succ _, ?_, ?_, ⟨covE_some (renL_one _ _) (Nat.lt_succ_self nx) (wf_cells _ _) hf (ren_cells _ _), trivial⟩, rfl, ?_⟩, hK⟩
    · simp [V.ren, A.ren, C.ren, renL_one, C.i, seqO]
    · simp [V.chk, A.chk, C.chk, inLab_one, C.i]
    · simp only [List.all_cons, List.all_nil, Bool.and_true, inLab_one, Kd.isRo, Bool.not_false, Bool.true_and]
      exact chk_cells _ _
end
/-- A list is a barrier, as the program finds it. -/
def pIsBar (W H : Int) (cs : List Int) (l : List Cell) : Bool := listOkK W H l l.length && (lenOk l && isBarP W H cs (listI W H l))
def psumK (cs is : List Int) (k : Nat) : Int := ((is.take k).map (cstI cs)).sum
def psum (cs is : List Int) : Int := psumK cs is is.length
end Go.Proofs.Ytbhpnhcdjmcaoaa

/- Boom, plain: what a barrier is. -/
namespace Go.Proofs.Ytbhpnhcdjmcaoaa
open Go.RowKit
set_option linter.unusedVariables false
set_option linter.unusedSimpArgs false
def adj (e : Bool) (p q : Cell) : Prop := (-1 ≤ p.1 - q.1 ∧ p.1 - q.1 ≤ 1) ∧ (-1 ≤ p.2 - q.2 ∧ p.2 - q.2 ≤ 1) ∧ ¬ (p.1 = q.1 ∧ p.2 = q.2) ∧ (e = true ∨ p.1 = q.1 ∨ p.2 = q.2)
theorem adj_symm {e : Bool} {p q : Cell} (h : adj e p q) : adj e q p := by
  obtain ⟨h1, h2, h3, h4⟩ := h
  exact ⟨by omega, by omega, fun hh => h3 ⟨hh.1.symm, hh.2.symm⟩, h4.imp id (Or.imp Eq.symm Eq.symm)⟩
theorem idxC_mod {W H : Int} {p : Cell} (h : onB W H p.1 p.2 = true) : idxC W H p = idxU W p ∧ idxC W H p % W = p.1 ∧ idxC W H p / W = p.2 := by
  have ho := onB_t h
  have h1 := idxI_on h
  have e : idxC W H p = idxU W p := h1.1
  have e2 : idxC W H p = p.1 + p.2 * W := by rw [e]; unfold idxU; omega
  have hm : p.1 % W = p.1 := Int.emod_eq_of_lt ho.1.1 ho.1.2
  have hd : p.1 / W = 0 := Int.ediv_eq_zero_of_lt ho.1.1 ho.1.2
  refine ⟨e, ?_, ?_⟩
  · rw [e2, Int.add_mul_emod_self_right, hm]
  · rw [e2, Int.add_mul_ediv_right _ _ (by omega), hd]; omega
theorem idxC_inj {W H : Int} {p q : Cell} (hp : onB W H p.1 p.2 = true) (hq : onB W H q.1 q.2 = true) (h : idxC W H p = idxC W H q) : p = q := by
  obtain ⟨_, p1, p2⟩ := idxC_mod hp
  obtain ⟨_, q1, q2⟩ := idxC_mod hq
  exact Prod.ext (by rw [← p1, h, q1]) (by rw [← p2, h, q2])
theorem near_iff {W H : Int} {e : Bool} {p q : Cell} (hp : onB W H p.1 p.2 = true) (hq : onB W H q.1 q.2 = true) : idxC W H p ∈ nearL W H e (idxC W H q) ↔ adj e p q := by
  obtain ⟨_, q1, q2⟩ := idxC_mod hq
  have hpo := onB_t hp
  unfold nearL
  rw [List.mem_filterMap]
  constructor
  · rintro ⟨j, hj, hc⟩
    have hj9 := List.mem_range.1 hj
    unfold candJ cand at hc
    rw [q1, q2] at hc
    split at hc
    · cases hc
    · rename_i hs
      split at hc
      · rename_i hx
        have hx2 := idxI_lt (show 0 < W by omega) hx
        have hr : onB W H (q.1 + ((j % 3 : Nat) : Int) - 1) (q.2 + ((j / 3 : Nat) : Int) - 1) = true := by
          simp only [onB, Bool.and_eq_true, decide_eq_true_eq]; omega
        have := idxC_inj (p := (q.1 + ((j % 3 : Nat) : Int) - 1, q.2 + ((j / 3 : Nat) : Int) - 1)) (q := p) hr hp (by
          injection hc with hc
          rw [← hc]
          show idxI W H _ _ = idxI W H _ _
          congr 1 <;> omega)
        rw [← this]
        have ha : j / 3 < 3 := by omega
        have hb : j % 3 < 3 := by omega
        generalize j / 3 = a at *
        generalize j % 3 = b at *
        refine ⟨by simp only; omega, by simp only; omega, fun hh => hs (.inl ?_), ?_⟩
        · simp only at hh; omega
        · cases e with
          | true => exact .inl rfl
          | false =>
            right
            by_cases hb1 : b = 1
            · left; simp only; omega
            · by_cases ha1 : a = 1
              · right; simp only; omega
              · exact absurd (.inr ⟨rfl, hb1, ha1⟩) hs
      · cases hc
  · rintro ⟨h1, h2, h3, h4⟩
    refine ⟨3 * (p.2 - q.2 + 1).toNat + (p.1 - q.1 + 1).toNat, List.mem_range.2 (by omega), ?_⟩
    have ha : (3 * (p.2 - q.2 + 1).toNat + (p.1 - q.1 + 1).toNat) / 3 = (p.2 - q.2 + 1).toNat := by omega
    have hb : (3 * (p.2 - q.2 + 1).toNat + (p.1 - q.1 + 1).toNat) % 3 = (p.1 - q.1 + 1).toNat := by omega
    have e1 : q.1 + (((p.1 - q.1 + 1).toNat : Int) - 1) = p.1 := by omega
    have e2 : q.2 + (((p.2 - q.2 + 1).toNat : Int) - 1) = p.2 := by omega
    have hx := idxI_on hp
    unfold candJ cand
    rw [q1, q2, ha, hb, e1, e2, if_neg, if_pos hx.2]
    · rfl
    · rintro (⟨g1, g2⟩ | ⟨g1, g2, g3⟩)
      · exact h3 ⟨by omega, by omega⟩
      · rcases h4 with h4 | h4 | h4
        · rw [g1] at h4; cases h4
        · omega
        · omega
/-- A barrier. -/
structure BarP (W H : Int) (cs : List Int) (l : List Cell) : Prop where
  on : ∀ j, j < l.length → onB W H (l.getD j cz).1 (l.getD j cz).2 = true
  nd : ∀ j i, j < l.length → i < j → ¬ l.getD j cz = l.getD i cz
  len : 1 ≤ l.length ∧ l.length ≤ 100
  adj : ∀ j, j + 1 < l.length → adj true (l.getD (j + 1) cz) (l.getD j cz)
  hold : ∀ j, j < l.length → ¬ cs.getD (idxU W (l.getD j cz)).toNat 0 = 0
  top : ∀ j, j < l.length → ((l.getD j cz).2 = 0 ↔ j = 0)
  bot : ∀ j, j < l.length → ((l.getD j cz).2 = H - 1 ↔ j + 1 = l.length)
theorem idx_on {W H : Int} {p : Cell} (h : idxC W H p ≥ 0) (hW : 0 < W) : onB W H p.1 p.2 = true := by
  have := idxI_lt hW h
  simp only [onB, Bool.and_eq_true, decide_eq_true_eq]; omega
end Go.Proofs.Ytbhpnhcdjmcaoaa

/- Boom: callees of the laws. -/
namespace Go.Proofs.Ytbhpnhcdjmcaoaa
open Go.RowKit
set_option linter.unusedVariables false
set_option linter.unusedSimpArgs false
theorem chk_rowC (p : Nat → Bool) (l : List Cell) (lab : Nat) (kd : Kd) : (([⟨lab, kd, cellC l⟩] : List E).all fun e => e.cs.all (C.chk p)) = true := by
  simp only [List.all_cons, List.all_nil, Bool.and_true]
  exact chk_cells _ _
section
variable {P : Program} {n0 nx nac : Nat} {f : FuncId} {vs vs' : List V} {Lc L : List E} {R : Rn} {K : V → List E → Nat → Prop}
theorem CallK.intsE {l : List Int} {Er : Int} (spec : Spec P f vs Lc nac (fun v L' _ => intsE l Er v L')) (hok : callB P f = true)
    (hv : renVs R vs = some vs') (hvw : ∀ v ∈ vs, v.wf nac) (hL : roL R nac L Lc) (hLc : injB [] Lc = true)
    (hK : K (V.tup [A.c (.sl nx l.length), A.c (C.i Er)]) [⟨nx, .vec 3 1, l.map C.i⟩] (nx + 1)) : CallK P n0 f vs' L nx K := by
  refine CallK.mk' hok spec hv hvw hL hLc ?_
  rintro v L' nx' hw ⟨o, rfl, ⟨rfl, rfl⟩ | ⟨lab, rfl, hf⟩⟩
  · refine ⟨V.tup [A.c (.sl nx 0), A.c (C.i Er)], [⟨nx, .vec 3 1, []⟩], nx + 1, [(nx, none)], ⟨Nat.le_succ _, ?_, ?_, ⟨covE_nil (renL_one _ _) (Nat.lt_succ_self nx) rfl rfl, trivial⟩, rfl, ?_⟩, hK⟩
    · simp [V.ren, A.ren, C.ren, renL_one, C.i, seqO]
    · simp [V.chk, A.chk, C.chk, inLab_one, C.i]
    · simp only [List.all_cons, List.all_nil, Bool.and_true, inLab_one, Kd.isRo, Bool.not_false]
  · refine ⟨V.tup [A.c (.sl nx l.length), A.c (C.i Er)], [⟨nx, .vec 3 1, l.map C.i⟩], nx + 1, [(nx, some lab)], ⟨Nat.le_succ _, ?_, ?_, ⟨covE_some (renL_one _ _) (Nat.lt_succ_self nx) (wf_ints _ _) hf (ren_ints _ _), trivial⟩, rfl, ?_⟩, hK⟩
    · simp [V.ren, A.ren, C.ren, renL_one, C.i, seqO]
    · simp [V.chk, A.chk, C.chk, inLab_one, C.i]
    · simp only [List.all_cons, List.all_nil, Bool.and_true, inLab_one, Kd.isRo, Bool.not_false, Bool.true_and]
      exact chk_ints _ _
end
theorem cheapN {W H : Int} {cs : List Int} (hl : cs.length ≤ 300) (hv : okC W H cs = true) (h : barO W H cs = none) : Spec Try.prog 18 [chR W H cs.length] [⟨0, .ro 0, cs.map C.i⟩] 2 (Is (V.tup [A.c (C.i 0), A.c (C.i 5)])) := by
  have := cheapest_spec W H cs hl
  rw [hv, h] at this
  exact this
theorem cheapS {W H : Int} {cs : List Int} {l : List Int} {w : Way} (hl : cs.length ≤ 300) (hv : okC W H cs = true) (h : barO W H cs = some (l, w)) : Spec Try.prog 18 [chR W H cs.length] [⟨0, .ro 0, cs.map C.i⟩] 2 (Is (V.tup [A.c (C.i w.1), A.c (C.i 0)])) := by
  have := cheapest_spec W H cs hl
  rw [hv, h] at this
  exact this
end Go.Proofs.Ytbhpnhcdjmcaoaa

/- Boom, plain: the program's barrier is the reference's, and is one. -/
namespace Go.Proofs.Ytbhpnhcdjmcaoaa
open Go.RowKit
set_option linter.unusedVariables false
set_option linter.unusedSimpArgs false
def nextR (W H : Int) (d : Int → Option Way) (i : Int) (rest : Way) : Option Int := (nearL W H true i).find? fun k => decide (d k = some rest)
def pathR (W H : Int) (cs : List Int) (d : Int → Option Way) : Nat → Int → List Int
  | 0, i => [i]
  | f + 1, i => match d i with
    | none => [i]
    | some w => if w.2 > 1 then (match nextR W H d i (w.1 - cstI cs i, w.2 - 1) with
      | none => [i]
      | some k => i :: pathR W H cs d f k) else [i]
def rbarO (W H : Int) (cs : List Int) : Option (List Int × Way) :=
  match wayR W H cs (bestP (wayR W H cs) W.toNat) with
  | none => none
  | some w => some (pathR W H cs (wayR W H cs) w.2.toNat (bestP (wayR W H cs) W.toNat), w)
section
variable {cost : Int → Int} {ini : Int → Bool} {nb : Int → List Int} {d : Int → Option Way}
theorem OptD.sub (h : OptD cost ini nb d) {i k : Int} {r : List Int} (hk : k ∈ nb i) (hw : isWalk ini nb (k :: r)) (ho : d i = some (valW cost (i :: k :: r))) : d k = some (valW cost (k :: r)) := by
  obtain ⟨w1, h3, h4⟩ := h.comp k r hw
  obtain ⟨l', h5, h6⟩ := h.sound k w1 h3
  obtain ⟨w2, h7, h8⟩ := h.comp i (k :: l') ⟨hk, h5⟩
  rw [ho] at h7; cases h7
  have e1 : valW cost (i :: k :: l') = addW (cost i) w1 := by show addW _ (valW cost (k :: l')) = _; rw [h6]
  have e2 : valW cost (i :: k :: r) = addW (cost i) (valW cost (k :: r)) := rfl
  rw [e1, e2] at h8
  rw [h3, leW_anti h4 (by unfold leW addW at h8; unfold leW; simp only at h8; omega)]
theorem OptD.pos (h : OptD cost ini nb d) {i : Int} {w : Way} (hw : d i = some w) : 1 ≤ w.2 := by
  obtain ⟨l, _, h2⟩ := h.sound i w hw
  have := valW_cells cost (i :: l)
  rw [h2] at this; simp at this; omega
end
section
variable {W H : Int} {cs : List Int}
theorem nbB_cond {i k : Int} (h : k ∈ nbB W H cs i) : inR cs i = true ∧ hldI cs i = true ∧ ¬ i / W = H - 1 := by
  unfold nbB at h
  split at h
  · rename_i hh; simp only [Bool.and_eq_true, Bool.not_eq_true', decide_eq_false_iff_not] at hh; exact hh
  · cases h
theorem nbR_cond {i k : Int} (h : k ∈ nbR W H cs i) : inR cs i = true ∧ hldI cs i = true ∧ k ∈ nearL W H true i := by
  unfold nbR at h
  split at h
  · rename_i hh; simp only [Bool.and_eq_true] at hh; exact ⟨hh.1, hh.2, h⟩
  · cases h
theorem nbR_mk {i k : Int} (h1 : inR cs i = true) (h2 : hldI cs i = true) (h3 : k ∈ nearL W H true i) : k ∈ nbR W H cs i := by
  unfold nbR; rw [h1, h2]; exact h3
theorem nbB_mk {i k : Int} (h1 : inR cs i = true) (h2 : hldI cs i = true) (h3 : k ∈ nearL W H true i) (h4 : ¬ i / W = H - 1) (h5 : ¬ k / W = 0) : k ∈ nbB W H cs i := by
  unfold nbB; rw [h1, h2, dd_f h4]
  exact List.mem_filter.2 ⟨h3, by simp [h5]⟩
theorem walk_BR : ∀ {l : List Int}, isWalk (iniB W H cs) (nbB W H cs) l → isWalk (iniB W H cs) (nbR W H cs) l
  | [i], h => h
  | i :: k :: r, h => ⟨by obtain ⟨h1, h2, _⟩ := nbB_cond h.1; exact nbR_mk h1 h2 (nbB_mem h.1).1, walk_BR h.2⟩
theorem iniB_cond {i : Int} (h : iniB W H cs i = true) : inR cs i = true ∧ hldI cs i = true ∧ i / W = H - 1 := by
  unfold iniB at h; simp only [Bool.and_eq_true, decide_eq_true_eq] at h; exact h
theorem walkR_cond {i : Int} {l : List Int} (h : isWalk (iniB W H cs) (nbR W H cs) (i :: l)) : inR cs i = true ∧ hldI cs i = true := by
  match l, h with
  | [], h => exact ⟨(iniB_cond h).1, (iniB_cond h).2.1⟩
  | k :: r, h => exact ⟨(nbR_cond h.1).1, (nbR_cond h.1).2.1⟩
theorem R_le_B (hok : CO W H cs) {i : Int} {w : Way} (h : wayB W H cs i = some w) : ∃ w', wayR W H cs i = some w' ∧ leW w' w := by
  obtain ⟨l, h1, h2⟩ := (wayB_opt hok).sound i w h
  obtain ⟨w', h3, h4⟩ := (wayR_opt hok).comp i l (walk_BR h1)
  exact ⟨w', h3, h2 ▸ h4⟩
theorem opt_B (hok : CO W H cs) : ∀ (l : List Int) {i : Int}, isWalk (iniB W H cs) (nbR W H cs) (i :: l) → wayR W H cs i = some (valW (cstI cs) (i :: l)) → (∀ x ∈ l, ¬ x / W = 0) → isWalk (iniB W H cs) (nbB W H cs) (i :: l)
  | [], i, h, _, _ => h
  | k :: r, i, h, ho, hr => by
    have hk := (wayR_opt hok).sub h.1 h.2 ho
    have ih := opt_B hok r h.2 hk (fun x hx => hr x (by simp [hx]))
    obtain ⟨c1, c2, c3⟩ := nbR_cond h.1
    refine ⟨nbB_mk c1 c2 c3 (fun hrow => ?_) (hr k (by simp)), ih⟩
    have hi : isWalk (iniB W H cs) (nbR W H cs) [i] := by
      show iniB W H cs i = true
      unfold iniB; rw [c1, c2, dd_t hrow]; rfl
    obtain ⟨w', g1, g2⟩ := (wayR_opt hok).comp i [] hi
    rw [ho] at g1; cases g1
    have g3 := valW_cells (cstI cs) (i :: k :: r)
    have g4 := valW_pos (fun i => (cst_bd hok.cost i).1) (k :: r)
    have e1 : valW (cstI cs) (i :: k :: r) = addW (cstI cs i) (valW (cstI cs) (k :: r)) := rfl
    have e2 : valW (cstI cs) [i] = (cstI cs i, 1) := by simp [valW, addW]
    rw [e2] at g2
    have g5 := valW_cells (cstI cs) (k :: r)
    rw [e1] at g2
    unfold leW addW at g2
    simp only [List.length_cons] at g2 g5
    omega
theorem row0_free (hok : CO W H cs) {ws : Way} (hmin : ∀ x, 0 ≤ x → x < W → ∀ u, wayR W H cs x = some u → leW ws u) {l : List Int} {i : Int} (h : isWalk (iniB W H cs) (nbR W H cs) (i :: l)) (hle : leW (valW (cstI cs) (i :: l)) ws) : ∀ x ∈ l, ¬ x / W = 0 := by
  intro x hx hr
  obtain ⟨a, b, rfl⟩ := List.append_of_mem hx
  have hs : isWalk (iniB W H cs) (nbR W H cs) (x :: b) := walk_suffix (a := i :: a) h
  have hx0 := walk_rng (n := cs.length) iniB_in (nbR_in (by have := hok.w; omega) hok.len) hs x (by simp)
  have hW := hok.w
  have hxW : x < W := by
    have h1 := Int.emod_lt_of_pos x (show 0 < W by omega)
    have h2 := Int.mul_ediv_add_emod x W
    rw [hr] at h2; omega
  obtain ⟨u, g1, g2⟩ := (wayR_opt hok).comp x b hs
  have g3 := hmin x hx0.1 hxW u g1
  have e : valW (cstI cs) (i :: (a ++ x :: b)) = ((valW (cstI cs) (i :: a)).1 + (valW (cstI cs) (x :: b)).1, (valW (cstI cs) (i :: a)).2 + (valW (cstI cs) (x :: b)).2) := valW_app (i :: a) (x :: b)
  have g4 := valW_pos (fun i => (cst_bd hok.cost i).1) (i :: a)
  have g5 := valW_cells (cstI cs) (i :: a)
  have g6 := leW_trans g3 g2
  have g7 := leW_trans hle g6
  rw [e] at g7
  unfold leW at g7
  simp only [List.length_cons] at g7 g5
  omega
theorem eq_B (hok : CO W H cs) {ws : Way} (hmin : ∀ x, 0 ≤ x → x < W → ∀ u, wayR W H cs x = some u → leW ws u) {i : Int} {v : Way} (h : wayR W H cs i = some v) (hle : leW v ws) : wayB W H cs i = some v := by
  obtain ⟨l, h1, h2⟩ := (wayR_opt hok).sound i v h
  have hf := row0_free hok hmin h1 (h2 ▸ hle)
  have hb := opt_B hok l h1 (h2 ▸ h) hf
  obtain ⟨u, g1, g2⟩ := (wayB_opt hok).comp i l hb
  obtain ⟨w', g3, g4⟩ := R_le_B hok g1
  rw [h] at g3; cases g3
  rw [g1, leW_anti (h2 ▸ g2) g4]
theorem path_eq (hok : CO W H cs) {ws : Way} (hmin : ∀ x, 0 ≤ x → x < W → ∀ u, wayR W H cs x = some u → leW ws u) : ∀ (f : Nat) {i : Int} {v : Way}, wayB W H cs i = some v → wayR W H cs i = some v → leW v ws → pathB W H cs (wayB W H cs) f i = pathR W H cs (wayR W H cs) f i
  | 0, i, v, _, _, _ => rfl
  | f + 1, i, v, hB, hR, hle => by
    simp only [pathB, pathR, hB, hR]
    by_cases h1 : v.2 > 1
    · rw [if_pos h1, if_pos h1]
      obtain ⟨l0, s1, s2⟩ := (wayR_opt hok).sound i v hR
      obtain ⟨c1, c2⟩ := walkR_cond s1
      have hci := (cst_bd hok.cost i).1
      have hle2 : leW (v.1 - cstI cs i, v.2 - 1) ws := by unfold leW at hle ⊢; simp only; omega
      have hfun : nextB W H (wayB W H cs) i (v.1 - cstI cs i, v.2 - 1) = nextR W H (wayR W H cs) i (v.1 - cstI cs i, v.2 - 1) := by
        unfold nextB nextR
        refine find_congr fun k hk => ?_
        rw [Bool.eq_iff_iff, Bool.and_eq_true, decide_eq_true_eq, decide_eq_true_eq, Bool.not_eq_true', decide_eq_false_iff_not]
        constructor
        · rintro ⟨g1, g2⟩
          obtain ⟨w', g3, g4⟩ := R_le_B hok g1
          obtain ⟨l', g5, g6⟩ := (wayR_opt hok).sound k w' g3
          obtain ⟨w2, g7, g8⟩ := (wayR_opt hok).comp i (k :: l') ⟨nbR_mk c1 c2 hk, g5⟩
          rw [hR] at g7; cases g7
          have e1 : valW (cstI cs) (i :: k :: l') = addW (cstI cs i) w' := by show addW _ (valW (cstI cs) (k :: l')) = _; rw [g6]
          rw [e1] at g8
          rw [g3, leW_anti g4 (by unfold leW addW at g8; unfold leW; simp only at g8 ⊢; omega)]
        · intro g1
          refine ⟨eq_B hok hmin g1 hle2, fun g2 => ?_⟩
          have hW := hok.w
          obtain ⟨l', g5, _⟩ := (wayR_opt hok).sound k _ g1
          have hx0 := walk_rng (n := cs.length) iniB_in (nbR_in (by omega) hok.len) g5 k (by simp)
          have hxW : k < W := by
            have h1 := Int.emod_lt_of_pos k (show 0 < W by omega)
            have h2 := Int.mul_ediv_add_emod k W
            rw [g2] at h2; omega
          have g3 := leW_trans hle (hmin k hx0.1 hxW _ g1)
          unfold leW at g3; simp only at g3; omega
      rw [hfun]
      cases hn : nextR W H (wayR W H cs) i (v.1 - cstI cs i, v.2 - 1) with
      | none => rfl
      | some k =>
        have g1 := List.find?_some hn
        have g1 := of_decide_eq_true g1
        simp only
        rw [path_eq hok hmin f (eq_B hok hmin g1 hle2) g1 hle2]
    · rw [if_neg h1, if_neg h1]
where
  find_congr {l : List Int} {p q : Int → Bool} (h : ∀ x ∈ l, p x = q x) : l.find? p = l.find? q := by
    induction l with
    | nil => rfl
    | cons x r ih =>
      rw [List.find?_cons, List.find?_cons, h x (by simp), ih (fun y hy => h y (by simp [hy]))]
theorem bar_eq (hok : CO W H cs) : barO W H cs = rbarO W H cs := by
  have hW := hok.w
  obtain ⟨w0, hw0⟩ : ∃ w0 : Nat, (w0 : Int) = W := ⟨W.toNat, by omega⟩
  have hwt : W.toNat = w0 := by omega
  unfold barO rbarO
  rw [hwt]
  have neg1 : ∀ (d : Int → Option Way), (∀ i w, d i = some w → 0 ≤ i) → d (-1) = none := fun d hd => by
    cases h : d (-1) with
    | none => rfl
    | some w => have := hd _ w h; omega
  have hBd : ∀ i w, wayB W H cs i = some w → 0 ≤ i := fun i w h => (wayB_dom hok h).1
  have hRd : ∀ i w, wayR W H cs i = some w → 0 ≤ i := fun i w h => by
    obtain ⟨l, h1, _⟩ := (wayR_opt hok).sound i w h
    exact (walk_rng (n := cs.length) iniB_in (nbR_in (by omega) hok.len) h1 i (by simp)).1
  rcases bestP_spec (wayR W H cs) w0 with ⟨h1, h2⟩ | ⟨b, h1, h2, wb, h3, h4, h5⟩
  · rw [h1, neg1 _ hRd]
    rcases bestP_spec (wayB W H cs) w0 with ⟨g1, _⟩ | ⟨b', g1, g2, wb', g3, _, _⟩
    · rw [g1, neg1 _ hBd]
    · obtain ⟨w', q1, _⟩ := R_le_B hok g3
      rw [h2 b' g2] at q1; cases q1
  · have hmin : ∀ x, 0 ≤ x → x < W → ∀ u, wayR W H cs x = some u → leW wb u := fun x hx0 hxW u hu => by
      obtain ⟨j, rfl⟩ : ∃ j : Nat, (j : Int) = x := ⟨x.toNat, by omega⟩
      exact h4 j (by omega) u hu
    have hbB := eq_B hok hmin h3 (leW_refl _)
    rcases bestP_spec (wayB W H cs) w0 with ⟨g1, g2⟩ | ⟨b', g1, g2, wb', g3, g4, g5⟩
    · rw [g2 b h2] at hbB; cases hbB
    · have k1 := g4 b h2 wb hbB
      obtain ⟨w', q1, q2⟩ := R_le_B hok g3
      have k2 := h4 b' g2 w' q1
      have e1 : wb' = wb := leW_anti k1 (leW_trans k2 q2)
      have e2 : w' = wb := leW_anti (leW_trans q2 k1) k2
      have hbb : b = b' := by
        rcases Nat.lt_trichotomy b b' with h | h | h
        · exact absurd (e1 ▸ leW_refl wb) (g5 b h wb hbB)
        · exact h
        · exact absurd (e2 ▸ leW_refl wb) (h5 b' h w' q1)
      subst hbb
      rw [h1, g1, h3, hbB]
      simp only
      rw [path_eq hok hmin _ hbB h3 (leW_refl _)]
/-- The way down is a walk of that cost, without a cell twice. -/
theorem path_walk (hok : CO W H cs) : ∀ (f : Nat) {i : Int} {w : Way}, wayB W H cs i = some w → w.2.toNat ≤ f → isWalk (iniB W H cs) (nbB W H cs) (pathB W H cs (wayB W H cs) f i) ∧ valW (cstI cs) (pathB W H cs (wayB W H cs) f i) = w ∧ (∃ r, pathB W H cs (wayB W H cs) f i = i :: r) ∧ (pathB W H cs (wayB W H cs) f i).Nodup ∧ ∀ x ∈ pathB W H cs (wayB W H cs) f i, ∃ u, wayB W H cs x = some u ∧ u.2 ≤ w.2
  | 0, i, w, hw, hf => by have := (wayB_opt hok).pos hw; omega
  | f + 1, i, w, hw, hf => by
    have hpos := (wayB_opt hok).pos hw
    obtain ⟨l, s1, s2⟩ := (wayB_opt hok).sound i w hw
    have hc := valW_cells (cstI cs) (i :: l)
    rw [s2] at hc
    by_cases h1 : 1 < w.2
    · obtain ⟨k, hk, hdk⟩ := nextB_some hok hw h1
      obtain ⟨i1, i2, ⟨r, i3⟩, i4, i5⟩ := path_walk hok f hdk (by simp only; omega)
      have hp : pathB W H cs (wayB W H cs) (f + 1) i = i :: pathB W H cs (wayB W H cs) f k := by
        simp only [pathB, hw, hk]; rw [if_pos h1]
      have hkm : k ∈ nbB W H cs i := by
        match l, s1, hc with
        | [], _, hc => simp at hc; omega
        | k' :: r', s1, _ =>
          obtain ⟨c1, c2, c3⟩ := nbB_cond s1.1
          have q1 := List.mem_of_find?_eq_some hk
          have q2 := List.find?_some hk
          simp only [Bool.and_eq_true, Bool.not_eq_true', decide_eq_false_iff_not] at q2
          exact nbB_mk c1 c2 q1 c3 q2.2
      rw [hp]
      refine ⟨by rw [i3] at i1 ⊢; exact ⟨hkm, i1⟩, ?_, ⟨_, rfl⟩, List.nodup_cons.2 ⟨fun hm => ?_, i4⟩, fun x hx => ?_⟩
      · show addW _ (valW (cstI cs) (pathB W H cs (wayB W H cs) f k)) = w
        rw [i2]; unfold addW; exact Prod.ext (by simp only; omega) (by simp only; omega)
      · obtain ⟨u, u1, u2⟩ := i5 i hm
        rw [hw] at u1; cases u1
        simp only at u2; omega
      · rcases List.mem_cons.1 hx with rfl | hx
        · exact ⟨w, hw, Int.le_refl _⟩
        · obtain ⟨u, u1, u2⟩ := i5 x hx
          exact ⟨u, u1, by simp only at u2; omega⟩
    · have hp : pathB W H cs (wayB W H cs) (f + 1) i = [i] := by simp only [pathB, hw]; rw [if_neg (by omega)]
      have hl : l = [] := by
        match l, hc with
        | [], _ => rfl
        | _ :: _, hc => simp at hc; omega
      subst hl
      rw [hp]
      exact ⟨s1, s2, ⟨[], rfl⟩, by simp, fun x hx => by rw [List.mem_singleton.1 hx]; exact ⟨w, hw, Int.le_refl _⟩⟩
theorem cellI_idx {i : Int} (hW : 0 < W) (hi : 0 ≤ i) (hn : i < W * H) : onB W H (cellI W i).1 (cellI W i).2 = true ∧ idxU W (cellI W i) = i := by
  have h1 := Int.emod_nonneg i (show W ≠ 0 by omega)
  have h2 := Int.emod_lt_of_pos i hW
  have h3 := Int.mul_ediv_add_emod i W
  have h4 : 0 ≤ i / W := Int.ediv_nonneg hi (by omega)
  have h5 : i / W < H := Int.ediv_lt_of_lt_mul hW (by rw [Int.mul_comm]; exact hn)
  refine ⟨by simp only [onB, cellI, Bool.and_eq_true]; exact ⟨dd_t h1, dd_t h2, dd_t h4, dd_t h5⟩, ?_⟩
  unfold idxU cellI
  simp only
  rw [Int.mul_comm (i / W) W]; omega
/-- A walk from the first row is a barrier. -/
theorem walk_bar (hok : CO W H cs) {l : List Int} {i : Int} (hw : isWalk (iniB W H cs) (nbB W H cs) (i :: l)) (hi : i / W = 0) (hd : (i :: l).Nodup) : BarP W H cs (cellsL W (i :: l)) := by
  have hW := hok.w
  have hin := walk_rng (n := cs.length) iniB_in (nbB_in (by omega) hok.len) hw
  have hlen := hok.len
  have hn : W * H ≤ 100 := by have := Int.mul_le_mul hok.w.2 hok.h.2 (by have := hok.h; omega) (by omega : (0:Int) ≤ 10); omega
  have hll : (cellsL W (i :: l)).length = (i :: l).length := by simp [cellsL]
  have hget : ∀ j, j < (i :: l).length → (cellsL W (i :: l)).getD j cz = cellI W ((i :: l).getD j 0) := fun j hj => by
    simp only [cellsL, List.getD_eq_getElem?_getD, List.getElem?_map, List.getElem?_eq_getElem hj]; rfl
  have hmem : ∀ j, j < (i :: l).length → (i :: l).getD j 0 ∈ (i :: l) := fun j hj => getD_mem hj
  have hci := fun j hj => cellI_idx (W := W) (H := H) (i := (i :: l).getD j 0) (by omega) (hin _ (hmem j hj)).1 (by have := (hin _ (hmem j hj)).2; omega)
  -- what each member of a walk is
  have key : ∀ (l : List Int), isWalk (iniB W H cs) (nbB W H cs) l → ∀ j, j < l.length → hldI cs (l.getD j 0) = true ∧ (0 < j → ¬ l.getD j 0 / W = 0) ∧ (l.getD j 0 / W = H - 1 ↔ j + 1 = l.length) ∧ (j + 1 < l.length → l.getD (j + 1) 0 ∈ nearL W H true (l.getD j 0)) := by
    intro l
    induction l with
    | nil => intro _ j hj; simp at hj
    | cons a r ih =>
      intro hw j hj
      match r, hw, ih with
      | [], hw, _ =>
        have : j = 0 := by simp at hj; omega
        subst this
        obtain ⟨c1, c2, c3⟩ := iniB_cond hw
        exact ⟨c2, fun h => by omega, ⟨fun _ => rfl, fun _ => c3⟩, fun h => by simp at h⟩
      | k :: r, hw, ih =>
        obtain ⟨c1, c2, c3⟩ := nbB_cond hw.1
        match j with
        | 0 => exact ⟨c2, fun h => by omega, ⟨fun h => absurd h c3, fun h => by simp at h⟩, fun _ => (nbB_mem hw.1).1⟩
        | j + 1 =>
          obtain ⟨q1, q2, q3, q4⟩ := ih hw.2 j (by simpa using hj)
          refine ⟨q1, fun _ => ?_, ⟨fun h => by have := q3.1 h; simp at this ⊢; omega, fun h => q3.2 (by simp at h ⊢; omega)⟩, fun h => q4 (by simpa using h)⟩
          by_cases hj0 : j = 0
          · subst hj0; exact (nbB_mem hw.1).2
          · exact q2 (by omega)
  have hk := key (i :: l) hw
  refine ⟨fun j hj => ?_, fun j m hj hm he => ?_, ⟨by rw [hll]; simp, ?_⟩, fun j hj => ?_, fun j hj => ?_, fun j hj => ?_, fun j hj => ?_⟩
  · rw [hll] at hj; rw [hget j hj]; exact (hci j hj).1
  · rw [hll] at hj
    rw [hget j hj, hget m (by omega)] at he
    have h1 : (i :: l).getD j 0 = (i :: l).getD m 0 := by
      rw [← (hci j hj).2, ← (hci m (by omega)).2, he]
    rw [List.getD_eq_getElem?_getD, List.getD_eq_getElem?_getD, List.getElem?_eq_getElem hj, List.getElem?_eq_getElem (show m < (i :: l).length by omega)] at h1
    exact (List.pairwise_iff_getElem.1 hd) m j (by omega) hj hm h1.symm
  · have := nodup_len cs.length _ hd hin
    rw [hll]; omega
  · rw [hll] at hj
    rw [hget (j + 1) hj, hget j (by omega)]
    have h1 := hci (j + 1) hj
    have h2 := hci j (by omega)
    refine (near_iff h1.1 h2.1).1 ?_
    rw [(idxC_mod h1.1).1, (idxC_mod h2.1).1, h1.2, h2.2]
    exact (hk j (by omega)).2.2.2 hj
  · rw [hll] at hj
    rw [hget j hj, (hci j hj).2]
    have := (hk j hj).1
    unfold hldI at this
    simpa using this
  · rw [hll] at hj
    rw [hget j hj]
    show _ / W = 0 ↔ _
    constructor
    · intro h
      by_cases hj0 : j = 0
      · exact hj0
      · exact absurd h ((hk j hj).2.1 (by omega))
    · rintro rfl; exact hi
  · rw [hll] at hj ⊢
    rw [hget j hj]
    exact (hk j hj).2.2.1
theorem walk_sum {l : List Int} (hW : 0 < W) (hin : ∀ x ∈ l, 0 ≤ x ∧ x < W * H) : sumC W cs (cellsL W l) = (valW (cstI cs) l).1 := by
  unfold sumC sumK
  rw [List.take_length]
  induction l with
  | nil => rfl
  | cons i r ih =>
    have := ih (fun x hx => hin x (by simp [hx]))
    have hi := hin i (by simp)
    have h2 := (cellI_idx (W := W) (H := H) hW hi.1 hi.2).2
    show (cstI cs (idxU W (cellI W i)) :: (cellsL W r).map _).sum = _
    rw [List.sum_cons, this, h2]
    simp only [valW, addW]; omega
/-- The barrier that is found is one, and costs what is said. -/
theorem bar_is (hok : CO W H cs) {l : List Int} {w : Way} (h : barO W H cs = some (l, w)) : BarP W H cs (cellsL W l) ∧ sumC W cs (cellsL W l) = w.1 ∧ (∀ x ∈ l, 0 ≤ x ∧ x < cs.length) ∧ l.length ≤ 100 := by
  have hW := hok.w
  have hlen := hok.len
  obtain ⟨w0, hw0⟩ : ∃ w0 : Nat, (w0 : Int) = W := ⟨W.toNat, by omega⟩
  have hwt : W.toNat = w0 := by omega
  unfold barO at h
  rw [hwt] at h
  rcases bestP_spec (wayB W H cs) w0 with ⟨g1, _⟩ | ⟨b, g1, g2, wb, g3, _, _⟩
  · rw [g1] at h
    cases hd : wayB W H cs (-1) with
    | none => rw [hd] at h; cases h
    | some u => have := (wayB_dom hok hd).1; omega
  · rw [g1, g3] at h
    cases h
    obtain ⟨p1, p2, ⟨r, p3⟩, p4, _⟩ := path_walk hok w.2.toNat g3 (Nat.le_refl _)
    have hin := walk_rng (n := cs.length) iniB_in (nbB_in (by omega) hok.len) p1
    rw [p3] at p1 p2 p4 hin ⊢
    have hbar := walk_bar hok p1 (Int.ediv_eq_zero_of_lt (by omega) (by omega)) p4
    refine ⟨hbar, by rw [walk_sum (H := H) (by omega) (fun x hx => by have := hin x hx; omega), p2], hin, ?_⟩
    have := hbar.len.2
    simpa [cellsL] using this
end
end Go.Proofs.Ytbhpnhcdjmcaoaa

/- Boom, plain: no barrier is cheaper than the one found. -/
namespace Go.Proofs.Ytbhpnhcdjmcaoaa
open Go.RowKit
set_option linter.unusedVariables false
set_option linter.unusedSimpArgs false
/-- A way of cells down to the last row, over land and booms. -/
def looseL (W H : Int) (cs : List Int) : List Cell → Prop
  | [] => False
  | [p] => onB W H p.1 p.2 = true ∧ ¬ cs.getD (idxU W p).toNat 0 = 0 ∧ p.2 = H - 1
  | p :: q :: r => onB W H p.1 p.2 = true ∧ ¬ cs.getD (idxU W p).toNat 0 = 0 ∧ adj true q p ∧ looseL W H cs (q :: r)
section
variable {W H : Int} {cs : List Int}
theorem looseL_head {p : Cell} {r : List Cell} (h : looseL W H cs (p :: r)) : onB W H p.1 p.2 = true ∧ ¬ cs.getD (idxU W p).toNat 0 = 0 := by
  match r, h with
  | [], h => exact ⟨h.1, h.2.1⟩
  | q :: r, h => exact ⟨h.1, h.2.1⟩
theorem idxU_in (hok : CO W H cs) {p : Cell} (h : onB W H p.1 p.2 = true) : 0 ≤ idxU W p ∧ idxU W p < cs.length ∧ idxU W p / W = p.2 ∧ idxU W p % W = p.1 := by
  have ho := onB_t h
  obtain ⟨e, e1, e2⟩ := idxC_mod h
  have hl := hok.len
  rw [e] at e1 e2
  have h1 : 0 ≤ p.2 * W := Int.mul_nonneg ho.2.1 (by omega)
  have h2 : (p.2 + 1) * W ≤ H * W := Int.mul_le_mul_of_nonneg_right (by omega) (by omega)
  rw [Int.add_mul, Int.mul_comm H W] at h2
  refine ⟨?_, ?_, e2, e1⟩ <;> unfold idxU <;> omega
theorem loose_walk (hok : CO W H cs) : ∀ {l : List Cell}, looseL W H cs l → isWalk (iniB W H cs) (nbR W H cs) (l.map (idxU W))
  | [p], h => by
    have hi := idxU_in hok h.1
    show iniB W H cs (idxU W p) = true
    unfold iniB inR hldI
    rw [dd_t ⟨hi.1, hi.2.1⟩, dd_t h.2.1, dd_t (by rw [hi.2.2.1]; exact h.2.2)]; rfl
  | p :: q :: r, h => by
    have hi := idxU_in hok h.1
    refine ⟨nbR_mk (by unfold inR; rw [dd_t ⟨hi.1, hi.2.1⟩]) (by unfold hldI; rw [dd_t h.2.1]) ?_, loose_walk hok h.2.2.2⟩
    have hq := (looseL_head h.2.2.2).1
    have := (near_iff hq h.1).2 h.2.2.1
    rw [(idxC_mod hq).1, (idxC_mod h.1).1] at this
    exact this
theorem bar_loose {l : List Cell} (hb : BarP W H cs l) : ∀ (m k : Nat), k + m + 1 = l.length → looseL W H cs (l.drop k)
  | 0, k, e => by
    have hk : k < l.length := by omega
    rw [List.drop_eq_getElem_cons hk, List.drop_eq_nil_of_le (by omega)]
    have hg : l.getD k cz = l[k] := by rw [List.getD_eq_getElem?_getD, List.getElem?_eq_getElem hk]; rfl
    have h1 := hb.on k hk
    have h2 := hb.hold k hk
    have h3 := (hb.bot k hk).2 (by omega)
    rw [hg] at h1 h2 h3
    exact ⟨h1, h2, h3⟩
  | m + 1, k, e => by
    have hk : k < l.length := by omega
    have hk1 : k + 1 < l.length := by omega
    have ih := bar_loose hb m (k + 1) (by omega)
    rw [List.drop_eq_getElem_cons hk]
    rw [List.drop_eq_getElem_cons hk1] at ih ⊢
    have hg : l.getD k cz = l[k] := by rw [List.getD_eq_getElem?_getD, List.getElem?_eq_getElem hk]; rfl
    have hg1 : l.getD (k + 1) cz = l[k + 1] := by rw [List.getD_eq_getElem?_getD, List.getElem?_eq_getElem hk1]; rfl
    have h1 := hb.on k hk
    have h2 := hb.hold k hk
    have h3 := hb.adj k hk1
    rw [hg] at h1 h2
    rw [hg, hg1] at h3
    exact ⟨h1, h2, h3, ih⟩
theorem sum_val (W : Int) (cs : List Int) : ∀ l : List Cell, sumC W cs l = (valW (cstI cs) (l.map (idxU W))).1
  | [] => rfl
  | p :: r => by
    have := sum_val W cs r
    unfold sumC sumK at this ⊢
    rw [List.take_length] at this ⊢
    show (cstI cs (idxU W p) :: r.map _).sum = _
    rw [List.sum_cons, this]
    show _ = (addW _ _).1
    simp only [addW]; omega
theorem loose_least (hok : CO W H cs) {p : Cell} {r : List Cell} (h : looseL W H cs (p :: r)) (h0 : p.2 = 0) : ∃ l w, barO W H cs = some (l, w) ∧ w.1 ≤ sumC W cs (p :: r) := by
  have hW := hok.w
  obtain ⟨w0, hw0⟩ : ∃ w0 : Nat, (w0 : Int) = W := ⟨W.toNat, by omega⟩
  have hwt : W.toNat = w0 := by omega
  have ho := onB_t (looseL_head h).1
  obtain ⟨v, hv, hle⟩ := (wayR_opt hok).comp _ _ (loose_walk hok h)
  have hi : idxU W p = p.1 := by unfold idxU; rw [h0]; omega
  have hv' : wayR W H cs ((p.1.toNat : Nat) : Int) = some v := by rw [← hv, hi]; congr 1; omega
  rw [bar_eq hok]
  unfold rbarO
  rw [hwt]
  rcases bestP_spec (wayR W H cs) w0 with ⟨_, g2⟩ | ⟨b, g1, g2, wb, g3, g4, _⟩
  · have := g2 p.1.toNat (by omega)
    rw [this] at hv'; cases hv'
  · rw [g1, g3]
    refine ⟨_, _, rfl, ?_⟩
    have h1 := g4 p.1.toNat (by omega) v hv'
    have h2 := leW_trans h1 hle
    have h3 := sum_val W cs (p :: r)
    have h4 : valW (cstI cs) ((p :: r).map (idxU W)) = valW (cstI cs) (idxU W p :: r.map (idxU W)) := rfl
    rw [h3, h4]
    unfold leW at h2; omega
/-- No barrier is cheaper than the one found. -/
theorem bar_least (hok : CO W H cs) {l : List Cell} (hb : BarP W H cs l) : ∃ l' w, barO W H cs = some (l', w) ∧ w.1 ≤ sumC W cs l := by
  have h1 := hb.len
  have h2 := bar_loose hb (l.length - 1) 0 (by omega)
  have h3 := (hb.top 0 (by omega)).2 rfl
  match l, h2, h3 with
  | p :: r, h2, h3 => exact loose_least hok h2 h3
end
end Go.Proofs.Ytbhpnhcdjmcaoaa

/- Boom, plain: water leads from one shore to the other, or what is dry from the first row to the last, never both. -/
namespace Go.Proofs.Ytbhpnhcdjmcaoaa
open Go.RowKit
set_option linter.unusedVariables false
set_option linter.unusedSimpArgs false
/-- Water from which one comes to the last column, and what is dry from which one comes to the last row. -/
inductive RA (W H : Int) (w : Cell → Bool) : Cell → Prop
  | ini {p : Cell} (h : onB W H p.1 p.2 = true) (hw : w p = true) (hx : p.1 = W - 1) : RA W H w p
  | step {p q : Cell} (h : onB W H p.1 p.2 = true) (hw : w p = true) (ha : adj false p q) (hq : RA W H w q) : RA W H w p
inductive RB (W H : Int) (w : Cell → Bool) : Cell → Prop
  | ini {p : Cell} (h : onB W H p.1 p.2 = true) (hw : w p = false) (hx : p.2 = H - 1) : RB W H w p
  | step {p q : Cell} (h : onB W H p.1 p.2 = true) (hw : w p = false) (ha : adj true p q) (hq : RB W H w q) : RB W H w p
theorem RA.on {W H : Int} {w : Cell → Bool} {p : Cell} (h : RA W H w p) : onB W H p.1 p.2 = true ∧ w p = true := by cases h <;> exact ⟨by assumption, by assumption⟩
theorem RB.on {W H : Int} {w : Cell → Bool} {p : Cell} (h : RB W H w p) : onB W H p.1 p.2 = true ∧ w p = false := by cases h <;> exact ⟨by assumption, by assumption⟩
def imB (a b : Bool) : Bool := !a || b
def edB (ap bp aq bq : Bool) : Bool := (ap && bq) ^^ (bp && aq)
def blkB (w1 a1 b1 w2 a2 b2 w3 a3 b3 w4 a4 b4 : Bool) : Bool :=
  imB (imB a1 w1 && imB a2 w2 && imB a3 w3 && imB a4 w4 && imB b1 !w1 && imB b2 !w2 && imB b3 !w3 && imB b4 !w4 &&
    imB (a1 && w2) a2 && imB (a2 && w1) a1 && imB (a1 && w3) a3 && imB (a3 && w1) a1 && imB (a2 && w4) a4 && imB (a4 && w2) a2 && imB (a3 && w4) a4 && imB (a4 && w3) a3 &&
    imB (b1 && !w2) b2 && imB (b2 && !w1) b1 && imB (b1 && !w3) b3 && imB (b3 && !w1) b1 && imB (b1 && !w4) b4 && imB (b4 && !w1) b1 &&
    imB (b2 && !w3) b3 && imB (b3 && !w2) b2 && imB (b2 && !w4) b4 && imB (b4 && !w2) b2 && imB (b3 && !w4) b4 && imB (b4 && !w3) b3)
    (!((edB a1 b1 a2 b2 ^^ edB a3 b3 a4 b4) ^^ (edB a1 b1 a3 b3 ^^ edB a2 b2 a4 b4)))
theorem blk_all : ∀ w1 a1 b1 w2 a2 b2 w3 a3 b3 w4 a4 b4 : Bool, blkB w1 a1 b1 w2 a2 b2 w3 a3 b3 w4 a4 b4 = true := by decide +kernel
theorem imB_of {a b : Bool} (h : a = true → b = true) : imB a b = true := by
  cases a with
  | false => rfl
  | true => rw [h rfl]; rfl
section
variable {W H : Int} {w : Cell → Bool}
open Classical in
noncomputable def aB (W H : Int) (w : Cell → Bool) (p : Cell) : Bool := decide (p.1 = W ∨ RA W H w p)
open Classical in
noncomputable def bB (W H : Int) (w : Cell → Bool) (p : Cell) : Bool := decide ((p.2 = H ∧ p.1 ≠ W) ∨ RB W H w p)
def wX (W H : Int) (w : Cell → Bool) (p : Cell) : Bool := decide (p.1 = W) || (decide (p.2 ≠ H) && w p)
open Classical in
theorem aB_iff {p : Cell} : aB W H w p = true ↔ (p.1 = W ∨ RA W H w p) := by unfold aB; exact @decide_eq_true_iff _ _
open Classical in
theorem bB_iff {p : Cell} : bB W H w p = true ↔ ((p.2 = H ∧ p.1 ≠ W) ∨ RB W H w p) := by unfold bB; exact @decide_eq_true_iff _ _
theorem wX_t {p : Cell} : wX W H w p = true ↔ p.1 = W ∨ (p.2 ≠ H ∧ w p = true) := by
  unfold wX; rw [Bool.or_eq_true, Bool.and_eq_true, decide_eq_true_eq, decide_eq_true_eq]
theorem wX_f {p : Cell} : (!wX W H w p) = true ↔ p.1 ≠ W ∧ (p.2 = H ∨ w p = false) := by
  rw [Bool.not_eq_true', ← Bool.not_eq_true, wX_t]
  cases w p <;> simp <;> omega
/-- Within the board and the shore's column and row behind it. -/
def exB (W H : Int) (p : Cell) : Prop := (0 ≤ p.1 ∧ p.1 ≤ W) ∧ 0 ≤ p.2 ∧ p.2 ≤ H
theorem onB_of {x y : Int} (h : (0 ≤ x ∧ x < W) ∧ 0 ≤ y ∧ y < H) : onB W H x y = true := by
  unfold onB; rw [dd_t (show x ≥ 0 by omega), dd_t (show x < W by omega), dd_t (show y ≥ 0 by omega), dd_t (show y < H by omega)]; rfl
theorem aB_w {p : Cell} (h : aB W H w p = true) : wX W H w p = true := by
  rw [wX_t]
  rcases aB_iff.1 h with h | h
  · exact .inl h
  · have := onB_t h.on.1; exact .inr ⟨by omega, h.on.2⟩
theorem bB_w {p : Cell} (h : bB W H w p = true) : (!wX W H w p) = true := by
  rw [wX_f]
  rcases bB_iff.1 h with h | h
  · exact ⟨h.2, .inl h.1⟩
  · have := onB_t h.on.1; exact ⟨by omega, .inr h.on.2⟩
theorem aB_step {p q : Cell} (hq : exB W H q) (ha : adj false q p) (h : aB W H w p = true) (hw : wX W H w q = true) : aB W H w q = true := by
  rw [aB_iff]
  rcases wX_t.1 hw with h1 | ⟨h1, h2⟩
  · exact .inl h1
  · by_cases hx : q.1 = W
    · exact .inl hx
    · have hon : onB W H q.1 q.2 = true := onB_of (by unfold exB at hq; omega)
      rcases aB_iff.1 h with h3 | h3
      · exact .inr (.ini hon h2 (by have := ha.1; unfold exB at hq; omega))
      · exact .inr (.step hon h2 ha h3)
theorem bB_step {p q : Cell} (hq : exB W H q) (ha : adj true q p) (h : bB W H w p = true) (hw : (!wX W H w q) = true) : bB W H w q = true := by
  rw [bB_iff]
  obtain ⟨h1, h2⟩ := wX_f.1 hw
  by_cases hy : q.2 = H
  · exact .inl ⟨hy, h1⟩
  · have h3 := h2.resolve_left hy
    have hon : onB W H q.1 q.2 = true := onB_of (by unfold exB at hq; omega)
    rcases bB_iff.1 h with h4 | h4
    · exact .inr (.ini hon h3 (by have := ha.2.1; unfold exB at hq; omega))
    · exact .inr (.step hon h3 ha h4)
noncomputable def edC (W H : Int) (w : Cell → Bool) (p q : Cell) : Bool := edB (aB W H w p) (bB W H w p) (aB W H w q) (bB W H w q)
theorem blk_ev {x y : Int} (hx : 0 ≤ x ∧ x + 1 ≤ W) (hy : 0 ≤ y ∧ y + 1 ≤ H) : (edC W H w (x, y) (x + 1, y) ^^ edC W H w (x, y + 1) (x + 1, y + 1)) = (edC W H w (x, y) (x, y + 1) ^^ edC W H w (x + 1, y) (x + 1, y + 1)) := by
  have e1 : exB W H (x, y) := ⟨by show 0 ≤ x ∧ x ≤ W; omega, by show 0 ≤ y ∧ y ≤ H; omega⟩
  have e2 : exB W H (x + 1, y) := ⟨by show 0 ≤ x + 1 ∧ x + 1 ≤ W; omega, by show 0 ≤ y ∧ y ≤ H; omega⟩
  have e3 : exB W H (x, y + 1) := ⟨by show 0 ≤ x ∧ x ≤ W; omega, by show 0 ≤ y + 1 ∧ y + 1 ≤ H; omega⟩
  have e4 : exB W H (x + 1, y + 1) := ⟨by show 0 ≤ x + 1 ∧ x + 1 ≤ W; omega, by show 0 ≤ y + 1 ∧ y + 1 ≤ H; omega⟩
  have n4 : ∀ {a b c d : Int}, ((-1 ≤ a - c ∧ a - c ≤ 1) ∧ (-1 ≤ b - d ∧ b - d ≤ 1) ∧ ¬ (a = c ∧ b = d) ∧ (a = c ∨ b = d)) → adj false (a, b) (c, d) := fun h => ⟨h.1, h.2.1, h.2.2.1, .inr h.2.2.2⟩
  have n8 : ∀ {a b c d : Int}, ((-1 ≤ a - c ∧ a - c ≤ 1) ∧ (-1 ≤ b - d ∧ b - d ≤ 1) ∧ ¬ (a = c ∧ b = d)) → adj true (a, b) (c, d) := fun h => ⟨h.1, h.2.1, h.2.2, .inl rfl⟩
  have hb := blk_all (wX W H w (x, y)) (aB W H w (x, y)) (bB W H w (x, y)) (wX W H w (x + 1, y)) (aB W H w (x + 1, y)) (bB W H w (x + 1, y)) (wX W H w (x, y + 1)) (aB W H w (x, y + 1)) (bB W H w (x, y + 1)) (wX W H w (x + 1, y + 1)) (aB W H w (x + 1, y + 1)) (bB W H w (x + 1, y + 1))
  unfold blkB at hb
  have aS : ∀ {p q : Cell}, exB W H q → adj false q p → imB (aB W H w p && wX W H w q) (aB W H w q) = true := fun hq ha => imB_of fun h => by
    rw [Bool.and_eq_true] at h; exact aB_step hq ha h.1 h.2
  have bS : ∀ {p q : Cell}, exB W H q → adj true q p → imB (bB W H w p && !wX W H w q) (bB W H w q) = true := fun hq ha => imB_of fun h => by
    rw [Bool.and_eq_true] at h; exact bB_step hq ha h.1 h.2
  have aW : ∀ p, imB (aB W H w p) (wX W H w p) = true := fun p => imB_of aB_w
  have bW : ∀ p, imB (bB W H w p) (!wX W H w p) = true := fun p => imB_of bB_w
  rw [aW, aW, aW, aW, bW, bW, bW, bW,
    aS e2 (n4 (by omega)), aS e1 (n4 (by omega)), aS e3 (n4 (by omega)), aS e1 (n4 (by omega)), aS e4 (n4 (by omega)), aS e2 (n4 (by omega)), aS e4 (n4 (by omega)), aS e3 (n4 (by omega)),
    bS e2 (n8 (by omega)), bS e1 (n8 (by omega)), bS e3 (n8 (by omega)), bS e1 (n8 (by omega)), bS e4 (n8 (by omega)), bS e1 (n8 (by omega)), bS e3 (n8 (by omega)), bS e2 (n8 (by omega)), bS e4 (n8 (by omega)), bS e2 (n8 (by omega)), bS e4 (n8 (by omega)), bS e3 (n8 (by omega))] at hb
  have hb : (!((edC W H w (x, y) (x + 1, y) ^^ edC W H w (x, y + 1) (x + 1, y + 1)) ^^ (edC W H w (x, y) (x, y + 1) ^^ edC W H w (x + 1, y) (x + 1, y + 1)))) = true := hb
  revert hb
  cases edC W H w (x, y) (x + 1, y) <;> cases edC W H w (x, y + 1) (x + 1, y + 1) <;> cases edC W H w (x, y) (x, y + 1) <;> cases edC W H w (x + 1, y) (x + 1, y + 1) <;> simp
noncomputable def rowX (W H : Int) (w : Cell → Bool) (y : Int) : Nat → Bool
  | 0 => false
  | k + 1 => rowX W H w y k ^^ edC W H w (k, y) (k + 1, y)
theorem rowX_two {y : Int} (hy : 0 ≤ y ∧ y + 1 ≤ H) : ∀ k : Nat, (k : Int) ≤ W → (rowX W H w y k ^^ rowX W H w (y + 1) k) = (edC W H w (0, y) (0, y + 1) ^^ edC W H w (k, y) (k, y + 1))
  | 0, _ => by simp [rowX]
  | k + 1, h => by
    have ih := rowX_two hy k (by omega)
    have hb := blk_ev (W := W) (H := H) (w := w) (x := k) (y := y) (by omega) hy
    have e : ((k + 1 : Nat) : Int) = (k : Int) + 1 := by omega
    rw [e]
    simp only [rowX]
    revert ih hb
    cases rowX W H w y k <;> cases rowX W H w (y + 1) k <;> cases edC W H w (0, y) (0, y + 1) <;> cases edC W H w (↑k, y) (↑k, y + 1) <;> cases edC W H w (↑k, y) (↑k + 1, y) <;> cases edC W H w (↑k, y + 1) (↑k + 1, y + 1) <;> cases edC W H w (↑k + 1, y) (↑k + 1, y + 1) <;> simp
theorem edC_a {p q : Cell} (hp : aB W H w p = false) (hq : aB W H w q = false) : edC W H w p q = false := by unfold edC edB; rw [hp, hq]; simp
theorem edC_b {p q : Cell} (hp : bB W H w p = false) (hq : bB W H w q = false) : edC W H w p q = false := by unfold edC edB; rw [hp, hq]; simp
theorem aB_no {p : Cell} (h1 : p.1 ≠ W) (h2 : ¬ RA W H w p) : aB W H w p = false := by
  rw [← Bool.not_eq_true, aB_iff]; rintro (h | h); exact h1 h; exact h2 h
theorem bB_no {p : Cell} (h1 : p.2 = H → p.1 = W) (h2 : ¬ RB W H w p) : bB W H w p = false := by
  rw [← Bool.not_eq_true, bB_iff]; rintro (h | h); exact h.2 (h1 h.1); exact h2 h
theorem RA.in {p : Cell} (h : RA W H w p) : p.1 < W ∧ p.2 < H := by have := onB_t h.on.1; omega
theorem RB.in {p : Cell} (h : RB W H w p) : p.1 < W ∧ p.2 < H := by have := onB_t h.on.1; omega
theorem dual_ex (hW : 0 < W) (hH : 0 < H) : (∃ p, RA W H w p ∧ p.1 = 0) ∨ ∃ p, RB W H w p ∧ p.2 = 0 := by
  apply Classical.byContradiction
  intro hno
  have hA : ∀ p : Cell, p.1 = 0 → ¬ RA W H w p := fun p h hr => hno (.inl ⟨p, hr, h⟩)
  have hB : ∀ p : Cell, p.2 = 0 → ¬ RB W H w p := fun p h hr => hno (.inr ⟨p, hr, h⟩)
  obtain ⟨w0, rfl⟩ : ∃ w0 : Nat, W = w0 := ⟨W.toNat, by omega⟩
  obtain ⟨h0, rfl⟩ : ∃ h0 : Nat, H = h0 := ⟨H.toNat, by omega⟩
  have step : ∀ y : Nat, y < h0 → rowX w0 h0 w (y : Int) w0 = rowX w0 h0 w ((y : Int) + 1) w0 := fun y hy => by
    have h1 := rowX_two (w := w) (W := w0) (H := h0) (y := y) (by omega) w0 (Int.le_refl _)
    have h2 : edC w0 h0 w (0, (y : Int)) (0, (y : Int) + 1) = false := edC_a (aB_no (by show (0 : Int) ≠ w0; omega) (hA _ rfl)) (aB_no (by show (0 : Int) ≠ w0; omega) (hA _ rfl))
    have h3 : edC w0 h0 w ((w0 : Int), (y : Int)) ((w0 : Int), (y : Int) + 1) = false := edC_b (bB_no (fun _ => rfl) (fun h => by have := h.in.1; simp only at this; omega)) (bB_no (fun _ => rfl) (fun h => by have := h.in.1; simp only at this; omega))
    rw [h2, h3] at h1
    revert h1
    cases rowX w0 h0 w (y : Int) w0 <;> cases rowX w0 h0 w ((y : Int) + 1) w0 <;> simp
  have all : ∀ y : Nat, y ≤ h0 → rowX w0 h0 w 0 w0 = rowX w0 h0 w (y : Int) w0 := by
    intro y
    induction y with
    | zero => intro _; rfl
    | succ y ih =>
      intro hy
      rw [ih (by omega), step y (by omega)]; rfl
  have top : ∀ k : Nat, k ≤ w0 → rowX w0 h0 w 0 k = false := by
    intro k
    induction k with
    | zero => intro _; rfl
    | succ k ih =>
      intro hk
      simp only [rowX]
      rw [ih (by omega), edC_b (bB_no (fun h => by simp only at h; omega) (hB _ rfl)) (bB_no (fun h => by simp only at h; omega) (hB _ rfl))]; rfl
  have bot : ∀ k : Nat, k < w0 → rowX w0 h0 w (h0 : Int) k = false := by
    intro k
    induction k with
    | zero => intro _; rfl
    | succ k ih =>
      intro hk
      simp only [rowX]
      rw [ih (by omega), edC_a (aB_no (by simp only; omega) (fun h => by have := h.in.2; simp only at this; omega)) (aB_no (by simp only; omega) (fun h => by have := h.in.2; simp only at this; omega))]; rfl
  have h1 := all h0 (Nat.le_refl _)
  rw [top w0 (Nat.le_refl _)] at h1
  obtain ⟨k, rfl⟩ : ∃ k, w0 = k + 1 := ⟨w0 - 1, by omega⟩
  simp only [rowX] at h1
  rw [bot k (by omega)] at h1
  have e : ((k + 1 : Nat) : Int) = (k : Int) + 1 := by omega
  have ha : aB ((k + 1 : Nat) : Int) h0 w ((k : Int) + 1, (h0 : Int)) = true := aB_iff.2 (.inl (by simp only; omega))
  have hb : bB ((k + 1 : Nat) : Int) h0 w ((k : Int), (h0 : Int)) = true := bB_iff.2 (.inl ⟨rfl, by simp only; omega⟩)
  have ha2 : aB ((k + 1 : Nat) : Int) h0 w ((k : Int), (h0 : Int)) = false := aB_no (by simp only; omega) (fun h => by have := h.in.2; simp only at this; omega)
  have hb2 : bB ((k + 1 : Nat) : Int) h0 w ((k : Int) + 1, (h0 : Int)) = false := bB_no (fun _ => by simp only; omega) (fun h => by have := h.in.2; simp only at this; omega)
  unfold edC edB at h1
  rw [ha, hb, ha2, hb2] at h1
  simp at h1
/-- What is dry, as a list from a cell to the last row. -/
def dryL (W H : Int) (w : Cell → Bool) : List Cell → Prop
  | [] => False
  | [p] => onB W H p.1 p.2 = true ∧ w p = false ∧ p.2 = H - 1
  | p :: q :: r => (onB W H p.1 p.2 = true ∧ w p = false ∧ adj true p q) ∧ dryL W H w (q :: r)
theorem RB.list {p : Cell} (h : RB W H w p) : ∃ r, dryL W H w (p :: r) := by
  induction h with
  | ini h hw hx => exact ⟨[], h, hw, hx⟩
  | step h hw ha hq ih => obtain ⟨r, hr⟩ := ih; exact ⟨_ :: r, ⟨h, hw, ha⟩, hr⟩
theorem dryL_head {p : Cell} {r : List Cell} (h : dryL W H w (p :: r)) : onB W H p.1 p.2 = true ∧ w p = false := by
  cases r with
  | nil => exact ⟨h.1, h.2.1⟩
  | cons q r => exact ⟨h.1.1, h.1.2.1⟩
/-- Over each pair of neighbours, the last cell's lower neighbour among them. -/
def xr (H : Int) (s : Cell → Cell → Bool) : List Cell → Bool
  | [] => false
  | [p] => s p (p.1, H)
  | p :: q :: r => s p q ^^ xr H s (q :: r)
theorem xr_congr {s t : Cell → Cell → Bool} (h : ∀ p q : Cell, w p = false → (w q = false ∨ q.2 = H) → (0 ≤ p.1 ∧ p.1 < W) → (0 ≤ q.1 ∧ q.1 < W) → (0 ≤ p.2 ∧ p.2 < H) → (-1 ≤ p.1 - q.1 ∧ p.1 - q.1 ≤ 1) → (-1 ≤ p.2 - q.2 ∧ p.2 - q.2 ≤ 1) → s p q = t p q) :
    ∀ {l : List Cell}, dryL W H w l → xr H s l = xr H t l
  | [p], hl => by
    have ho := onB_t hl.1
    exact h p (p.1, H) hl.2.1 (.inr rfl) ho.1 ho.1 ho.2 (by simp only; omega) (by have := hl.2.2; simp only; omega)
  | p :: q :: r, hl => by
    have ho := onB_t hl.1.1
    have hq := dryL_head hl.2
    simp only [xr]
    rw [xr_congr h hl.2, h p q hl.1.2.1 (.inl hq.2) ho.1 (onB_t hq.1).1 ho.2 hl.1.2.2.1 hl.1.2.2.2.1]
theorem xr_xor (s t : Cell → Cell → Bool) : ∀ l : List Cell, xr H (fun p q => s p q ^^ t p q) l = (xr H s l ^^ xr H t l)
  | [] => rfl
  | [p] => rfl
  | p :: q :: r => by
    simp only [xr]
    rw [xr_xor s t (q :: r)]
    cases s p q <;> cases t p q <;> cases xr H s (q :: r) <;> cases xr H t (q :: r) <;> rfl
theorem xr_tele (g : Cell → Bool) (hg : ∀ p : Cell, p.2 = H → g p = false) : ∀ {p : Cell} {r : List Cell}, xr H (fun p q => g p ^^ g q) (p :: r) = g p
  | p, [] => by simp only [xr]; rw [hg (p.1, H) rfl]; simp
  | p, q :: r => by
    have := xr_tele g hg (p := q) (r := r)
    simp only [xr] at this ⊢
    rw [this]
    cases g p <;> cases g q <;> rfl
/-- Steps between row y and the next one whose end in row y lies left of x; steps between row y and the one before. -/
def crS (x y : Int) (p q : Cell) : Bool := decide (p.2 = y ∧ q.2 = y + 1 ∧ p.1 < x) || decide (q.2 = y ∧ p.2 = y + 1 ∧ q.1 < x)
def cgS (x y : Int) (p q : Cell) : Bool := decide (p.2 = y ∧ q.2 = y - 1 ∧ p.1 < x) || decide (q.2 = y ∧ p.2 = y - 1 ∧ q.1 < x)
def lfS (x y : Int) (p : Cell) : Bool := decide (p.2 = y ∧ p.1 < x)
/-- How often the wall over a cell is crossed, the step from above the first row among them. -/
def fS (H x y : Int) : List Cell → Bool
  | [] => false
  | p :: r => crS x y (p.1, -1) p ^^ xr H (crS x y) (p :: r)
theorem fS_cons (H x y : Int) (p : Cell) (r : List Cell) : fS H x y (p :: r) = (crS x y (p.1, -1) p ^^ xr H (crS x y) (p :: r)) := rfl
theorem fS_right {p : Cell} {r : List Cell} (h : dryL W H w (p :: r)) (hp : p.2 = 0) {x y : Int} (hx : x = W - 1) (hy : 0 ≤ y ∧ y < H) (hw : w (x, y) = true) : fS H x y (p :: r) = true := by
  have hc : xr H (crS x y) (p :: r) = xr H (fun p q => decide (p.2 ≤ y) ^^ decide (q.2 ≤ y)) (p :: r) := xr_congr (fun p q hwp hwq hp1 hq1 hp2 hd1 hd2 => by
    have hpn : ¬ (p.1 = x ∧ p.2 = y) := fun ⟨e1, e2⟩ => by
      have : p = (x, y) := Prod.ext e1 e2
      rw [this, hw] at hwp; cases hwp
    have hqn : q.2 = y → q.1 ≠ x := fun e2 e1 => by
      rcases hwq with hwq | hwq
      · have : q = (x, y) := Prod.ext e1 e2
        rw [this, hw] at hwq; cases hwq
      · omega
    unfold crS
    by_cases h1 : p.2 ≤ y <;> by_cases h2 : q.2 ≤ y
    · rw [dd_t h1, dd_t h2, dd_f (by omega), dd_f (by omega)]; rfl
    · rw [dd_t h1, dd_f h2, dd_t (show p.2 = y ∧ q.2 = y + 1 ∧ p.1 < x by omega)]; rfl
    · have := hqn (by omega)
      rw [dd_f h1, dd_t h2, dd_t (show q.2 = y ∧ p.2 = y + 1 ∧ q.1 < x by omega)]; simp
    · rw [dd_f h1, dd_f h2, dd_f (by omega), dd_f (by omega)]; rfl) h
  rw [fS_cons, hc, xr_tele (fun p : Cell => decide (p.2 ≤ y)) (fun p hp => dd_f (by omega)), dd_t (show p.2 ≤ y by omega)]
  unfold crS
  rw [dd_f (show ¬ ((-1 : Int) = y ∧ p.2 = y + 1 ∧ p.1 < x) by omega), dd_f (show ¬ (p.2 = y ∧ (-1 : Int) = y + 1 ∧ p.1 < x) by omega)]; rfl
theorem fS_zero {p : Cell} {r : List Cell} (h : dryL W H w (p :: r)) {y : Int} : fS H 0 y (p :: r) = false := by
  have hc : xr H (crS 0 y) (p :: r) = xr H (fun _ _ => false ^^ false) (p :: r) := xr_congr (fun p q hwp hwq hp1 hq1 hp2 hd1 hd2 => by
    unfold crS; rw [dd_f (by omega), dd_f (by omega)]; rfl) h
  have hp := onB_t (dryL_head h).1
  rw [fS_cons, hc, xr_tele (fun _ => false) (fun _ _ => rfl)]
  unfold crS
  rw [dd_f (show ¬ ((-1 : Int) = y ∧ p.2 = y + 1 ∧ p.1 < 0) by omega), dd_f (show ¬ (p.2 = y ∧ (-1 : Int) = y + 1 ∧ p.1 < 0) by omega)]; rfl
theorem fS_hor {p : Cell} {r : List Cell} (h : dryL W H w (p :: r)) (hp : p.2 = 0) {x y : Int} (hy : 0 ≤ y ∧ y < H) (hw : w (x, y) = true) : fS H (x + 1) y (p :: r) = fS H x y (p :: r) := by
  have hc : xr H (crS (x + 1) y) (p :: r) = xr H (crS x y) (p :: r) := xr_congr (fun p q hwp hwq hp1 hq1 hp2 hd1 hd2 => by
    have hpn : p.2 = y → p.1 ≠ x := fun e2 e1 => by
      have : p = (x, y) := Prod.ext e1 e2
      rw [this, hw] at hwp; cases hwp
    have hqn : q.2 = y → q.1 ≠ x := fun e2 e1 => by
      rcases hwq with hwq | hwq
      · have : q = (x, y) := Prod.ext e1 e2
        rw [this, hw] at hwq; cases hwq
      · omega
    unfold crS
    congr 1 <;> (rw [decide_eq_decide]) <;> omega) h
  have hpn : p.2 = y → p.1 ≠ x := fun e2 e1 => by
    have hwp := (dryL_head h).2
    have : p = (x, y) := Prod.ext e1 e2
    rw [this, hw] at hwp; cases hwp
  rw [fS_cons, fS_cons, hc]
  congr 1
  unfold crS
  congr 1 <;> (rw [decide_eq_decide]) <;> simp only <;> omega
/-- The steps down out of a row and those up, left of a cell that is wet, are as many but for an even number. -/
theorem fS_turn {p : Cell} {r : List Cell} (h : dryL W H w (p :: r)) (hp : p.2 = 0) {x y : Int} (hy : 0 ≤ y ∧ y < H) (hw : w (x, y) = true) : fS H x y (p :: r) = (cgS x y (p.1, -1) p ^^ xr H (cgS x y) (p :: r)) := by
  have hc : xr H (fun p q => crS x y p q ^^ cgS x y p q) (p :: r) = xr H (fun p q => lfS x y p ^^ lfS x y q) (p :: r) := xr_congr (fun p q hwp hwq hp1 hq1 hp2 hd1 hd2 => by
    have hpn : p.2 = y → p.1 ≠ x := fun e2 e1 => by
      have : p = (x, y) := Prod.ext e1 e2
      rw [this, hw] at hwp; cases hwp
    have hqn : q.2 = y → q.1 ≠ x := fun e2 e1 => by
      rcases hwq with hwq | hwq
      · have : q = (x, y) := Prod.ext e1 e2
        rw [this, hw] at hwq; cases hwq
      · omega
    unfold crS cgS lfS
    by_cases h1 : p.2 = y ∧ p.1 < x <;> by_cases h2 : q.2 = y ∧ q.1 < x
    · rw [dd_t h1, dd_t h2, dd_f (by omega), dd_f (by omega), dd_f (by omega), dd_f (by omega)]; rfl
    · have h3 : q.2 ≠ y := fun e => by have := hqn e; omega
      by_cases h4 : q.2 = y + 1
      · rw [dd_t h1, dd_f h2, dd_t (show p.2 = y ∧ q.2 = y + 1 ∧ p.1 < x by omega), dd_f (show ¬ (q.2 = y ∧ p.2 = y + 1 ∧ q.1 < x) by omega), dd_f (show ¬ (p.2 = y ∧ q.2 = y - 1 ∧ p.1 < x) by omega), dd_f (show ¬ (q.2 = y ∧ p.2 = y - 1 ∧ q.1 < x) by omega)]; rfl
      · rw [dd_t h1, dd_f h2, dd_f (show ¬ (p.2 = y ∧ q.2 = y + 1 ∧ p.1 < x) by omega), dd_f (show ¬ (q.2 = y ∧ p.2 = y + 1 ∧ q.1 < x) by omega), dd_t (show (p.2 = y ∧ q.2 = y - 1 ∧ p.1 < x) by omega), dd_f (show ¬ (q.2 = y ∧ p.2 = y - 1 ∧ q.1 < x) by omega)]; rfl
    · have h3 : p.2 ≠ y := fun e => by have := hpn e; omega
      by_cases h4 : p.2 = y + 1
      · rw [dd_f h1, dd_t h2, dd_f (show ¬ (p.2 = y ∧ q.2 = y + 1 ∧ p.1 < x) by omega), dd_t (show (q.2 = y ∧ p.2 = y + 1 ∧ q.1 < x) by omega), dd_f (show ¬ (p.2 = y ∧ q.2 = y - 1 ∧ p.1 < x) by omega), dd_f (show ¬ (q.2 = y ∧ p.2 = y - 1 ∧ q.1 < x) by omega)]; rfl
      · rw [dd_f h1, dd_t h2, dd_f (show ¬ (p.2 = y ∧ q.2 = y + 1 ∧ p.1 < x) by omega), dd_f (show ¬ (q.2 = y ∧ p.2 = y + 1 ∧ q.1 < x) by omega), dd_f (show ¬ (p.2 = y ∧ q.2 = y - 1 ∧ p.1 < x) by omega), dd_t (show (q.2 = y ∧ p.2 = y - 1 ∧ q.1 < x) by omega)]; rfl
    · rw [dd_f h1, dd_f h2, dd_f (by omega), dd_f (by omega), dd_f (by omega), dd_f (by omega)]; rfl) h
  rw [xr_xor, xr_tele (lfS x y) (fun p hp => by unfold lfS; exact dd_f (by omega))] at hc
  have ht : (crS x y (p.1, -1) p ^^ cgS x y (p.1, -1) p) = lfS x y p := by
    unfold crS cgS lfS
    simp only
    by_cases h1 : p.2 = y ∧ p.1 < x
    · rw [dd_t h1, dd_f (show ¬ ((-1 : Int) = y ∧ p.2 = y + 1 ∧ p.1 < x) by omega), dd_f (show ¬ (p.2 = y ∧ (-1 : Int) = y + 1 ∧ p.1 < x) by omega), dd_f (show ¬ ((-1 : Int) = y ∧ p.2 = y - 1 ∧ p.1 < x) by omega), dd_t (show (p.2 = y ∧ (-1 : Int) = y - 1 ∧ p.1 < x) by omega)]; rfl
    · rw [dd_f h1, dd_f (show ¬ ((-1 : Int) = y ∧ p.2 = y + 1 ∧ p.1 < x) by omega), dd_f (show ¬ (p.2 = y ∧ (-1 : Int) = y + 1 ∧ p.1 < x) by omega), dd_f (show ¬ ((-1 : Int) = y ∧ p.2 = y - 1 ∧ p.1 < x) by omega), dd_f (show ¬ (p.2 = y ∧ (-1 : Int) = y - 1 ∧ p.1 < x) by omega)]; rfl
  rw [fS_cons]
  revert hc ht
  cases xr H (crS x y) (p :: r) <;> cases xr H (cgS x y) (p :: r) <;> cases lfS x y p <;> cases crS x y (p.1, -1) p <;> cases cgS x y (p.1, -1) p <;> simp
theorem fS_ver {p : Cell} {r : List Cell} (h : dryL W H w (p :: r)) (hp : p.2 = 0) {x y : Int} (hy : 0 ≤ y ∧ y + 1 < H) (hw : w (x, y) = true) (hw2 : w (x, y + 1) = true) : fS H x y (p :: r) = fS H x (y + 1) (p :: r) := by
  rw [fS_turn h hp (by omega) hw2]
  have hc : xr H (crS x y) (p :: r) = xr H (cgS x (y + 1)) (p :: r) := xr_congr (fun p q hwp hwq hp1 hq1 hp2 hd1 hd2 => by
    have no : ∀ c : Cell, w c = false → ¬ (c.1 = x ∧ (c.2 = y ∨ c.2 = y + 1)) := fun c hc ⟨e1, e2⟩ => by
      rcases e2 with e2 | e2
      · have : c = (x, y) := Prod.ext e1 e2
        rw [this, hw] at hc; cases hc
      · have : c = (x, y + 1) := Prod.ext e1 e2
        rw [this, hw2] at hc; cases hc
    have hpn := no p hwp
    have hqn : ¬ (q.1 = x ∧ (q.2 = y ∨ q.2 = y + 1)) := by
      rcases hwq with hwq | hwq
      · exact no q hwq
      · omega
    unfold crS cgS
    rw [Bool.or_comm]
    congr 1 <;> (rw [decide_eq_decide]) <;> omega) h
  rw [fS_cons, hc]
  congr 1
  unfold crS cgS
  rw [dd_f (show ¬ ((-1 : Int) = y ∧ p.2 = y + 1 ∧ p.1 < x) by omega), dd_f (show ¬ (p.2 = y ∧ (-1 : Int) = y + 1 ∧ p.1 < x) by omega), dd_f (show ¬ ((-1 : Int) = y + 1 ∧ p.2 = y + 1 - 1 ∧ p.1 < x) by omega), dd_f (show ¬ (p.2 = y + 1 ∧ (-1 : Int) = y + 1 - 1 ∧ p.1 < x) by omega)]
theorem fS_all {p : Cell} {r : List Cell} (h : dryL W H w (p :: r)) (hp : p.2 = 0) {c : Cell} (hc : RA W H w c) : fS H c.1 c.2 (p :: r) = true := by
  induction hc with
  | @ini c ho hw hx => exact fS_right h hp hx (onB_t ho).2 hw
  | @step c q ho hw ha hq ih =>
    obtain ⟨hqo, hqw⟩ := hq.on
    have h1 := onB_t ho
    have h2 := onB_t hqo
    obtain ⟨cx, cy⟩ := c
    obtain ⟨qx, qy⟩ := q
    obtain ⟨a1, a2, a3, a4⟩ := ha
    simp only at *
    rcases a4.resolve_left (by simp) with e | e
    · subst e
      by_cases hlt : qy = cy + 1
      · subst hlt
        rw [fS_ver h hp (by omega) hw hqw]; exact ih
      · have : cy = qy + 1 := by omega
        subst this
        rw [← fS_ver h hp (by omega) hqw hw]; exact ih
    · subst e
      by_cases hlt : qx = cx + 1
      · subst hlt
        rw [← fS_hor h hp (by omega) hw]; exact ih
      · have : cx = qx + 1 := by omega
        subst this
        rw [fS_hor h hp (by omega) hqw]; exact ih
/-- Never both. -/
theorem dual_no {c p : Cell} (hc : RA W H w c) (h0 : c.1 = 0) (hp : RB W H w p) (h1 : p.2 = 0) : False := by
  obtain ⟨r, hr⟩ := hp.list
  have := fS_all hr h1 hc
  rw [h0, fS_zero hr] at this; cases this
end
end Go.Proofs.Ytbhpnhcdjmcaoaa

/- Boom, plain: neighbours the other way round. -/
namespace Go.Proofs.Ytbhpnhcdjmcaoaa
open Go.RowKit
set_option linter.unusedVariables false
set_option linter.unusedSimpArgs false
theorem near_symm {W H : Int} {e : Bool} {i k : Int} (hW : 0 < W) (hi : 0 ≤ i) (hn : i < W * H) (h : k ∈ nearL W H e i) : i ∈ nearL W H e k := by
  have hk := near_in hW h
  obtain ⟨a1, a2⟩ := cellI_idx (W := W) (H := H) hW hi hn
  obtain ⟨b1, b2⟩ := cellI_idx (W := W) (H := H) hW hk.1 hk.2
  have e1 : idxC W H (cellI W i) = i := (idxC_mod a1).1.trans a2
  have e2 : idxC W H (cellI W k) = k := (idxC_mod b1).1.trans b2
  rw [← e1, ← e2] at h ⊢
  exact (near_iff a1 b1).2 (adj_symm ((near_iff b1 a1).1 h))
end Go.Proofs.Ytbhpnhcdjmcaoaa

/- Boom, plain: how many steps it is over water. -/
namespace Go.Proofs.Ytbhpnhcdjmcaoaa
open Go.RowKit
set_option linter.unusedVariables false
set_option linter.unusedSimpArgs false
/-- How many steps it is. -/
structure DistD (ini : Int → Bool) (nb : Int → List Int) (d : Int → Option Int) : Prop where
  sound : ∀ i n, d i = some n → ∃ l, isWalk ini nb (i :: l) ∧ (l.length : Int) = n
  comp : ∀ i l, isWalk ini nb (i :: l) → ∃ n, d i = some n ∧ n ≤ l.length
theorem DistD.unique {ini : Int → Bool} {nb : Int → List Int} {d d' : Int → Option Int} (h : DistD ini nb d) (h' : DistD ini nb d') : d = d' := by
  funext i
  cases hd : d i with
  | none =>
    cases hd' : d' i with
    | none => rfl
    | some n =>
      obtain ⟨l, h1, _⟩ := h'.sound i n hd'
      obtain ⟨m, h2, _⟩ := h.comp i l h1
      rw [hd] at h2; cases h2
  | some n =>
    obtain ⟨l, h1, h2⟩ := h.sound i n hd
    obtain ⟨m, h3, h4⟩ := h'.comp i l h1
    obtain ⟨l', h5, h6⟩ := h'.sound i m h3
    obtain ⟨n', h7, h8⟩ := h.comp i l' h5
    rw [hd] at h7; cases h7
    rw [h3]; congr 1; omega
theorem least_ex {p : Nat → Prop} : ∀ (n : Nat), p n → ∃ n, p n ∧ ∀ m, p m → n ≤ m
  | 0, h => ⟨0, h, fun m _ => Nat.zero_le m⟩
  | n + 1, h => by
    by_cases hl : ∃ m, m < n + 1 ∧ p m
    · obtain ⟨m, hm, hp⟩ := hl
      exact least_ex m hp
    · exact ⟨n + 1, h, fun m hm => by
        by_cases hh : n + 1 ≤ m
        · exact hh
        · exact absurd ⟨m, by omega, hm⟩ hl⟩
termination_by n => n
open Classical in
noncomputable def distO (ini : Int → Bool) (nb : Int → List Int) (i : Int) : Option Int :=
  if h : ∃ n : Nat, (∃ l, isWalk ini nb (i :: l) ∧ l.length = n) ∧ ∀ m : Nat, (∃ l, isWalk ini nb (i :: l) ∧ l.length = m) → n ≤ m then some (Classical.choose h : Nat) else none
theorem distO_is (ini : Int → Bool) (nb : Int → List Int) : DistD ini nb (distO ini nb) := by
  refine ⟨fun i n h => ?_, fun i l h => ?_⟩
  · unfold distO at h
    split at h
    · rename_i hh
      obtain ⟨⟨l, h1, h2⟩, _⟩ := Classical.choose_spec hh
      cases h
      exact ⟨l, h1, by rw [h2]⟩
    · cases h
  · obtain ⟨n, h1, h2⟩ := least_ex (p := fun n => ∃ l, isWalk ini nb (i :: l) ∧ l.length = n) l.length ⟨l, h, rfl⟩
    have hh : ∃ n : Nat, (∃ l, isWalk ini nb (i :: l) ∧ l.length = n) ∧ ∀ m : Nat, (∃ l, isWalk ini nb (i :: l) ∧ l.length = m) → n ≤ m := ⟨n, h1, h2⟩
    refine ⟨(Classical.choose hh : Nat), by unfold distO; rw [dif_pos hh], ?_⟩
    have := (Classical.choose_spec hh).2 l.length ⟨l, h, rfl⟩
    omega
def updI (d : Int → Option Int) (i n : Int) : Int → Option Int := fun j => if j = i then some n else d j
def leV (d : Int → Option Int) (a b : Int) : Prop := ∀ m n, d a = some m → d b = some n → m ≤ n
section
variable {ini : Int → Bool} {nb : Int → List Int}
/-- What a queue's round is: h: how far its cell is; pre: the neighbours that were looked at. -/
structure BI (ini : Int → Bool) (nb : Int → List Int) (d : Int → Option Int) (q : List Int) (p : Nat) (h i : Int) (pre : List Int) : Prop where
  sound : ∀ j n, d j = some n → ∃ l, isWalk ini nb (j :: l) ∧ (l.length : Int) = n
  nd : q.Nodup
  mem : ∀ j, j ∈ q ↔ ∃ n, d j = some n
  ini0 : ∀ j, ini j = true → d j = some 0
  bnd : ∀ j n, d j = some n → 0 ≤ n ∧ n < q.length
  le : ∀ j n, d j = some n → n ≤ h + 1
  ge : ∀ j ∈ q.drop p, ∀ n, d j = some n → h ≤ n
  sort : (q.drop p).Pairwise (leV d)
  done : ∀ j ∈ q.take p, ∀ k ∈ nb j, (j = i → k ∈ pre) → ∃ n m, d j = some n ∧ d k = some m ∧ m ≤ n + 1
  cur : d i = some h
  here : p ≤ q.length
structure BO (ini : Int → Bool) (nb : Int → List Int) (d : Int → Option Int) (q : List Int) (p : Nat) : Prop where
  sound : ∀ j n, d j = some n → ∃ l, isWalk ini nb (j :: l) ∧ (l.length : Int) = n
  nd : q.Nodup
  mem : ∀ j, j ∈ q ↔ ∃ n, d j = some n
  ini0 : ∀ j, ini j = true → d j = some 0
  bnd : ∀ j n, d j = some n → 0 ≤ n ∧ n < q.length
  le : ∀ a r, q.drop p = a :: r → ∀ m, d a = some m → ∀ j n, d j = some n → n ≤ m + 1
  sort : (q.drop p).Pairwise (leV d)
  done : ∀ j ∈ q.take p, ∀ k ∈ nb j, ∃ n m, d j = some n ∧ d k = some m ∧ m ≤ n + 1
  here : p ≤ q.length
theorem updI_ne {d : Int → Option Int} {k n j : Int} (h : j ≠ k) : updI d k n j = d j := by unfold updI; rw [if_neg h]
theorem BI.put {d : Int → Option Int} {q : List Int} {p : Nat} {h i : Int} {pre : List Int} {k : Int} (B : BI ini nb d q p h i pre) (hk : d k = none) (hn : k ∈ nb i) (hs : i ∈ nb k) : BI ini nb (updI d k (h + 1)) (q ++ [k]) p h i (pre ++ [k]) := by
  have hkq : k ∉ q := fun hh => by obtain ⟨n, h1⟩ := (B.mem k).1 hh; rw [hk] at h1; cases h1
  have hne : ∀ {j : Int}, j ∈ q → j ≠ k := fun hj e => hkq (e ▸ hj)
  have hnes : ∀ {j n : Int}, d j = some n → j ≠ k := fun hj e => by rw [e, hk] at hj; cases hj
  have hself : updI d k (h + 1) k = some (h + 1) := by simp [updI]
  have hdrop : (q ++ [k]).drop p = q.drop p ++ [k] := List.drop_append_of_le_length B.here
  have htake : (q ++ [k]).take p = q.take p := List.take_append_of_le_length B.here
  refine ⟨fun j n hj => ?_, ?_, fun j => ?_, fun j hj => ?_, fun j n hj => ?_, fun j n hj => ?_, fun j hj n hjn => ?_, ?_, fun j hj k' hk' hpre => ?_, ?_, by rw [List.length_append]; have := B.here; omega⟩
  · by_cases hjk : j = k
    · subst hjk
      rw [hself] at hj; cases hj
      obtain ⟨l, h1, h2⟩ := B.sound i h B.cur
      exact ⟨i :: l, ⟨hs, h1⟩, by simp; omega⟩
    · rw [updI_ne hjk] at hj; exact B.sound j n hj
  · rw [List.nodup_append]
    exact ⟨B.nd, by simp, fun a ha b hb => by rw [List.mem_singleton.1 hb]; exact hne ha⟩
  · rw [List.mem_append, List.mem_singleton]
    constructor
    · rintro (hj | rfl)
      · obtain ⟨n, h1⟩ := (B.mem j).1 hj
        exact ⟨n, by rw [updI_ne (hne hj)]; exact h1⟩
      · exact ⟨_, hself⟩
    · rintro ⟨n, hj⟩
      by_cases hjk : j = k
      · exact .inr hjk
      · rw [updI_ne hjk] at hj; exact .inl ((B.mem j).2 ⟨n, hj⟩)
  · have := B.ini0 j hj
    rw [updI_ne (hnes this)]; exact this
  · have hh := (B.bnd i h B.cur)
    rw [List.length_append]
    by_cases hjk : j = k
    · subst hjk; rw [hself] at hj; cases hj; simp; omega
    · rw [updI_ne hjk] at hj; have := B.bnd j n hj; simp; omega
  · by_cases hjk : j = k
    · subst hjk; rw [hself] at hj; cases hj; omega
    · rw [updI_ne hjk] at hj; exact B.le j n hj
  · rw [hdrop] at hj
    rcases List.mem_append.1 hj with hj | hj
    · rw [updI_ne (hne (List.mem_of_mem_drop hj))] at hjn; exact B.ge j hj n hjn
    · rw [List.mem_singleton.1 hj, hself] at hjn; cases hjn; omega
  · rw [hdrop, List.pairwise_append]
    refine ⟨List.Pairwise.imp_of_mem (fun {a b} ha hb hab m n hm hn => ?_) B.sort, by simp, fun a ha b hb m n hm hn => ?_⟩
    · rw [updI_ne (hne (List.mem_of_mem_drop ha))] at hm
      rw [updI_ne (hne (List.mem_of_mem_drop hb))] at hn
      exact hab m n hm hn
    · rw [updI_ne (hne (List.mem_of_mem_drop ha))] at hm
      rw [List.mem_singleton.1 hb, hself] at hn; cases hn
      exact B.le a m hm
  · rw [htake] at hj
    have hjq : j ∈ q := List.mem_of_mem_take hj
    by_cases hc : j = i ∧ k' = k
    · obtain ⟨rfl, rfl⟩ := hc
      exact ⟨h, h + 1, by rw [updI_ne (hne hjq)]; exact B.cur, hself, Int.le_refl _⟩
    · obtain ⟨n, m, h1, h2, h3⟩ := B.done j hj k' hk' (fun e => by
        have := hpre e
        rcases List.mem_append.1 this with hp | hp
        · exact hp
        · exact absurd ⟨e, List.mem_singleton.1 hp⟩ hc)
      exact ⟨n, m, by rw [updI_ne (hne hjq)]; exact h1, by rw [updI_ne (hnes h2)]; exact h2, h3⟩
  · rw [updI_ne (hnes B.cur)]; exact B.cur
theorem BI.keep {d : Int → Option Int} {q : List Int} {p : Nat} {h i : Int} {pre : List Int} {k : Int} (B : BI ini nb d q p h i pre) (hk : k ∈ nb i → ∃ n, d k = some n) : BI ini nb d q p h i (pre ++ [k]) := by
  refine ⟨B.sound, B.nd, B.mem, B.ini0, B.bnd, B.le, B.ge, B.sort, fun j hj k' hk' hpre => ?_, B.cur, B.here⟩
  by_cases hc : j = i ∧ k' = k
  · obtain ⟨rfl, rfl⟩ := hc
    obtain ⟨n, h1⟩ := hk hk'
    exact ⟨h, n, B.cur, h1, B.le _ _ h1⟩
  · exact B.done j hj k' hk' (fun e => by
      have := hpre e
      rcases List.mem_append.1 this with hp | hp
      · exact hp
      · exact absurd ⟨e, List.mem_singleton.1 hp⟩ hc)
theorem drop_cons {q r : List Int} {p : Nat} {i : Int} (hq : q.drop p = i :: r) : p < q.length ∧ q.drop (p + 1) = r ∧ q.take (p + 1) = q.take p ++ [i] ∧ q.getD p 0 = i := by
  have hlt : p < q.length := by
    by_cases hp : p < q.length
    · exact hp
    · rw [List.drop_eq_nil_of_le (by omega)] at hq; cases hq
  have h1 := List.drop_eq_getElem_cons hlt
  rw [hq] at h1
  injection h1 with h2 h3
  refine ⟨hlt, h3.symm, ?_, ?_⟩
  · rw [List.take_add_one, List.getElem?_eq_getElem hlt, ← h2]; rfl
  · rw [List.getD_eq_getElem?_getD, List.getElem?_eq_getElem hlt, ← h2]; rfl
theorem BO.pop {d : Int → Option Int} {q r : List Int} {p : Nat} {i : Int} (B : BO ini nb d q p) (hq : q.drop p = i :: r) : ∃ h, d i = some h ∧ BI ini nb d q (p + 1) h i [] := by
  obtain ⟨hlt, h1, h2, _⟩ := drop_cons hq
  have hiq : i ∈ q := List.mem_of_mem_drop (i := p) (by rw [hq]; simp)
  obtain ⟨h, hi⟩ := (B.mem i).1 hiq
  have hs := B.sort
  rw [hq] at hs
  obtain ⟨hs1, hs2⟩ := List.pairwise_cons.1 hs
  refine ⟨h, hi, B.sound, B.nd, B.mem, B.ini0, B.bnd, B.le i r hq h hi, fun j hj n hn => ?_, by rw [h1]; exact hs2, fun j hj k hk hpre => ?_, hi, by omega⟩
  · rw [h1] at hj; exact hs1 j hj h n hi hn
  · rw [h2] at hj
    rcases List.mem_append.1 hj with hj | hj
    · exact B.done j hj k hk
    · have := hpre (List.mem_singleton.1 hj); cases this
theorem BI.close {d : Int → Option Int} {q : List Int} {p : Nat} {h i : Int} {pre : List Int} (B : BI ini nb d q p h i pre) (hall : ∀ k ∈ nb i, k ∈ pre) : BO ini nb d q p := by
  refine ⟨B.sound, B.nd, B.mem, B.ini0, B.bnd, fun a r hq m hm j n hn => ?_, B.sort, fun j hj k hk => B.done j hj k hk (fun e => hall k (e ▸ hk)), B.here⟩
  have h1 := B.ge a (by rw [hq]; simp) m hm
  have h2 := B.le j n hn
  omega
theorem BO.dist {d : Int → Option Int} {q : List Int} {p : Nat} (B : BO ini nb d q p) (hp : q.drop p = []) (hsym : ∀ a b, b ∈ nb a → a ∈ nb b) : DistD ini nb d := by
  have ht : q.take p = q := List.take_of_length_le (List.drop_eq_nil_iff.1 hp)
  refine ⟨B.sound, ?_⟩
  intro i l
  induction l generalizing i with
  | nil => intro h; exact ⟨0, B.ini0 i h, by simp⟩
  | cons k r ih =>
    intro h
    obtain ⟨m, h1, h2⟩ := ih k h.2
    obtain ⟨n, m', h3, h4, h5⟩ := B.done k (by rw [ht]; exact (B.mem k).2 ⟨m, h1⟩) i (hsym i k h.1)
    rw [h1] at h3; cases h3
    exact ⟨m', h4, by simp; omega⟩
/-- One step nearer. -/
theorem DistD.next {d : Int → Option Int} (h : DistD ini nb d) {i n : Int} (hd : d i = some n) (h0 : 0 < n) : ∃ k ∈ nb i, d k = some (n - 1) := by
  obtain ⟨l, h1, h2⟩ := h.sound i n hd
  match l, h1, h2 with
  | [], _, h2 => simp at h2; omega
  | k :: r, h1, h2 =>
    obtain ⟨m, h3, h4⟩ := h.comp k r h1.2
    obtain ⟨l', h5, h6⟩ := h.sound k m h3
    obtain ⟨n', h7, h8⟩ := h.comp i (k :: l') ⟨h1.1, h5⟩
    rw [hd] at h7; cases h7
    simp at h2 h8
    exact ⟨k, h1.1, by rw [h3]; congr 1; omega⟩
theorem DistD.pos {d : Int → Option Int} (h : DistD ini nb d) {i n : Int} (hd : d i = some n) : 0 ≤ n := by
  obtain ⟨l, _, h2⟩ := h.sound i n hd; omega
end
/-- The first cells of a column that are wet, and the neighbours that are. -/
def iniW (W : Int) (n : Nat) (wet : Int → Bool) (col i : Int) : Bool := decide (0 ≤ i ∧ i < n) && (wet i && decide (i % W = col))
def nbW (W H : Int) (n : Nat) (wet : Int → Bool) (i : Int) : List Int := if decide (0 ≤ i ∧ i < n) && wet i then (nearL W H false i).filter wet else []
theorem iniW_in {W : Int} {n : Nat} {wet : Int → Bool} {col : Int} (i : Int) (h : iniW W n wet col i = true) : 0 ≤ i ∧ i < n := by
  unfold iniW at h; simp only [Bool.and_eq_true, decide_eq_true_eq] at h; exact h.1
theorem nbW_iff {W H : Int} {n : Nat} {wet : Int → Bool} {i k : Int} : k ∈ nbW W H n wet i ↔ (0 ≤ i ∧ i < n) ∧ wet i = true ∧ k ∈ nearL W H false i ∧ wet k = true := by
  unfold nbW
  split
  · rename_i h
    simp only [Bool.and_eq_true, decide_eq_true_eq] at h
    rw [List.mem_filter]
    exact ⟨fun hh => ⟨h.1, h.2, hh⟩, fun hh => hh.2.2⟩
  · rename_i h
    constructor
    · intro hh; cases hh
    · rintro ⟨h1, h2, _⟩; exact absurd (by rw [h2, dd_t h1]; rfl) h
theorem nbW_in {W H : Int} {n : Nat} {wet : Int → Bool} (hW : 0 < W) (hn : (n : Int) = W * H) (i k : Int) (h : k ∈ nbW W H n wet i) : (0 ≤ i ∧ i < n) ∧ 0 ≤ k ∧ k < n := by
  obtain ⟨h1, _, h2, _⟩ := nbW_iff.1 h
  have := near_in hW h2
  exact ⟨h1, by omega⟩
theorem nbW_sym {W H : Int} {n : Nat} {wet : Int → Bool} (hW : 0 < W) (hn : (n : Int) = W * H) (a b : Int) (h : b ∈ nbW W H n wet a) : a ∈ nbW W H n wet b := by
  obtain ⟨h1, h2, h3, h4⟩ := nbW_iff.1 h
  have := near_in hW h3
  exact nbW_iff.2 ⟨by omega, h4, near_symm hW h1.1 (by omega) h3, h2⟩
/-- How many steps it is to a column. -/
noncomputable def distW (W H : Int) (n : Nat) (wet : Int → Bool) (col : Int) : Int → Option Int := distO (iniW W n wet col) (nbW W H n wet)
theorem BO.len {W H : Int} {n : Nat} {wet : Int → Bool} {col : Int} (hW : 0 < W) (hn : (n : Int) = W * H) {d : Int → Option Int} {q : List Int} {p : Nat} (B : BO (iniW W n wet col) (nbW W H n wet) d q p) : q.length ≤ n ∧ ∀ x ∈ q, 0 ≤ x ∧ x < n := by
  have h : ∀ x ∈ q, 0 ≤ x ∧ x < n := fun x hx => by
    obtain ⟨m, hm⟩ := (B.mem x).1 hx
    obtain ⟨l, h1, _⟩ := B.sound x m hm
    exact walk_rng (n := n) iniW_in (nbW_in hW hn) h1 x (by simp)
  exact ⟨nodup_len n q B.nd h, h⟩
theorem BI.len {W H : Int} {n : Nat} {wet : Int → Bool} {col : Int} (hW : 0 < W) (hn : (n : Int) = W * H) {d : Int → Option Int} {q : List Int} {p : Nat} {h i : Int} {pre : List Int} (B : BI (iniW W n wet col) (nbW W H n wet) d q p h i pre) : q.length ≤ n ∧ ∀ x ∈ q, 0 ≤ x ∧ x < n := by
  have h : ∀ x ∈ q, 0 ≤ x ∧ x < n := fun x hx => by
    obtain ⟨m, hm⟩ := (B.mem x).1 hx
    obtain ⟨l, h1, _⟩ := B.sound x m hm
    exact walk_rng (n := n) iniW_in (nbW_in hW hn) h1 x (by simp)
  exact ⟨nodup_len n q B.nd h, h⟩
/-- What the column's cells give. -/
def iniQ (W : Int) (n : Nat) (wet : Int → Bool) (col : Int) (k : Nat) : List Int := ((List.range k).map (Nat.cast : Nat → Int)).filter (iniW W n wet col)
def iniD (W : Int) (n : Nat) (wet : Int → Bool) (col : Int) (k : Nat) (i : Int) : Option Int := if iniW W n wet col i && decide (i < k) then some 0 else none
theorem iniQ_t {W : Int} {n : Nat} {wet : Int → Bool} {col : Int} {k : Nat} (h : iniW W n wet col k = true) : iniQ W n wet col (k + 1) = iniQ W n wet col k ++ [(k : Int)] := by
  unfold iniQ; rw [List.range_succ, List.map_append, List.filter_append]; simp [h]
theorem iniQ_f {W : Int} {n : Nat} {wet : Int → Bool} {col : Int} {k : Nat} (h : iniW W n wet col k = false) : iniQ W n wet col (k + 1) = iniQ W n wet col k := by
  unfold iniQ; rw [List.range_succ, List.map_append, List.filter_append]; simp [h]
theorem iniQ_len (W : Int) (n : Nat) (wet : Int → Bool) (col : Int) (k : Nat) : (iniQ W n wet col k).length ≤ k := by
  unfold iniQ
  exact Nat.le_trans (List.length_filter_le _ _) (by simp)
theorem iniD_f {W : Int} {n : Nat} {wet : Int → Bool} {col : Int} {k : Nat} (h : iniW W n wet col k = false) : iniD W n wet col (k + 1) = iniD W n wet col k := by
  funext i; unfold iniD
  by_cases hi : i = k
  · subst hi; rw [h]; rfl
  · have : decide (i < ((k + 1 : Nat) : Int)) = decide (i < (k : Int)) := by rw [decide_eq_decide]; omega
    rw [this]
theorem iniD_t {W : Int} {n : Nat} {wet : Int → Bool} {col : Int} {k : Nat} (h : iniW W n wet col k = true) : iniD W n wet col (k + 1) = updI (iniD W n wet col k) k 0 := by
  funext i; unfold iniD updI
  by_cases hi : i = k
  · subst hi; rw [h]; simp; omega
  · have : decide (i < ((k + 1 : Nat) : Int)) = decide (i < (k : Int)) := by rw [decide_eq_decide]; omega
    rw [this, if_neg hi]
theorem iniB_o (W H : Int) (n : Nat) (wet : Int → Bool) (col : Int) : BO (iniW W n wet col) (nbW W H n wet) (iniD W n wet col n) (iniQ W n wet col n) 0 := by
  have hd : ∀ i m, iniD W n wet col n i = some m → iniW W n wet col i = true ∧ m = 0 := fun i m h => by
    unfold iniD at h
    split at h
    · rename_i hh
      simp only [Bool.and_eq_true] at hh
      cases h; exact ⟨hh.1, rfl⟩
    · cases h
  have hd' : ∀ i, iniW W n wet col i = true → iniD W n wet col n i = some 0 := fun i h => by
    unfold iniD; rw [h, dd_t (iniW_in i h).2]; rfl
  have hm : ∀ j, j ∈ iniQ W n wet col n ↔ iniW W n wet col j = true := fun j => by
    unfold iniQ
    rw [List.mem_filter, List.mem_map]
    constructor
    · exact fun h => h.2
    · intro h
      have := iniW_in j h
      exact ⟨⟨j.toNat, List.mem_range.2 (by omega), by simp; omega⟩, h⟩
  have hlen : ∀ j, iniW W n wet col j = true → 0 < (iniQ W n wet col n).length := fun j h => List.length_pos_of_mem ((hm j).2 h)
  refine ⟨fun j m h => ?_, ?_, fun j => ?_, hd', fun j m h => ?_, fun a r _ m h1 j m' h2 => ?_, ?_, fun j hj => by simp at hj, Nat.zero_le _⟩
  · obtain ⟨h1, rfl⟩ := hd j m h
    exact ⟨[], h1, rfl⟩
  · unfold iniQ
    refine List.Pairwise.filter _ ?_
    rw [List.pairwise_map]
    exact List.Pairwise.imp (fun {a b} h e => h (by omega)) (List.nodup_range (n := n))
  · rw [hm]
    exact ⟨fun h => ⟨0, hd' j h⟩, fun ⟨m, h⟩ => (hd j m h).1⟩
  · obtain ⟨h1, rfl⟩ := hd j m h
    have := hlen j h1; omega
  · have := (hd a m h1).2; have := (hd j m' h2).2; omega
  · refine List.pairwise_iff_getElem.2 fun _ _ _ _ _ m m' h1 h2 => ?_
    have := (hd _ m h1).2; have := (hd _ m' h2).2; omega
/-- The map that holds them. -/
def stepF (d : Int → Option Int) : MF := fun k => match k with
  | [i] => (match d i with | some w => some (.i w) | none => none)
  | _ => none
theorem stepF_some {d : Int → Option Int} {i : Int} {w : Int} (h : d i = some w) : stepF d [i] = some (.i w) := by simp only [stepF, h]
theorem stepF_none {d : Int → Option Int} {i : Int} (h : d i = none) : stepF d [i] = none := by simp only [stepF, h]
theorem stepF_upd (d : Int → Option Int) (i a : Int) : updF (stepF d) [i] (.i a) = stepF (updI d i a) := by
  funext k
  unfold updF
  match k with
  | [] => rfl
  | [j] =>
    by_cases h : j = i
    · subst h; simp [stepF, updI]
    · have : ¬ ([j] : List Int) = [i] := by simpa using h
      simp only [this, if_false, stepF, updI, h]
  | _ :: _ :: _ => simp [stepF]
theorem iniD_zero (W : Int) (n : Nat) (wet : Int → Bool) (col : Int) : (fun _ => none : MF) = stepF (iniD W n wet col 0) := by
  funext k
  match k with
  | [] => rfl
  | [j] =>
    have : iniD W n wet col 0 j = none := by
      unfold iniD
      rw [if_neg]
      intro h
      simp only [Bool.and_eq_true, decide_eq_true_eq] at h
      have := iniW_in j h.1; omega
    simp only [stepF, this]
  | _ :: _ :: _ => rfl
/-- The shortest channel that comes first: from which row, and the way. -/
def bestC (W : Int) (d : Int → Option Int) : Nat → Int
  | 0 => -1
  | k + 1 => match d (k * W) with
    | none => bestC W d k
    | some n => if bestC W d k < 0 then k * W else match d (bestC W d k) with
      | none => k * W
      | some b => if n < b then k * W else bestC W d k
theorem bestC_spec {W : Int} (hW : 0 < W) (d : Int → Option Int) : ∀ k : Nat, (bestC W d k = -1 ∧ ∀ j : Nat, j < k → d (j * W) = none) ∨ ∃ (b : Nat) (n : Int), bestC W d k = b * W ∧ b < k ∧ d (b * W) = some n
  | 0 => .inl ⟨rfl, fun j hj => by omega⟩
  | k + 1 => by
    simp only [bestC]
    cases hd : d (k * W) with
    | none =>
      rcases bestC_spec hW d k with ⟨h1, h2⟩ | ⟨b, n, h1, h2, h3⟩
      · exact .inl ⟨h1, fun j hj => by
          by_cases hjk : j = k
          · rw [hjk]; exact hd
          · exact h2 j (by omega)⟩
      · exact .inr ⟨b, n, h1, by omega, h3⟩
    | some m =>
      rcases bestC_spec hW d k with ⟨h1, h2⟩ | ⟨b, n, h1, h2, h3⟩
      · exact .inr ⟨k, m, by simp [h1], by omega, hd⟩
      · have h0 : ¬ ((b : Int) * W < 0) := by have : 0 ≤ (b : Int) * W := Int.mul_nonneg (by omega) (by omega); omega
        rw [h1]
        simp only [if_neg h0, h3]
        split
        · exact .inr ⟨k, m, rfl, by omega, hd⟩
        · exact .inr ⟨b, n, rfl, by omega, h3⟩
def nextC (W H : Int) (d : Int → Option Int) (i m : Int) : Option Int := (nearL W H false i).find? fun k => decide (d k = some m)
def pathC (W H : Int) (d : Int → Option Int) : Nat → Int → List Int
  | 0, i => [i]
  | f + 1, i => match d i with
    | none => [i]
    | some n => if n > 0 then (match nextC W H d i (n - 1) with
      | none => [i]
      | some k => i :: pathC W H d f k) else [i]
/-- The channel. -/
def chanD (W H : Int) (d : Int → Option Int) : Option (List Int) := match d (bestC W d H.toNat) with
  | none => none
  | some n => some (pathC W H d n.toNat (bestC W d H.toNat))
noncomputable def chanO (W H : Int) (n : Nat) (wet : Int → Bool) : Option (List Int) := chanD W H (distW W H n wet (W - 1))
theorem nextC_some {W H : Int} {n : Nat} {wet : Int → Bool} {col : Int} {i m : Int} (h : distW W H n wet col i = some m) (h0 : 0 < m) : ∃ k, nextC W H (distW W H n wet col) i (m - 1) = some k ∧ distW W H n wet col k = some (m - 1) ∧ k ∈ nearL W H false i := by
  obtain ⟨k, hk, hd⟩ := (distO_is (iniW W n wet col) (nbW W H n wet)).next h h0
  have hk2 := (nbW_iff.1 hk).2.2.1
  cases hf : nextC W H (distW W H n wet col) i (m - 1) with
  | none =>
    have := List.find?_eq_none.1 hf k hk2
    simp [distW, hd] at this
  | some k' =>
    have := List.find?_some hf
    simp only [decide_eq_true_eq] at this
    exact ⟨k', rfl, this, List.mem_of_find?_eq_some hf⟩
theorem distW_dom {W H : Int} {n : Nat} {wet : Int → Bool} {col : Int} (hW : 0 < W) (hn : (n : Int) = W * H) {i m : Int} (h : distW W H n wet col i = some m) : (0 ≤ i ∧ i < n) ∧ wet i = true := by
  obtain ⟨l, h1, _⟩ := (distO_is (iniW W n wet col) (nbW W H n wet)).sound i m h
  refine ⟨walk_rng (n := n) iniW_in (nbW_in hW hn) h1 i (by simp), ?_⟩
  match l, h1 with
  | [], h1 => 
    have h1 : iniW W n wet col i = true := h1
    unfold iniW at h1; simp only [Bool.and_eq_true] at h1; exact h1.2.1
  | k :: r, h1 => exact (nbW_iff.1 h1.1).2.1
/-- The steps are fewer than the cells. -/
theorem distW_bd {W H : Int} {n : Nat} {wet : Int → Bool} {col : Int} (hW : 0 < W) (hn : (n : Int) = W * H) {i m : Int} (h : distW W H n wet col i = some m) : 0 ≤ m ∧ m < n := by
  have hD := distO_is (iniW W n wet col) (nbW W H n wet)
  refine ⟨hD.pos h, ?_⟩
  obtain ⟨l, h1, _⟩ := hD.sound i m h
  obtain ⟨l', g1, g2, _, _⟩ := walk_short (cost := fun _ => 0) (fun _ => Int.le_refl _) l.length (Nat.le_refl _) h1
  have hl := nodup_len n _ g2 (walk_rng (n := n) iniW_in (nbW_in hW hn) g1)
  obtain ⟨m', h3, h4⟩ := hD.comp i l' g1
  have h : distO (iniW W n wet col) (nbW W H n wet) i = some m := h
  rw [h] at h3; cases h3
  simp at hl; omega
end Go.Proofs.Ytbhpnhcdjmcaoaa

/- Boom: how many steps it is over water from a column. -/
namespace Go.Proofs.Ytbhpnhcdjmcaoaa
open Go.RowKit
set_option linter.unusedVariables false
set_option linter.unusedSimpArgs false
def wetB (cs : List Int) (f : Int → Bool) (i : Int) : Bool := decide (cs.getD i.toNat 0 ≠ -1) && !f i
theorem walk_wet {W H : Int} {n : Nat} {wet : Int → Bool} {col : Int} {i : Int} : ∀ {l : List Int}, isWalk (iniW W n wet col) (nbW W H n wet) (i :: l) → wet i = true
  | [], h => by
    have h : iniW W n wet col i = true := h
    unfold iniW at h; simp only [Bool.and_eq_true] at h; exact h.2.1
  | k :: r, h => (nbW_iff.1 h.1).2.1
/-- One neighbour looked at. -/
def stepW (wet : Int → Bool) (h : Int) (st : (Int → Option Int) × List Int) (k : Int) : (Int → Option Int) × List Int :=
  match st.1 k with
  | none => if wet k then (updI st.1 k (h + 1), st.2 ++ [k]) else st
  | some _ => st
set_option maxRecDepth 10000 in
set_option maxHeartbeats 8000000 in
theorem from_spec (W H : Int) (cs : List Int) (f : Int → Bool) (col : Int) (hok : CO W H cs) (hcol : 0 ≤ col ∧ col < W) :
    Spec Try.prog 96 [chV W H cs.length, V.i col] [⟨0, .ro 0, cs.map C.i⟩, ⟨1, .mp false .int (bmF f), []⟩] 2 (fun v L' _ => ∃ l, v = V.c (.mp l) ∧ find L' l = some ⟨l, .mp true .int (stepF (distW W H cs.length (wetB cs f) col)), []⟩) := by
  have hlm : (cs.map C.i).length = cs.length := by simp
  obtain ⟨hW, hH, hcl, hcost⟩ := hok
  have hok : CO W H cs := ⟨hW, hH, hcl, hcost⟩
  have hn : (cs.length : Int) ≤ 100 := by have := Int.mul_le_mul hW.2 hH.2 (by omega) (by omega : (0:Int) ≤ 10); omega
  have hW0 : 0 < W := by omega
  refine Spec.of tok Try.func96 rfl rfl rfl fun n0 cx => vc_ok tok ?_
  repeat ((conv => whnf); first | (refine And.intro (by first | omega | exact Nat.le_of_ble_eq_true rfl) ?_) | refine Exists.intro _ (And.intro rfl ?_) | refine fun (K' : K3) hK' => ?_ | (refine hK' _ _ _ ?_; clear hK' K'))
  refine Tri.loop (γ := Nat × Nat) (fun g => g.1 ≤ cs.length ∧ (iniQ W cs.length (wetB cs f) col g.1).length = g.2) (fun g => [(1, V.i col), (2, V.c (.ptr 2 0)), (5, V.c (.ptr 4 0)), (6, V.c (.ptr 5 0)), (16, V.i cs.length), (17, V.i (g.1 : Nat))])
    (fun g => [⟨6, .vec 3 1, (iniQ W cs.length (wetB cs f) col g.1).map C.i⟩, ⟨5, .own 22, [.sl 6 g.2]⟩, ⟨4, .own 108, [.mp 3]⟩, ⟨3, .mp true .int (stepF (iniD W cs.length (wetB cs f) col g.1)), []⟩, ⟨2, .own 65, [C.i W, C.i H, .sl 0 cs.length, .mp 1]⟩, ⟨0, .ro 0, cs.map C.i⟩, ⟨1, .mp false .int (bmF f), []⟩]) 7 (fun g => cs.length - g.1) (0, 0) (R0 := [(6, none)]) ?_ ?_ ?_
  · exact ⟨Nat.zero_le _, rfl⟩
  · skip
    refine ⟨?_, ?_, rfl, rfl, by exact Nat.le_of_ble_eq_true rfl⟩
    · repeat (first | exact trivial | (refine And.intro (covS_syn (by rfl) rfl (by first | exact trivial | exact Nat.le_of_ble_eq_true rfl)) ?_))
    · repeat (first | exact trivial | refine And.intro (covE_mp rfl (Nat.le_of_ble_eq_true rfl) rfl (iniD_zero _ _ _ _)) ?_ | refine And.intro (covE_mp rfl (Nat.le_of_ble_eq_true rfl) rfl rfl) ?_ | refine And.intro (covE_nil rfl (Nat.le_of_ble_eq_true rfl) rfl rfl) ?_ | (refine And.intro (covE_some rfl (Nat.le_of_ble_eq_true rfl) (by first | exact wf_ints _ _ | simp [C.wf]) rfl (by first | exact ren_ints _ _ | rfl)) ?_))
  · rintro ⟨k, m⟩ ⟨hk, hm⟩
    simp only at hk hm ⊢
    refine vc_ok tok ?_
    by_cases hlt : k < cs.length
    · have hwt := wet_spec W H cs f k hlt (by omega)
      have hwe : wetB cs f (k : Int) = (decide (cs.getD k 0 ≠ -1) && !f k) := by simp [wetB]
      rw [← hwe] at hwt
      have hini : iniW W cs.length (wetB cs f) col (k : Int) = (wetB cs f (k : Int) && decide ((k : Int) % W = col)) := by
        unfold iniW; rw [dd_t (show (0 : Int) ≤ (k : Int) ∧ (k : Int) < (cs.length : Int) by omega), Bool.true_and]
      have hml := iniQ_len W cs.length (wetB cs f) col k
      by_cases h1 : (k : Int) % W = col
      · cases hw : wetB cs f (k : Int) with
        | true =>
          rw [hw] at hwt
          rw [hw, dd_t h1] at hini
          have hq := iniQ_t hini
          have hd : updF (stepF (iniD W cs.length (wetB cs f) col k)) [(k : Int)] (.i 0) = stepF (iniD W cs.length (wetB cs f) col (k + 1)) := by rw [stepF_upd, iniD_t hini]
          repeat ((conv => whnf); first | (refine And.intro (by first | omega | exact Nat.le_of_ble_eq_true rfl | (dsimp only [inK]; omega) | (exact ⟨rfl, rfl, rfl, Nat.le_of_ble_eq_true rfl, by simp; omega, by exact Nat.le_of_ble_eq_true rfl, by omega, Nat.le_of_ble_eq_true rfl⟩)) ?_) | refine Exists.intro _ (And.intro rfl ?_) | refine br_t (by omega) ?_ | refine fun (K' : K3) hK' => ?_ | (refine hK' _ _ _ ?_; clear hK' K') | refine CallK.val (R := []) hwt (by kernel_rfl) rfl (by simp [V.wf, A.wf, C.wf]) ⟨roE_ints (l := 0) rfl (by omega) rfl (.inl rfl), roE_map (l := 1) rfl (by omega) rfl, trivial⟩ rfl rfl trivial ?_ | refine br_bt (Eq.refl true) ?_ | refine CallK.m ?_)
          refine ⟨(k + 1, m + 1), [(6, some 8)], ⟨by simp only; omega, by simp only [hq, List.length_append, hm]; rfl⟩, by simp only; omega, ?_⟩
          refine ⟨?_, ?_, rfl, rfl, by exact Nat.le_of_ble_eq_true rfl⟩
          · repeat (first | exact trivial | (refine And.intro (covS_syn (by rfl) rfl (by first | exact trivial | exact Nat.le_of_ble_eq_true rfl)) ?_))
          · repeat (first | exact trivial | refine And.intro (covE_mp rfl (Nat.le_of_ble_eq_true rfl) rfl hd) ?_ | refine And.intro (covE_mp rfl (Nat.le_of_ble_eq_true rfl) rfl rfl) ?_ | (refine And.intro (covE_some rfl (Nat.le_of_ble_eq_true rfl) (by first | exact wf_ints _ _ | simp [C.wf]) rfl (by first | exact ren_ints _ _ | (refine (ren_ints _ _).trans (congrArg some ?_); rw [hq, List.map_append]; rfl) | rfl)) ?_))
        | false =>
          rw [hw] at hwt
          rw [hw] at hini
          have hq := iniQ_f hini
          have hd := iniD_f hini
          repeat ((conv => whnf); first | (refine And.intro (by first | omega | exact Nat.le_of_ble_eq_true rfl | (dsimp only [inK]; omega)) ?_) | refine Exists.intro _ (And.intro rfl ?_) | refine br_t (by omega) ?_ | refine fun (K' : K3) hK' => ?_ | (refine hK' _ _ _ ?_; clear hK' K') | refine CallK.val (R := []) hwt (by kernel_rfl) rfl (by simp [V.wf, A.wf, C.wf]) ⟨roE_ints (l := 0) rfl (by omega) rfl (.inl rfl), roE_map (l := 1) rfl (by omega) rfl, trivial⟩ rfl rfl trivial ?_ | refine br_bf (Eq.refl false) ?_ | refine CallK.m ?_)
          refine ⟨(k + 1, m), [], ⟨by simp only; omega, by simp only [hq]; exact hm⟩, by simp only; omega, ?_⟩
          refine ⟨?_, ?_, rfl, rfl, by exact Nat.le_of_ble_eq_true rfl⟩
          · repeat (first | exact trivial | (refine And.intro (covS_syn (by rfl) rfl (by first | exact trivial | exact Nat.le_of_ble_eq_true rfl)) ?_))
          · repeat (first | exact trivial | refine And.intro (covE_mp rfl (Nat.le_of_ble_eq_true rfl) rfl (congrArg stepF hd.symm)) ?_ | refine And.intro (covE_mp rfl (Nat.le_of_ble_eq_true rfl) rfl rfl) ?_ | (refine And.intro (covE_id (Nat.le_of_ble_eq_true rfl) (by first | exact wf_ints _ _ | simp [C.wf]) rfl (by first | rfl | exact congrArg (List.map C.i) hq.symm)) ?_))
      · rw [dd_f h1, Bool.and_false] at hini
        have hq := iniQ_f hini
        have hd := iniD_f hini
        repeat ((conv => whnf); first | (refine And.intro (by first | omega | exact Nat.le_of_ble_eq_true rfl | (dsimp only [inK]; omega)) ?_) | refine Exists.intro _ (And.intro rfl ?_) | refine br_t (by omega) ?_ | refine br_f (by omega) ?_ | refine fun (K' : K3) hK' => ?_ | (refine hK' _ _ _ ?_; clear hK' K'))
        refine ⟨(k + 1, m), [], ⟨by simp only; omega, by simp only [hq]; exact hm⟩, by simp only; omega, ?_⟩
        refine ⟨?_, ?_, rfl, rfl, by exact Nat.le_of_ble_eq_true rfl⟩
        · repeat (first | exact trivial | (refine And.intro (covS_syn (by rfl) rfl (by first | exact trivial | exact Nat.le_of_ble_eq_true rfl)) ?_))
        · repeat (first | exact trivial | refine And.intro (covE_mp rfl (Nat.le_of_ble_eq_true rfl) rfl (congrArg stepF hd.symm)) ?_ | refine And.intro (covE_mp rfl (Nat.le_of_ble_eq_true rfl) rfl rfl) ?_ | (refine And.intro (covE_id (Nat.le_of_ble_eq_true rfl) (by first | exact wf_ints _ _ | simp [C.wf]) rfl (by first | rfl | exact congrArg (List.map C.i) hq.symm)) ?_))
    · have hkn : k = cs.length := by omega
      subst hkn
      have hB0 := iniB_o W H cs.length (wetB cs f) col
      repeat ((conv => whnf); first | refine br_f (by omega) ?_ | refine fun (K' : K3) hK' => ?_ | (refine hK' _ _ _ ?_; clear hK' K'))
      refine Tri.loop (γ := ((Int → Option Int) × List Int) × (Nat × Nat)) (fun g => BO (iniW W cs.length (wetB cs f) col) (nbW W H cs.length (wetB cs f)) g.1.1 g.1.2 g.2.1 ∧ (g.1.2.drop g.2.1).length = g.2.2) (fun g => [(2, V.c (.ptr 2 0)), (5, V.c (.ptr 4 0)), (6, V.c (.ptr 5 0))])
        (fun g => [⟨6, .vec 3 1, (g.1.2.drop g.2.1).map C.i⟩, ⟨5, .own 22, [.sl 6 g.2.2]⟩, ⟨4, .own 108, [.mp 3]⟩, ⟨3, .mp true .int (stepF g.1.1), []⟩, ⟨2, .own 65, [C.i W, C.i H, .sl 0 cs.length, .mp 1]⟩, ⟨0, .ro 0, cs.map C.i⟩, ⟨1, .mp false .int (bmF f), []⟩]) 11 (fun g => cs.length - g.2.1) ((iniD W cs.length (wetB cs f) col cs.length, iniQ W cs.length (wetB cs f) col cs.length), (0, m)) (R0 := []) ?_ ?_ ?_
      · exact ⟨hB0, hm⟩
      · skip
        refine ⟨?_, ?_, rfl, rfl, by exact Nat.le_of_ble_eq_true rfl⟩
        · repeat (first | exact trivial | refine And.intro (covS_syn (by rfl) rfl (by exact Nat.le_of_ble_eq_true rfl)) ?_)
        · repeat (first | exact trivial | refine And.intro (covE_mp rfl (Nat.le_of_ble_eq_true rfl) rfl rfl) ?_ | (refine And.intro (covE_id (Nat.le_of_ble_eq_true rfl) (by first | exact wf_ints _ _ | simp [C.wf]) rfl (by rfl)) ?_))
      · rintro ⟨⟨d, q⟩, ⟨p, m⟩⟩ ⟨hB, hm⟩
        simp only at hB hm ⊢
        refine vc_ok tok ?_
        obtain ⟨hql, hqin⟩ := hB.len hW0 hcl
        cases hq : q.drop p with
        | nil =>
          rw [hq] at hm
          have hm0 : m = 0 := by simpa using hm.symm
          subst hm0
          have hfin : d = distW W H cs.length (wetB cs f) col := (hB.dist hq (nbW_sym hW0 hcl)).unique (distO_is _ _)
          repeat ((conv => whnf); first | refine Exists.intro _ (And.intro rfl ?_) | refine br_f (by omega) ?_ | refine fun (K' : K3) hK' => ?_ | (refine hK' _ _ _ ?_; clear hK' K'))
          exact congrArg (fun x => some (⟨3, .mp true .int (stepF x), []⟩ : E)) hfin
        | cons i r =>
          rw [hq] at hm
          have hm1 : m = r.length + 1 := by simpa using hm.symm
          subst hm1
          obtain ⟨h, hdi, hI0⟩ := hB.pop hq
          obtain ⟨hplt, hd1, _, _⟩ := drop_cons hq
          have hiq : i ∈ q := List.mem_of_mem_drop (i := p) (by rw [hq]; simp)
          have hir := hqin i hiq
          have hwi : wetB cs f i = true := by
            obtain ⟨l, h1, _⟩ := hB.sound i h hdi
            exact walk_wet h1
          have hrl : r.length ≤ 100 := by rw [← hd1, List.length_drop]; omega
          obtain ⟨fs, hfs⟩ : ∃ fs : List Int → (Int → Option Int) × List Int, fs = fun pre => pre.foldl (stepW (wetB cs f) h) (d, q) := ⟨_, rfl⟩
          have hfs0 : fs [] = (d, q) := by rw [hfs]; rfl
          have hfss : ∀ pre k, fs (pre ++ [k]) = stepW (wetB cs f) h (fs pre) k := fun pre k => by rw [hfs]; simp
          obtain ⟨wk, hwk⟩ : ∃ wk : List Int → List Int, wk = fun pre => (fs pre).2.drop (p + 1) := ⟨_, rfl⟩
          have hwk0 : wk [] = r := by rw [hwk]; simp only [hfs0]; exact hd1
          have hwkd : ∀ pre, wk pre = (fs pre).2.drop (p + 1) := fun pre => by rw [hwk]
          clear hfs hwk
          repeat ((conv => whnf); first | (refine And.intro (by first | omega | exact Nat.le_of_ble_eq_true rfl | (simp only [setL_length, List.length_map]; omega)) ?_) | refine Exists.intro _ (And.intro rfl ?_) | refine br_t (by omega) ?_ | refine fun (K' : K3) hK' => ?_ | (refine hK' _ _ _ ?_; clear hK' K') | refine Two.r ?_ | refine And.intro (by refine ⟨rfl, Nat.le_of_ble_eq_true rfl, by omega, by simp, by simp⟩) ?_ | refine CallK.fresh (by kernel_rfl) (near_spec _ _ _ _) rfl ?_ | refine CallK.m ?_)
          refine Tri.opq fun K' hK' => ?_
          refine Tri.near (R0 := [(20, some 12)]) (W := W) (H := H) (n := cs.length) (i := i) (e := false) (fun pre => BI (iniW W cs.length (wetB cs f) col) (nbW W H cs.length (wetB cs f)) (fs pre).1 (fs pre).2 (p + 1) h i pre)
            (fun pre => [⟨20, .vec 3 1, (wk pre).map C.i⟩, ⟨11, .own 3, [C.i i]⟩, ⟨5, .own 22, [.sl 20 (wk pre).length]⟩, ⟨4, .own 108, [.mp 3]⟩, ⟨3, .mp true .int (stepF (fs pre).1), []⟩, ⟨2, .own 65, [C.i W, C.i H, .sl 0 cs.length, .mp 1]⟩, ⟨0, .ro 0, cs.map C.i⟩, ⟨1, .mp false .int (bmF f), []⟩])
            (by rw [hfs0]; exact hI0) (by omega) (by omega) (by omega) (by exact rfl) (by exact rfl) (by exact rfl) ?_ ?_ ?_
          · intro oo
            simp only [hwk0, hfs0]
            refine ⟨?_, ?_, rfl, rfl, by exact Nat.le_of_ble_eq_true rfl⟩
            · repeat (exact trivial)
            · repeat (first | exact trivial | refine And.intro (covE_bR (b := false) rfl (Nat.le_of_ble_eq_true rfl) rfl rfl rfl) ?_ | refine And.intro (covE_mp rfl (Nat.le_of_ble_eq_true rfl) rfl rfl) ?_ | (refine And.intro (covE_some rfl (Nat.le_of_ble_eq_true rfl) (by first | exact wf_ints _ _ | simp [C.wf]) rfl (by first | exact ren_ints _ _ | rfl)) ?_))
          · intro oo ob od pre post kk hsp hk0 hk1 hI cxb hcx
            obtain ⟨hql2, hqin2⟩ := hI.len hW0 hcl
            have hnk : kk ∈ nearL W H false i := by rw [hsp]; simp
            obtain ⟨k, rfl⟩ : ∃ k : Nat, kk = k := ⟨kk.toNat, by omega⟩
            have hkl : k < cs.length := by omega
            have hwt := wet_spec W H cs f k hkl (by omega)
            have hwe : wetB cs f (k : Int) = (decide (cs.getD k 0 ≠ -1) && !f k) := by simp [wetB]
            rw [← hwe] at hwt
            have hcur := hI.cur
            have hhb := hI.bnd i h hcur
            have hst := hfss pre (k : Int)
            have hwd := hwkd pre
            have hwl : (wk pre).length ≤ 100 := by rw [hwd, List.length_drop]; omega
            have hhere := hI.here
            refine vc_ok tok ?_
            repeat ((conv => whnf); first | refine fun (K' : K3) hK' => ?_ | (refine hK' _ _ _ ?_; clear hK' K') | refine And.intro (Eq.refl oo) ?_)
            refine vc_ok tok ?_
            cases hdk : (fs pre).1 (k : Int) with
            | some x =>
              have e : fs (pre ++ [(k : Int)]) = fs pre := by rw [hst]; unfold stepW; rw [hdk]
              have e2 : wk (pre ++ [(k : Int)]) = wk pre := by rw [hwkd, e, hwd]
              repeat ((conv => whnf); first | refine And.intro (by omega) ?_ | with_reducible refine lkm (stepF_some hdk) ?_ | refine Exists.intro _ (And.intro rfl ?_) | refine fun (K' : K3) hK' => ?_ | (refine hK' _ _ _ ?_; clear hK' K') | refine And.intro (Eq.refl ob) ?_)
              refine .inl ⟨rfl, by rw [e]; exact hI.keep fun _ => ⟨x, hdk⟩, [], rfl, ?_⟩
              rw [e2, e]
              refine ⟨?_, ?_, rfl, rfl, by exact Nat.le_of_ble_eq_true rfl⟩
              · repeat (exact trivial)
              · repeat (first | exact trivial | refine And.intro (covE_mp rfl (Nat.le_of_ble_eq_true rfl) rfl rfl) ?_ | (refine And.intro (covE_id (Nat.le_of_ble_eq_true rfl) (by first | exact wf_ints _ _ | simp [C.wf]) rfl (by rfl)) ?_))
            | none =>
              cases hw : wetB cs f (k : Int) with
              | false =>
                rw [hw] at hwt
                have e : fs (pre ++ [(k : Int)]) = fs pre := by rw [hst]; unfold stepW; rw [hdk]; simp only [hw]; rfl
                have e2 : wk (pre ++ [(k : Int)]) = wk pre := by rw [hwkd, e, hwd]
                repeat ((conv => whnf); first | refine And.intro (by omega) ?_ | with_reducible refine lkm (stepF_none hdk) ?_ | refine Exists.intro _ (And.intro rfl ?_) | refine fun (K' : K3) hK' => ?_ | (refine hK' _ _ _ ?_; clear hK' K') | refine CallK.val (R := []) hwt (by kernel_rfl) rfl (by simp [V.wf, A.wf, C.wf]) ⟨roE_ints (l := 0) rfl (by omega) rfl (.inl rfl), roE_map (l := 1) rfl (by omega) rfl, trivial⟩ rfl rfl trivial ?_ | refine And.intro (Eq.refl ob) ?_ | refine br_bf (Eq.refl false) ?_ | refine CallK.m ?_)
                refine .inl ⟨rfl, by rw [e]; exact hI.keep fun hh => absurd (nbW_iff.1 hh).2.2.2 (by rw [hw]; simp), [], rfl, ?_⟩
                rw [e2, e]
                refine ⟨?_, ?_, rfl, rfl, by exact Nat.le_of_ble_eq_true rfl⟩
                · repeat (exact trivial)
                · repeat (first | exact trivial | refine And.intro (covE_mp rfl (Nat.le_of_ble_eq_true rfl) rfl rfl) ?_ | (refine And.intro (covE_id (Nat.le_of_ble_eq_true rfl) (by first | exact wf_ints _ _ | simp [C.wf]) rfl (by rfl)) ?_))
              | true =>
                rw [hw] at hwt
                have hni : (k : Int) ∈ nbW W H cs.length (wetB cs f) i := nbW_iff.2 ⟨hir, hwi, hnk, hw⟩
                have e : fs (pre ++ [(k : Int)]) = (updI (fs pre).1 (k : Int) (h + 1), (fs pre).2 ++ [(k : Int)]) := by rw [hst]; unfold stepW; rw [hdk]; simp only [hw]; rfl
                have e2 : wk (pre ++ [(k : Int)]) = wk pre ++ [(k : Int)] := by rw [hwkd, e, hwd]; exact List.drop_append_of_le_length hhere
                have hd : updF (stepF (fs pre).1) [(k : Int)] (.i (h + 1)) = stepF (updI (fs pre).1 (k : Int) (h + 1)) := stepF_upd _ _ _
                have hput := hI.put hdk hni (nbW_sym hW0 hcl _ _ hni)
                repeat ((conv => whnf); first | (refine And.intro (by first | omega | exact Nat.le_of_ble_eq_true rfl | (dsimp only [inK]; omega) | (exact ⟨rfl, rfl, rfl, Nat.le_of_ble_eq_true rfl, by simp; done, by exact Nat.le_of_ble_eq_true rfl, by omega, Nat.le_of_ble_eq_true rfl⟩)) ?_) | with_reducible refine lkm (stepF_none hdk) ?_ | with_reducible refine lkm (stepF_some hcur) ?_ | refine Exists.intro _ (And.intro rfl ?_) | refine fun (K' : K3) hK' => ?_ | (refine hK' _ _ _ ?_; clear hK' K') | refine CallK.val (R := []) hwt (by kernel_rfl) rfl (by simp [V.wf, A.wf, C.wf]) ⟨roE_ints (l := 0) rfl (by omega) rfl (.inl rfl), roE_map (l := 1) rfl (by omega) rfl, trivial⟩ rfl rfl trivial ?_ | refine And.intro (Eq.refl ob) ?_ | refine br_bt (Eq.refl true) ?_ | refine CallK.m ?_)
                refine .inl ⟨rfl, by rw [e]; exact hput, [(20, some 42)], rfl, ?_⟩
                rw [e2, e, List.length_append]
                refine ⟨?_, ?_, rfl, rfl, by exact Nat.le_of_ble_eq_true rfl⟩
                · repeat (exact trivial)
                · repeat (first | exact trivial | refine And.intro (covE_bR (b := false) rfl (Nat.le_of_ble_eq_true rfl) rfl rfl rfl) ?_ | refine And.intro (covE_mp rfl (Nat.le_of_ble_eq_true rfl) rfl hd) ?_ | refine And.intro (covE_mp rfl (Nat.le_of_ble_eq_true rfl) rfl rfl) ?_ | (refine And.intro (covE_some rfl (Nat.le_of_ble_eq_true rfl) (by first | exact wf_ints _ _ | simp [C.wf]) rfl (by first | exact ren_ints _ _ | (refine (ren_ints _ _).trans (congrArg some ?_); rw [List.map_append]; rfl) | rfl)) ?_))
          · intro oo od hI
            refine Or.inl ?_
            refine And.intro rfl ?_
            conv => whnf
            refine hK' _ _ _ _ ?_
            repeat ((conv => whnf); refine And.intro (by omega) ?_)
            have hBn := hI.close fun k hk => (nbW_iff.1 hk).2.2.1
            refine ⟨(((fs (nearL W H false i)).1, (fs (nearL W H false i)).2), (p + 1, (wk (nearL W H false i)).length)), [(6, some 20)], ⟨hBn, by rw [hwkd]⟩, by simp only; omega, ?_⟩
            rw [hwkd]
            refine ⟨?_, ?_, rfl, rfl, by exact Nat.le_of_ble_eq_true rfl⟩
            · repeat (first | exact trivial | refine And.intro (covS_syn (by rfl) rfl (by exact Nat.le_of_ble_eq_true rfl)) ?_)
            · repeat (first | exact trivial | refine And.intro (covE_mp rfl (Nat.le_of_ble_eq_true rfl) rfl rfl) ?_ | (refine And.intro (covE_some rfl (Nat.le_of_ble_eq_true rfl) (by first | exact wf_ints _ _ | simp [C.wf]) rfl (by first | exact ren_ints _ _ | rfl)) ?_))
end Go.Proofs.Ytbhpnhcdjmcaoaa

/- Boom: Barrier, the program's and the reference's; lists of cells that are the same. -/
namespace Go.Proofs.Ytbhpnhcdjmcaoaa
open Go.RowKit
set_option linter.unusedVariables false
set_option linter.unusedSimpArgs false
def barC (W H : Int) (cs : List Int) : List Cell := if okC W H cs then (match barO W H cs with | none => [] | some (l, _) => cellsL W l) else []
def barE (W H : Int) (cs : List Int) : Int := if okC W H cs then (match barO W H cs with | none => 5 | some _ => 0) else 30
theorem barC_some {W H : Int} {cs : List Int} {l : List Int} {w : Way} (hv : okC W H cs = true) (h : barO W H cs = some (l, w)) : barC W H cs = cellsL W l ∧ barE W H cs = 0 := by
  unfold barC barE; rw [hv, h]; exact ⟨rfl, rfl⟩
theorem barC_none {W H : Int} {cs : List Int} (hv : okC W H cs = true) (h : barO W H cs = none) : barC W H cs = [] ∧ barE W H cs = 5 := by
  unfold barC barE; rw [hv, h]; exact ⟨rfl, rfl⟩
theorem barC_bad {W H : Int} {cs : List Int} (hv : okC W H cs = false) : barC W H cs = [] ∧ barE W H cs = 30 := by
  unfold barC barE; rw [hv]; exact ⟨rfl, rfl⟩
set_option maxHeartbeats 4000000 in
theorem pBarrier_spec (W H : Int) (cs : List Int) (hl : cs.length ≤ 300) :
    Spec Try.prog 20 [chR W H cs.length] [⟨0, .ro 0, cs.map C.i⟩] 2 (fun v L' _ => cellsE (barC W H cs) (barE W H cs) v L') := by
  refine Spec.of tok Try.func20 rfl rfl rfl fun n0 cx => vc_ok tok ?_
  cases hv : okC W H cs with
  | false =>
    obtain ⟨e1, e2⟩ := barC_bad hv
    rw [e1, e2]
    repeat ((conv => whnf); first | (refine And.intro (by first | omega | exact Nat.le_of_ble_eq_true rfl) ?_) | refine Exists.intro _ (And.intro rfl ?_) | refine br_t (by omega) ?_ | refine fun (K' : K3) hK' => ?_ | (refine hK' _ _ _ ?_; clear hK' K') | refine CallK.newNo (a := 0) (bs := []) (R := [(1, none)]) 30 hl (by simp) (.inl ⟨hv, rfl⟩) rfl rfl (roNil rfl) ?_ | refine CallK.m ?_)
    exact .inl ⟨rfl, rfl⟩
  | true =>
    have hok := okC_iff.1 hv
    have hba := barrier_spec W H cs hok
    cases hbo : barO W H cs with
    | none =>
      obtain ⟨e1, e2⟩ := barC_none hv hbo
      rw [e1, e2]
      repeat ((conv => whnf); first | (refine And.intro (by first | omega | exact Nat.le_of_ble_eq_true rfl) ?_) | refine Exists.intro _ (And.intro rfl ?_) | refine br_f (by omega) ?_ | refine fun (K' : K3) hK' => ?_ | (refine hK' _ _ _ ?_; clear hK' K') | refine CallK.newOk (a := 0) (bs := []) (R := [(1, none)]) hl (by simp) hv (okB_nil _ _ _) rfl rfl (by omega) (roNil rfl) ?_ | refine CallK.barN (R := [(1, some 3)]) hbo hba (by kernel_rfl) rfl (by simp [V.wf, A.wf, C.wf]) ⟨roE_ints (l := 0) rfl (by omega) rfl (.inl rfl), trivial⟩ rfl ?_ | refine CallK.m ?_)
      exact .inl ⟨rfl, rfl⟩
    | some q =>
      obtain ⟨l, w⟩ := q
      obtain ⟨e1, e2⟩ := barC_some hv hbo
      rw [e1, e2]
      obtain ⟨_, _, hin, hlen⟩ := bar_is hok hbo
      have hW := hok.w
      have hn : (cs.length : Int) ≤ 100 := by have := Int.mul_le_mul hok.w.2 hok.h.2 (by have := hok.h; omega) (by omega : (0:Int) ≤ 10); have := hok.len; omega
      have hce := cells_spec W H cs.length l (by omega) (by omega) (fun k hk => by have := hin _ (getD_mem hk); omega)
      repeat ((conv => whnf); first | (refine And.intro (by first | omega | exact Nat.le_of_ble_eq_true rfl) ?_) | refine Exists.intro _ (And.intro rfl ?_) | refine br_f (by omega) ?_ | refine fun (K' : K3) hK' => ?_ | (refine hK' _ _ _ ?_; clear hK' K') | refine CallK.newOk (a := 0) (bs := []) (R := [(1, none)]) hl (by simp) hv (okB_nil _ _ _) rfl rfl (by omega) (roNil rfl) ?_ | refine CallK.barS (R := [(1, some 3)]) hbo hba (by kernel_rfl) rfl (by simp [V.wf, A.wf, C.wf]) ⟨roE_ints (l := 0) rfl (by omega) rfl (.inl rfl), trivial⟩ rfl ?_ | refine CallK.cellsR (R := [(1, some 3), (2, some 5)]) hce (by kernel_rfl) rfl (by simp [V.wf, A.wf, C.wf]) ⟨roE_ints (l := 5) rfl (by omega) rfl (.inl rfl), trivial⟩ rfl ?_ | refine CallK.m ?_)
      exact .inr ⟨_, rfl, rfl⟩
section
variable {P : Program} {n0 nx nac : Nat} {f : FuncId} {vs vs' : List V} {Lc L : List E} {R : Rn} {K : V → List E → Nat → Prop}
end
/-- The first of some neighbours from which the rest goes on; -1: none does. -/
def nextF (d : Int → Option Way) (rest : Way) (l : List Int) : Int := match l.find? (fun k => decide (d k = some rest)) with
  | some k => k
  | none => -1
def sameB (a b : List Cell) : Bool := decide (a.length = b.length) && (List.range a.length).all fun k => decide (a.getD k cz = b.getD k cz)
end Go.Proofs.Ytbhpnhcdjmcaoaa

/- Boom: the shortest channel that comes first, and whether booms block. -/
namespace Go.Proofs.Ytbhpnhcdjmcaoaa
open Go.RowKit
set_option linter.unusedVariables false
set_option linter.unusedSimpArgs false
/-- What channel gives back. -/
def chanR (o : Option (List Int)) (v : V) (L' : List E) : Prop :=
  match o with
  | none => v = V.tup [A.c .nil, A.c .ff]
  | some l => ∃ lab, v = V.tup [A.c (.sl lab l.length), A.c .tt] ∧ find L' lab = some ⟨lab, .vec 3 1, l.map C.i⟩
section
variable {P : Program} {n0 nx nac : Nat} {f : FuncId} {vs vs' : List V} {Lc L : List E} {R : Rn} {K : V → List E → Nat → Prop}
theorem CallK.chanN {o : Option (List Int)} (ho : o = none) (spec : Spec P f vs Lc nac (fun v L' _ => chanR o v L')) (hok : callB P f = true)
    (hv : renVs R vs = some vs') (hvw : ∀ v ∈ vs, v.wf nac) (hL : roL R nac L Lc) (hLc : injB [] Lc = true)
    (hK : K (V.tup [A.c .nil, A.c .ff]) [] nx) : CallK P n0 f vs' L nx K := by
  refine CallK.mk' hok spec hv hvw hL hLc ?_
  intro v L' nx' hw hq
  subst ho
  have hq : v = V.tup [A.c .nil, A.c .ff] := hq
  subst hq
  exact ⟨V.tup [A.c .nil, A.c .ff], [], nx, [], ⟨Nat.le_refl _, rfl, rfl, trivial, rfl, rfl⟩, hK⟩
theorem CallK.chanS {o : Option (List Int)} {l : List Int} (ho : o = some l) (spec : Spec P f vs Lc nac (fun v L' _ => chanR o v L')) (hok : callB P f = true)
    (hv : renVs R vs = some vs') (hvw : ∀ v ∈ vs, v.wf nac) (hL : roL R nac L Lc) (hLc : injB [] Lc = true)
    (hK : K (V.tup [A.c (.sl nx l.length), A.c .tt]) [⟨nx, .vec 3 1, l.map C.i⟩] (nx + 1)) : CallK P n0 f vs' L nx K := by
  refine CallK.mk' hok spec hv hvw hL hLc ?_
  intro v L' nx' hw hq
  subst ho
  obtain ⟨lab, rfl, hf⟩ := hq
  refine ⟨V.tup [A.c (.sl nx l.length), A.c .tt], [⟨nx, .vec 3 1, l.map C.i⟩], nx + 1, [(nx, some lab)], ⟨Nat.le_succ _, ?_, ?_, ⟨covE_some (renL_one _ _) (Nat.lt_succ_self nx) (wf_ints _ _) hf (ren_ints _ _), trivial⟩, rfl, ?_⟩, hK⟩
  · simp [V.ren, A.ren, C.ren, renL_one, seqO]
  · simp [V.chk, A.chk, C.chk, inLab_one]
  · simp only [List.all_cons, List.all_nil, Bool.and_true, inLab_one, Kd.isRo, Bool.not_false, Bool.true_and]
    exact chk_ints _ _
end
set_option maxRecDepth 10000 in
set_option maxHeartbeats 8000000 in
theorem channel_spec (W H : Int) (cs : List Int) (f : Int → Bool) (hok : CO W H cs) :
    Spec Try.prog 85 [chV W H cs.length] [⟨0, .ro 0, cs.map C.i⟩, ⟨1, .mp false .int (bmF f), []⟩] 2 (fun v L' _ => chanR (chanO W H cs.length (wetB cs f)) v L') := by
  have hlm : (cs.map C.i).length = cs.length := by simp
  obtain ⟨hW, hH, hcl, hcost⟩ := hok
  have hok : CO W H cs := ⟨hW, hH, hcl, hcost⟩
  have hn : (cs.length : Int) ≤ 100 := by have := Int.mul_le_mul hW.2 hH.2 (by omega) (by omega : (0:Int) ≤ 10); omega
  obtain ⟨h0, rfl⟩ : ∃ h0 : Nat, H = h0 := ⟨H.toNat, by omega⟩
  have hW0 : 0 < W := by omega
  have hfr := from_spec W h0 cs f (W - 1) hok (by omega)
  have hcho : chanO W h0 cs.length (wetB cs f) = chanD W h0 (distW W h0 cs.length (wetB cs f) (W - 1)) := rfl
  have hdom : ∀ {i m : Int}, distW W h0 cs.length (wetB cs f) (W - 1) i = some m → 0 ≤ i ∧ i < cs.length := fun h => (distW_dom hW0 hcl h).1
  have hbd : ∀ {i m : Int}, distW W h0 cs.length (wetB cs f) (W - 1) i = some m → 0 ≤ m ∧ m < cs.length := fun h => distW_bd hW0 hcl h
  have hnx : ∀ {i m : Int}, distW W h0 cs.length (wetB cs f) (W - 1) i = some m → 0 < m → ∃ k, nextC W h0 (distW W h0 cs.length (wetB cs f) (W - 1)) i (m - 1) = some k ∧ distW W h0 cs.length (wetB cs f) (W - 1) k = some (m - 1) ∧ k ∈ nearL W h0 false i := fun h h1 => nextC_some h h1
  obtain ⟨d, hd⟩ : ∃ d, d = distW W h0 cs.length (wetB cs f) (W - 1) := ⟨_, rfl⟩
  rw [← hd] at hcho hfr
  simp only [← hd] at hdom hbd hnx
  rw [hcho]
  unfold chanD
  rw [Int.toNat_natCast]
  clear hcho
  refine Spec.of tok Try.func85 rfl rfl rfl fun n0 cx => vc_ok tok ?_
  repeat ((conv => whnf); first | (refine And.intro (by first | omega | exact Nat.le_of_ble_eq_true rfl | (dsimp only [inK]; omega)) ?_) | refine Exists.intro _ (And.intro rfl ?_) | refine fun (K' : K3) hK' => ?_ | (refine hK' _ _ _ ?_; clear hK' K') | refine CallK.mapR (R := []) hfr (by kernel_rfl) rfl (by simp [V.wf, A.wf, C.wf, V.i]) ⟨roE_ints (l := 0) rfl (by omega) rfl (.inl rfl), roE_map (l := 1) rfl (by omega) rfl, trivial⟩ rfl ?_ | refine CallK.m ?_)
  refine Tri.loop (γ := Nat) (fun k => k ≤ h0) (fun k => [(1, V.c (.ptr 2 0)), (4, V.c (.ptr 4 0)), (5, V.i (bestC W d k)), (23, V.i h0), (24, V.i (k : Nat))])
    (fun k => [⟨4, .own 108, [.mp 3]⟩, ⟨3, .mp true .int (stepF d), []⟩, ⟨2, .own 65, [C.i W, C.i h0, .sl 0 cs.length, .mp 1]⟩, ⟨0, .ro 0, cs.map C.i⟩, ⟨1, .mp false .int (bmF f), []⟩]) 5 (fun k => h0 - k) 0 (R0 := []) ?_ ?_ ?_
  · omega
  · skip
    refine ⟨?_, ?_, rfl, rfl, by exact Nat.le_of_ble_eq_true rfl⟩
    · repeat (first | exact trivial | (refine And.intro (covS_syn (by rfl) rfl (by first | exact trivial | exact Nat.le_of_ble_eq_true rfl)) ?_))
    · repeat (first | exact trivial | refine And.intro (covE_mp rfl (Nat.le_of_ble_eq_true rfl) rfl rfl) ?_ | (refine And.intro (covE_id (Nat.le_of_ble_eq_true rfl) (by first | exact wf_ints _ _ | simp [C.wf]) rfl (by rfl)) ?_))
  · intro k hk
    refine vc_ok tok ?_
    by_cases hlt : k < h0
    · have hkw : 0 ≤ (k : Int) * W ∧ (k : Int) * W ≤ 100 := by
        have h1 : 0 ≤ (k : Int) * W := Int.mul_nonneg (by omega) (by omega)
        have h2 := Int.mul_le_mul (show (k : Int) ≤ 10 by omega) hW.2 (by omega) (by omega : (0:Int) ≤ 10)
        omega
      cases hdk : d ((k : Int) * W) with
      | none =>
        have hst : bestC W d (k + 1) = bestC W d k := by simp only [bestC, hdk]
        repeat ((conv => whnf); first | (refine And.intro (by first | omega | exact Nat.le_of_ble_eq_true rfl | (dsimp only [inK]; omega)) ?_) | with_reducible refine lkm (stepF_none hdk) ?_ | refine Exists.intro _ (And.intro rfl ?_) | refine br_t (by omega) ?_ | refine fun (K' : K3) hK' => ?_ | (refine hK' _ _ _ ?_; clear hK' K'))
        refine ⟨k + 1, [], by omega, by omega, ?_⟩
        refine ⟨?_, ?_, rfl, rfl, by exact Nat.le_of_ble_eq_true rfl⟩
        · repeat (first | exact trivial | (refine And.intro (covS_syn (by first | rfl | (refine congrArg some (congrArg V.i ?_); first | omega | exact hst.symm)) rfl (by first | exact trivial | exact Nat.le_of_ble_eq_true rfl)) ?_))
        · repeat (first | exact trivial | refine And.intro (covE_mp rfl (Nat.le_of_ble_eq_true rfl) rfl rfl) ?_ | (refine And.intro (covE_id (Nat.le_of_ble_eq_true rfl) (by first | exact wf_ints _ _ | simp [C.wf]) rfl (by rfl)) ?_))
      | some n =>
        have hb1 := hbd hdk
        rcases bestC_spec hW0 d k with ⟨h1, h2⟩ | ⟨b, n', h1, h2, h3⟩
        · have hst : bestC W d (k + 1) = k * W := by simp only [bestC, hdk, h1]; simp
          rw [h1]
          repeat ((conv => whnf); first | (refine And.intro (by first | omega | exact Nat.le_of_ble_eq_true rfl | (dsimp only [inK]; omega)) ?_) | with_reducible refine lkm (stepF_some hdk) ?_ | refine Exists.intro _ (And.intro rfl ?_) | refine br_t (by omega) ?_ | refine bs_t (by omega) ?_ | refine fun (K' : K3) hK' => ?_ | (refine hK' _ _ _ ?_; clear hK' K'))
          refine ⟨k + 1, [], by omega, by omega, ?_⟩
          refine ⟨?_, ?_, rfl, rfl, by exact Nat.le_of_ble_eq_true rfl⟩
          · repeat (first | exact trivial | (refine And.intro (covS_syn (by first | rfl | (refine congrArg some (congrArg V.i ?_); first | omega | exact hst.symm)) rfl (by first | exact trivial | exact Nat.le_of_ble_eq_true rfl)) ?_))
          · repeat (first | exact trivial | refine And.intro (covE_mp rfl (Nat.le_of_ble_eq_true rfl) rfl rfl) ?_ | (refine And.intro (covE_id (Nat.le_of_ble_eq_true rfl) (by first | exact wf_ints _ _ | simp [C.wf]) rfl (by rfl)) ?_))
        · have hb2 := hbd h3
          have hbw := hdom h3
          have hst : bestC W d (k + 1) = if n < n' then (k : Int) * W else (b : Int) * W := by
            simp only [bestC, hdk, h1, h3]; rw [if_neg (by omega)]
          rw [h1]
          by_cases hl : n < n'
          · rw [if_pos hl] at hst
            repeat ((conv => whnf); first | (refine And.intro (by first | omega | exact Nat.le_of_ble_eq_true rfl | (dsimp only [inK]; omega)) ?_) | with_reducible refine lkm (stepF_some hdk) ?_ | with_reducible refine lkm (stepF_some h3) ?_ | refine Exists.intro _ (And.intro rfl ?_) | refine br_t (by omega) ?_ | refine bs_f (by omega) ?_ | refine fun (K' : K3) hK' => ?_ | (refine hK' _ _ _ ?_; clear hK' K'))
            refine ⟨k + 1, [], by omega, by omega, ?_⟩
            refine ⟨?_, ?_, rfl, rfl, by exact Nat.le_of_ble_eq_true rfl⟩
            · repeat (first | exact trivial | (refine And.intro (covS_syn (by first | rfl | (refine congrArg some (congrArg V.i ?_); first | omega | exact hst.symm)) rfl (by first | exact trivial | exact Nat.le_of_ble_eq_true rfl)) ?_))
            · repeat (first | exact trivial | refine And.intro (covE_mp rfl (Nat.le_of_ble_eq_true rfl) rfl rfl) ?_ | (refine And.intro (covE_id (Nat.le_of_ble_eq_true rfl) (by first | exact wf_ints _ _ | simp [C.wf]) rfl (by rfl)) ?_))
          · rw [if_neg hl] at hst
            repeat ((conv => whnf); first | (refine And.intro (by first | omega | exact Nat.le_of_ble_eq_true rfl | (dsimp only [inK]; omega)) ?_) | with_reducible refine lkm (stepF_some hdk) ?_ | with_reducible refine lkm (stepF_some h3) ?_ | refine Exists.intro _ (And.intro rfl ?_) | refine br_t (by omega) ?_ | refine br_f (by omega) ?_ | refine bs_f (by omega) ?_ | refine fun (K' : K3) hK' => ?_ | (refine hK' _ _ _ ?_; clear hK' K'))
            refine ⟨k + 1, [], by omega, by omega, ?_⟩
            refine ⟨?_, ?_, rfl, rfl, by exact Nat.le_of_ble_eq_true rfl⟩
            · repeat (first | exact trivial | (refine And.intro (covS_syn (by first | rfl | (refine congrArg some (congrArg V.i ?_); first | omega | exact hst.symm)) rfl (by first | exact trivial | exact Nat.le_of_ble_eq_true rfl)) ?_))
            · repeat (first | exact trivial | refine And.intro (covE_mp rfl (Nat.le_of_ble_eq_true rfl) rfl rfl) ?_ | (refine And.intro (covE_id (Nat.le_of_ble_eq_true rfl) (by first | exact wf_ints _ _ | simp [C.wf]) rfl (by rfl)) ?_))
    · have hkw : k = h0 := by omega
      subst hkw
      rcases bestC_spec hW0 d k with ⟨h1, h2⟩ | ⟨b, nb, h1, h2, h3⟩
      · have hno : d (-1) = none := by
          cases hh : d (-1) with
          | none => rfl
          | some w => have := hdom hh; omega
        rw [h1, hno]
        repeat ((conv => whnf); first | refine br_t (by omega) ?_ | refine br_f (by omega) ?_ | refine fun (K' : K3) hK' => ?_ | (refine hK' _ _ _ ?_; clear hK' K'))
        rfl
      · have hb2 := hbd h3
        have hbw := hdom h3
        rw [h1, h3]
        repeat ((conv => whnf); first | (refine And.intro (by first | omega | exact Nat.le_of_ble_eq_true rfl | (dsimp only [inK]; omega)) ?_) | refine br_f (by omega) ?_ | refine fun (K' : K3) hK' => ?_ | (refine hK' _ _ _ ?_; clear hK' K'))
        refine Tri.loop (γ := List Int × Int × Nat) (fun g => ∃ n, d g.2.1 = some n ∧ g.1 ++ pathC W k d n.toNat g.2.1 = pathC W k d nb.toNat ((b : Int) * W) ∧ g.1.length = g.2.2 ∧ g.2.2 + n.toNat = nb.toNat) (fun g => [(1, V.c (.ptr 2 0)), (4, V.c (.ptr 4 0)), (10, V.c (.sl 5 (g.2.2 + 1))), (11, V.c (.ptr 6 0))])
          (fun g => [⟨5, .vec 3 1, (g.1 ++ [g.2.1]).map C.i⟩, ⟨6, .own 3, [C.i g.2.1]⟩, ⟨4, .own 108, [.mp 3]⟩, ⟨3, .mp true .int (stepF d), []⟩, ⟨2, .own 65, [C.i W, C.i k, .sl 0 cs.length, .mp 1]⟩, ⟨0, .ro 0, cs.map C.i⟩, ⟨1, .mp false .int (bmF f), []⟩]) 13 (fun g => match d g.2.1 with | some n => n.toNat | none => 0) ([], (b : Int) * W, 0) (R0 := []) ?_ ?_ ?_
        · exact ⟨nb, h3, rfl, rfl, by simp⟩
        · skip
          refine ⟨?_, ?_, rfl, rfl, by exact Nat.le_of_ble_eq_true rfl⟩
          · repeat (first | exact trivial | refine And.intro (covS_syn (by rfl) rfl (by exact Nat.le_of_ble_eq_true rfl)) ?_)
          · repeat (first | exact trivial | refine And.intro (covE_mp rfl (Nat.le_of_ble_eq_true rfl) rfl rfl) ?_ | (refine And.intro (covE_id (Nat.le_of_ble_eq_true rfl) (by first | exact wf_ints _ _ | simp [C.wf]) rfl (by rfl)) ?_))
        · rintro ⟨pre, at_, m⟩ ⟨n, hw, hp, hlen, hlen2⟩
          simp only at hw hp hlen hlen2 ⊢
          have hwd := hbd hw
          have hat := hdom hw
          refine vc_ok tok ?_
          by_cases h1w : 0 < n
          · obtain ⟨kn, hkn, hdn, hknm⟩ := hnx hw h1w
            obtain ⟨a, rfl⟩ : ∃ a : Nat, at_ = a := ⟨at_.toNat, by omega⟩
            have hfu : n.toNat = (n - 1).toNat + 1 := by omega
            have hstep : pathC W k d n.toNat a = (a : Int) :: pathC W k d (n - 1).toNat kn := by
              rw [hfu]; simp only [pathC, hw, hkn]; rw [if_pos (by omega)]
            repeat ((conv => whnf); first | refine And.intro (by omega) ?_ | with_reducible refine lkm (stepF_some hw) ?_ | refine Exists.intro _ (And.intro rfl ?_) | refine br_t (by omega) ?_ | refine fun (K' : K3) hK' => ?_ | (refine hK' _ _ _ ?_; clear hK' K') | refine CallK.fresh (by kernel_rfl) (near_spec _ _ _ _) rfl ?_ | refine CallK.m ?_)
            refine Tri.opq fun K' hK' => ?_
            refine Tri.near (R0 := []) (W := W) (H := k) (n := cs.length) (i := (a : Int)) (e := false) (fun pre0 => ∀ x ∈ pre0, (decide (d x = some (n - 1))) = false)
              (fun _ => [⟨5, .vec 3 1, (pre ++ [(a : Int)]).map C.i⟩, ⟨6, .own 3, [C.i (a : Int)]⟩, ⟨4, .own 108, [.mp 3]⟩, ⟨3, .mp true .int (stepF d), []⟩, ⟨2, .own 65, [C.i W, C.i k, .sl 0 cs.length, .mp 1]⟩, ⟨0, .ro 0, cs.map C.i⟩, ⟨1, .mp false .int (bmF f), []⟩])
              (fun x hx => by cases hx) (by omega) (by omega) (by omega) (by exact rfl) (by exact rfl) (by exact rfl) ?_ ?_ ?_
            · intro oo
              refine ⟨?_, ?_, rfl, rfl, by exact Nat.le_of_ble_eq_true rfl⟩
              · repeat (exact trivial)
              · repeat (first | exact trivial | refine And.intro (covE_b1 (b := false) (Nat.le_of_ble_eq_true rfl) rfl rfl rfl) ?_ | refine And.intro (covE_mp rfl (Nat.le_of_ble_eq_true rfl) rfl rfl) ?_ | (refine And.intro (covE_id (Nat.le_of_ble_eq_true rfl) (by first | exact wf_ints _ _ | simp [C.wf]) rfl (by rfl)) ?_))
            · intro oo ob od pre0 post kk hsp hk0 hk1 hI cxb hcx
              have next : decide (d kk = some (n - 1)) = false → ∀ x ∈ pre0 ++ [kk], decide (d x = some (n - 1)) = false := fun h x hx => by
                rcases List.mem_append.1 hx with hx | hx
                · exact hI x hx
                · rw [List.mem_singleton.1 hx]; exact h
              refine vc_ok tok ?_
              repeat ((conv => whnf); first | refine fun (K' : K3) hK' => ?_ | (refine hK' _ _ _ ?_; clear hK' K') | refine And.intro (Eq.refl oo) ?_)
              refine vc_ok tok ?_
              cases hdk : d kk with
              | none =>
                repeat ((conv => whnf); first | refine And.intro (by omega) ?_ | with_reducible refine lkm (stepF_none hdk) ?_ | refine Exists.intro _ (And.intro rfl ?_) | refine fun (K' : K3) hK' => ?_ | (refine hK' _ _ _ ?_; clear hK' K') | refine And.intro (Eq.refl ob) ?_)
                refine .inl ⟨rfl, next (by rw [hdk]; simp), [], rfl, ?_⟩
                refine ⟨?_, ?_, rfl, rfl, by exact Nat.le_of_ble_eq_true rfl⟩
                · repeat (exact trivial)
                · repeat (first | exact trivial | refine And.intro (covE_mp rfl (Nat.le_of_ble_eq_true rfl) rfl rfl) ?_ | (refine And.intro (covE_id (Nat.le_of_ble_eq_true rfl) (by first | exact wf_ints _ _ | simp [C.wf]) rfl (by rfl)) ?_))
              | some wk =>
                have hwk := hbd hdk
                by_cases heq : wk = n - 1
                · have hkk : kn = kk := by
                    have := find_first (p := fun x => decide (d x = some (n - 1))) hsp hI (by simp [hdk, heq])
                    unfold nextC at hkn
                    rw [this] at hkn; cases hkn; rfl
                  repeat ((conv => whnf); first | (refine And.intro (by first | omega | exact Nat.le_of_ble_eq_true rfl | (dsimp only [inK]; omega)) ?_) | with_reducible refine lkm (stepF_some hdk) ?_ | with_reducible refine lkm (stepF_some hw) ?_ | refine Exists.intro _ (And.intro rfl ?_) | refine br_t (by omega) ?_ | refine fun (K' : K3) hK' => ?_ | (refine hK' _ _ _ ?_; clear hK' K') | refine And.intro (Eq.refl ob) ?_)
                  refine .inr ⟨rfl, .inr (.inr ⟨4, ?_⟩)⟩
                  refine And.intro (Eq.refl (od (Code.exit 4))) ?_
                  conv => whnf
                  refine hK' _ _ _ _ ?_
                  repeat ((conv => whnf); first | (refine And.intro (by first | omega | exact Nat.le_of_ble_eq_true rfl | (dsimp only [inK]; omega) | (exact ⟨rfl, rfl, rfl, Nat.le_of_ble_eq_true rfl, by simp; omega, by exact Nat.le_of_ble_eq_true rfl, by omega, Nat.le_of_ble_eq_true rfl⟩)) ?_) | refine Exists.intro _ (And.intro rfl ?_) | refine fun (K' : K3) hK' => ?_ | (refine hK' _ _ _ ?_; clear hK' K'))
                  subst hkk
                  refine ⟨(pre ++ [(a : Int)], kn, m + 1), [(5, some 42), (6, some 43)], ⟨_, hdn, ?_, by simp [hlen], by simp only; omega⟩, ?_, ?_⟩
                  · rw [← hp, hstep]; simp
                  · simp only [hdn, hw]; omega
                  · skip
                    refine ⟨?_, ?_, rfl, rfl, by exact Nat.le_of_ble_eq_true rfl⟩
                    · repeat (first | exact trivial | refine And.intro (covS_syn (by rfl) rfl (by exact Nat.le_of_ble_eq_true rfl)) ?_)
                    · repeat (first | exact trivial | refine And.intro (covE_mp rfl (Nat.le_of_ble_eq_true rfl) rfl rfl) ?_ | (refine And.intro (covE_some rfl (Nat.le_of_ble_eq_true rfl) (by first | exact wf_ints _ _ | simp [C.wf]) rfl (by first | exact ren_ints _ _ | (refine (ren_ints _ _).trans (congrArg some ?_); rw [List.map_append]; rfl) | rfl)) ?_))
                · repeat ((conv => whnf); first | (refine And.intro (by first | omega | (dsimp only [inK]; omega)) ?_) | with_reducible refine lkm (stepF_some hdk) ?_ | with_reducible refine lkm (stepF_some hw) ?_ | refine Exists.intro _ (And.intro rfl ?_) | refine br_f (by omega) ?_ | refine fun (K' : K3) hK' => ?_ | (refine hK' _ _ _ ?_; clear hK' K') | refine And.intro (Eq.refl ob) ?_)
                  refine .inl ⟨rfl, next ?_, [], rfl, ?_⟩
                  · rw [hdk]; simp [heq]
                  · skip
                    refine ⟨?_, ?_, rfl, rfl, by exact Nat.le_of_ble_eq_true rfl⟩
                    · repeat (exact trivial)
                    · repeat (first | exact trivial | refine And.intro (covE_mp rfl (Nat.le_of_ble_eq_true rfl) rfl rfl) ?_ | (refine And.intro (covE_id (Nat.le_of_ble_eq_true rfl) (by first | exact wf_ints _ _ | simp [C.wf]) rfl (by rfl)) ?_))
            · intro oo od hI
              have := hI kn hknm
              rw [hdn] at this; simp at this
          · have hone : pathC W k d n.toNat at_ = [at_] := by
              rw [show n.toNat = 0 by omega]; rfl
            rw [hone] at hp
            repeat ((conv => whnf); first | refine And.intro (by omega) ?_ | with_reducible refine lkm (stepF_some hw) ?_ | refine Exists.intro _ (And.intro rfl ?_) | refine br_f (by omega) ?_ | refine fun (K' : K3) hK' => ?_ | (refine hK' _ _ _ ?_; clear hK' K'))
            refine ⟨5, ?_, ?_⟩
            · rw [← hp, List.length_append, hlen]; rfl
            · rw [← hp]; rfl
theorem blocks_spec (W H : Int) (cs : List Int) (f : Int → Bool) (hok : CO W H cs) :
    Spec Try.prog 83 [chV W H cs.length] [⟨0, .ro 0, cs.map C.i⟩, ⟨1, .mp false .int (bmF f), []⟩] 2 (Is (V.c (.bool (chanO W H cs.length (wetB cs f)).isNone))) := by
  have hch := channel_spec W H cs f hok
  refine Spec.of tok Try.func83 rfl rfl rfl fun n0 cx => vc_ok tok ?_
  cases ho : chanO W H cs.length (wetB cs f) with
  | none =>
    repeat ((conv => whnf); first | refine Exists.intro _ (And.intro rfl ?_) | refine fun (K' : K3) hK' => ?_ | (refine hK' _ _ _ ?_; clear hK' K') | refine CallK.chanN (R := []) ho hch (by kernel_rfl) rfl (by simp [V.wf, A.wf, C.wf]) ⟨roE_ints (l := 0) rfl (by omega) rfl (.inl rfl), roE_map (l := 1) rfl (by omega) rfl, trivial⟩ rfl ?_ | refine CallK.m ?_)
    intro ρ; rfl
  | some l =>
    repeat ((conv => whnf); first | refine Exists.intro _ (And.intro rfl ?_) | refine fun (K' : K3) hK' => ?_ | (refine hK' _ _ _ ?_; clear hK' K') | refine CallK.chanS (R := []) ho hch (by kernel_rfl) rfl (by simp [V.wf, A.wf, C.wf]) ⟨roE_ints (l := 0) rfl (by omega) rfl (.inl rfl), roE_map (l := 1) rfl (by omega) rfl, trivial⟩ rfl ?_ | refine CallK.m ?_)
    intro ρ; rfl
noncomputable def chC (W H : Int) (cs : List Int) (bs : List Cell) : List Cell := if okC W H cs && okB W H cs bs then (match chanO W H cs.length (wetB cs (boomF W H bs)) with | none => [] | some l => cellsL W l) else []
noncomputable def chE (W H : Int) (cs : List Int) (bs : List Cell) : Int := if okC W H cs then (if okB W H cs bs then (match chanO W H cs.length (wetB cs (boomF W H bs)) with | none => 5 | some _ => 0) else 2) else 30
noncomputable def blB (W H : Int) (cs : List Int) (bs : List Cell) : Bool := (okC W H cs && okB W H cs bs) && (chanO W H cs.length (wetB cs (boomF W H bs))).isNone
def blE (W H : Int) (cs : List Int) (bs : List Cell) : Int := if okC W H cs then (if okB W H cs bs then 0 else 2) else 30
theorem pBlocks_spec (W H : Int) (cs : List Int) (bs : List Cell) (hl : cs.length ≤ 300) (hb : bs.length ≤ 300) :
    Spec Try.prog 42 [chR W H cs.length, V.c (.sl 1 bs.length)] [⟨0, .ro 0, cs.map C.i⟩, ⟨1, .ro 0, cellC bs⟩] 2 (Is (V.tup [A.c (.bool (blB W H cs bs)), A.c (C.i (blE W H cs bs))])) := by
  unfold blB blE
  refine Spec.of tok Try.func42 rfl rfl rfl fun n0 cx => vc_ok tok ?_
  cases hv : okC W H cs with
  | false =>
    repeat ((conv => whnf); first | (refine And.intro (by first | omega | exact Nat.le_of_ble_eq_true rfl) ?_) | refine Exists.intro _ (And.intro rfl ?_) | refine br_t (by omega) ?_ | refine fun (K' : K3) hK' => ?_ | (refine hK' _ _ _ ?_; clear hK' K') | refine CallK.newNo (a := 0) (bs := bs) (R := []) 30 hl hb (.inl ⟨hv, rfl⟩) rfl rfl ⟨roE_ints (l := 0) rfl (by omega) rfl (.inl rfl), roE_cells (l := 1) rfl (by omega) rfl (.inl rfl), trivial⟩ ?_ | refine CallK.m ?_)
    intro ρ; rfl
  | true =>
    cases hB : okB W H cs bs with
    | false =>
      repeat ((conv => whnf); first | (refine And.intro (by first | omega | exact Nat.le_of_ble_eq_true rfl) ?_) | refine Exists.intro _ (And.intro rfl ?_) | refine br_t (by omega) ?_ | refine fun (K' : K3) hK' => ?_ | (refine hK' _ _ _ ?_; clear hK' K') | refine CallK.newNo (a := 0) (bs := bs) (R := []) 2 hl hb (.inr ⟨hv, hB, rfl⟩) rfl rfl ⟨roE_ints (l := 0) rfl (by omega) rfl (.inl rfl), roE_cells (l := 1) rfl (by omega) rfl (.inl rfl), trivial⟩ ?_ | refine CallK.m ?_)
      intro ρ; rfl
    | true =>
      have hbl := blocks_spec W H cs (boomF W H bs) (okC_iff.1 hv)
      repeat ((conv => whnf); first | (refine And.intro (by first | omega | exact Nat.le_of_ble_eq_true rfl) ?_) | refine Exists.intro _ (And.intro rfl ?_) | refine br_f (by omega) ?_ | refine fun (K' : K3) hK' => ?_ | (refine hK' _ _ _ ?_; clear hK' K') | refine CallK.newOk (a := 0) (bs := bs) (R := []) hl hb hv hB rfl rfl (by omega) ⟨roE_ints (l := 0) rfl (by omega) rfl (.inl rfl), roE_cells (l := 1) rfl (by omega) rfl (.inl rfl), trivial⟩ ?_ | refine CallK.val (R := [(1, some 3)]) hbl (by kernel_rfl) rfl (by simp [V.wf, A.wf, C.wf]) ⟨roE_ints (l := 0) rfl (by omega) rfl (.inl rfl), roE_map (l := 3) rfl (by omega) rfl, trivial⟩ rfl rfl trivial ?_ | refine CallK.m ?_)
      intro ρ; rfl
end Go.Proofs.Ytbhpnhcdjmcaoaa

/- Boom, plain: rows of bools, and the steps level by level. -/
namespace Go.Proofs.Ytbhpnhcdjmcaoaa
open Go.RowKit
set_option linter.unusedVariables false
set_option linter.unusedSimpArgs false
def bL (n : Nat) (g : Int → Bool) : List Bool := (List.range n).map fun i : Nat => g (i : Int)
def updG (g : Int → Bool) (k : Int) (b : Bool) : Int → Bool := fun i => if i = k then b else g i
/-- What is open: the first k cells told; then the booms told. -/
def opA (cs : List Int) (k : Nat) (i : Int) : Bool := decide (i < k) && decide (cs.getD i.toNat 0 ≥ 0)
def opB (W H : Int) (cs : List Int) (bs : List Cell) (j : Nat) (i : Int) : Bool := decide (cs.getD i.toNat 0 ≥ 0) && !boomP W H bs j i
/-- Booms that are in order are of the chart. -/
theorem okB_on {W H : Int} {cs : List Int} {bs : List Cell} (hW : 0 < W) (h : okB W H cs bs = true) : ∀ k, k < bs.length → onB W H (bs.getD k (0, 0)).1 (bs.getD k (0, 0)).2 = true := fun k hk => by
  unfold okB okBk at h
  have := List.all_eq_true.1 h k (List.mem_range.2 hk)
  unfold badK at this
  simp only [Bool.not_eq_true', Bool.or_eq_false_iff, decide_eq_false_iff_not] at this
  exact idx_on (by omega) hW
/-- The steps that are at most so many, and one more of each. -/
def lvl (d : Int → Option Int) (t i : Int) : Int := match d i with
  | some m => if m + 1 ≤ t then m + 1 else 0
  | none => 0
def lef (d : Int → Option Int) (i : Int) : Int := match d i with
  | some m => m + 1
  | none => 0
def iL (n : Nat) (g : Int → Int) : List Int := (List.range n).map fun i : Nat => g (i : Int)
theorem iL_len (n : Nat) (g : Int → Int) : (iL n g).length = n := by simp [iL]
theorem iL_of {L : List Int} {n : Nat} {g : Int → Int} (hl : L.length = n) (h : ∀ i : Nat, i < n → hL L i = g i) : L = iL n g := by
  apply List.ext_getElem
  · rw [hl, iL_len]
  · intro j h1 h2
    have := h j (by omega)
    unfold hL at this
    rw [Int.toNat_natCast, List.getD_eq_getElem?_getD, List.getElem?_eq_getElem h1] at this
    simp only [iL, List.getElem_map, List.getElem_range]
    exact this
section
variable {W H : Int} {n : Nat} {wet : Int → Bool} {col : Int}
/-- A level under way: the cells in front of j have told theirs, j has told those of pre. -/
structure LI (W H : Int) (n : Nat) (wet : Int → Bool) (d : Int → Option Int) (t : Int) (j : Int) (pre : List Int) (L : List Int) : Prop where
  len : L.length = n
  val : ∀ i : Int, 0 ≤ i → i < n → hL L i = lvl d t i ∨ (hL L i = t + 1 ∧ d i = some t)
  done : ∀ i : Int, 0 ≤ i → i ≤ j → d i = some (t - 1) → ∀ k ∈ nbW W H n wet i, (i = j → k ∈ pre) → hL L k ≠ 0
theorem LI.told {d : Int → Option Int} {t j : Int} {pre L : List Int} (h : LI W H n wet d t j pre L) (ht : 1 ≤ t) (h0 : 0 ≤ j) (hj : j < n) : hL L j = t ↔ d j = some (t - 1) := by
  rcases h.val j h0 hj with h1 | ⟨h1, h2⟩
  · rw [h1]
    unfold lvl
    cases hd : d j with
    | none => simp only; exact ⟨fun e => by omega, fun e => by cases e⟩
    | some m =>
      simp only [Option.some.injEq]
      split <;> omega
  · rw [h1, h2, Option.some.injEq]; omega
theorem LI.row {d : Int → Option Int} {t j : Int} {pre L : List Int} (h : LI W H n wet d t j pre L) (hj : -1 ≤ j) (hall : d j = some (t - 1) → ∀ k ∈ nbW W H n wet j, k ∈ pre) : LI W H n wet d t (j + 1) [] L := by
  refine ⟨h.len, h.val, fun i h0 h1 hd k hk hp => ?_⟩
  by_cases he : i = j + 1
  · have := hp he; cases this
  · exact h.done i h0 (by omega) hd k hk (fun e => hall (e ▸ hd) k (e ▸ hk))
theorem LI.skip {d : Int → Option Int} {t j k : Int} {pre L : List Int} (h : LI W H n wet d t j pre L) (hk : k ∈ nbW W H n wet j → hL L k ≠ 0) : LI W H n wet d t j (pre ++ [k]) L := by
  refine ⟨h.len, h.val, fun i h0 h1 hd k' hk' hp => ?_⟩
  by_cases he : i = j ∧ k' = k
  · obtain ⟨rfl, rfl⟩ := he; exact hk hk'
  · exact h.done i h0 h1 hd k' hk' (fun e => by
      rcases List.mem_append.1 (hp e) with hh | hh
      · exact hh
      · exact absurd ⟨e, List.mem_singleton.1 hh⟩ he)
theorem lvl_pos {d : Int → Option Int} {t i m : Int} (hd : d i = some m) (h0 : 0 ≤ m) : lvl d t i = 0 → t < m + 1 := by
  unfold lvl; rw [hd]; simp only; split <;> omega
theorem LI.put (hW : 0 < W) (hn : (n : Int) = W * H) {t j k : Int} {pre L : List Int} (h : LI W H n wet (distW W H n wet col) t j pre L) (ht : 1 ≤ t) (hj : distW W H n wet col j = some (t - 1)) (hk : k ∈ nbW W H n wet j) (h0 : hL L k = 0) :
    LI W H n wet (distW W H n wet col) t j (pre ++ [k]) (L.set k.toNat (t + 1)) := by
  have hD := distO_is (iniW W n wet col) (nbW W H n wet)
  have hin := nbW_in hW hn j k hk
  have hdk : distW W H n wet col k = some t := by
    obtain ⟨l, h1, h2⟩ := hD.sound j (t - 1) hj
    obtain ⟨m, h3, h4⟩ := hD.comp k (j :: l) ⟨nbW_sym hW hn j k hk, h1⟩
    have h3' : distW W H n wet col k = some m := h3
    have hp := hD.pos h3
    rcases h.val k hin.2.1 hin.2.2 with h5 | ⟨h5, _⟩
    · have := lvl_pos h3' hp (by rw [← h5]; exact h0)
      rw [h3']; congr 1; simp at h4; omega
    · omega
  have hset := fun i (hi : 0 ≤ i) => hL_set (hs := L) (b := k) (j := i) (x := t + 1) hin.2.1 hi (by rw [h.len]; exact hin.2.2)
  refine ⟨by rw [List.length_set, h.len], fun i i0 i1 => ?_, fun i i0 i1 hd k' hk' hp => ?_⟩
  · rw [hset i i0]
    by_cases he : i = k
    · subst he; rw [if_pos rfl]; exact .inr ⟨rfl, hdk⟩
    · rw [if_neg he]; exact h.val i i0 i1
  · have hin' := nbW_in hW hn i k' hk'
    rw [hset k' hin'.2.1]
    by_cases he : k' = k
    · rw [if_pos he]; omega
    · rw [if_neg he]
      exact h.done i i0 i1 hd k' hk' (fun e => by
        rcases List.mem_append.1 (hp e) with hh | hh
        · exact hh
        · exact absurd (List.mem_singleton.1 hh) he)
theorem LI.last (hW : 0 < W) (hn : (n : Int) = W * H) {t : Int} {L : List Int} {pre : List Int} (h : LI W H n wet (distW W H n wet col) t n pre L) (ht : 1 ≤ t) : L = iL n (lvl (distW W H n wet col) (t + 1)) := by
  have hD := distO_is (iniW W n wet col) (nbW W H n wet)
  refine iL_of h.len fun i hi => ?_
  rcases h.val i (by omega) (by omega) with h1 | ⟨h1, h2⟩
  · rw [h1]
    unfold lvl
    cases hd : distW W H n wet col i with
    | none => rfl
    | some m =>
      have hp := hD.pos (show distO (iniW W n wet col) (nbW W H n wet) i = some m from hd)
      simp only
      by_cases hm : m + 1 ≤ t
      · rw [if_pos hm, if_pos (by omega)]
      · rw [if_neg hm]
        by_cases hm2 : m = t
        · exfalso
          obtain ⟨k, hk, hdk⟩ := hD.next (show distO (iniW W n wet col) (nbW W H n wet) i = some m from hd) (by omega)
          have hin := nbW_in hW hn i k hk
          have hz := h.done k hin.2.1 (by omega) (by rw [← hm2]; exact hdk) i (nbW_sym hW hn i k hk) (fun e => by omega)
          apply hz
          rw [h1]; unfold lvl; rw [hd]; simp only; rw [if_neg hm]
        · rw [if_neg (by omega)]
  · rw [h1]
    unfold lvl
    rw [h2]; simp only; rw [if_pos (by omega)]
/-- The last column, the first k rows of it. -/
def colK (W : Int) (n : Nat) (wet : Int → Bool) (col : Int) (k : Nat) (i : Int) : Int := if iniW W n wet col i = true ∧ i / W < k then 1 else 0
end
end Go.Proofs.Ytbhpnhcdjmcaoaa

/- Boom, the reference: what is open, and how many cells are left. -/
namespace Go.Proofs.Ytbhpnhcdjmcaoaa
open Go.RowKit
set_option linter.unusedVariables false
set_option linter.unusedSimpArgs false
def boolsR (l : List Bool) (v : V) (L' : List E) : Prop := ∃ lab, v = V.c (.sl lab l.length) ∧ find L' lab = some ⟨lab, .vec 4 1, l.map C.bool⟩
theorem chk_bools (p : Nat → Bool) (l : List Bool) : (l.map C.bool).all (C.chk p) = true := List.all_eq_true.2 fun c hc => by
  obtain ⟨b, _, rfl⟩ := List.mem_map.1 hc; rfl
theorem CallK.boolsR {P : Program} {n0 nx nac : Nat} {f : FuncId} {vs vs' : List V} {Lc L : List E} {R : Rn} {K : V → List E → Nat → Prop} {l : List Bool} (spec : Spec P f vs Lc nac (fun v L' _ => boolsR l v L')) (hok : callB P f = true)
    (hv : renVs R vs = some vs') (hvw : ∀ v ∈ vs, v.wf nac) (hL : roL R nac L Lc) (hLc : injB [] Lc = true)
    (hK : K (V.c (.sl nx l.length)) [⟨nx, .vec 4 1, l.map C.bool⟩] (nx + 1)) : CallK P n0 f vs' L nx K := by
  refine CallK.mk' hok spec hv hvw hL hLc ?_
  rintro v L' nx' hw ⟨lab, rfl, hf⟩
  refine ⟨V.c (.sl nx l.length), [⟨nx, .vec 4 1, l.map C.bool⟩], nx + 1, [(nx, some lab)], ⟨Nat.le_succ _, ?_, ?_, ⟨covE_some (renL_one _ _) (Nat.lt_succ_self nx) (wf_bools _ _) hf (ren_bools _ _), trivial⟩, rfl, ?_⟩, hK⟩
  · simp only [V.ren, A.ren, C.ren, renL_one]
  · simp only [V.chk, A.chk, C.chk]; exact inLab_one nx
  · simp only [List.all_cons, List.all_nil, Bool.and_true, inLab_one, Kd.isRo, Bool.not_false, Bool.true_and]
    exact chk_bools _ _
end Go.Proofs.Ytbhpnhcdjmcaoaa

/- Boom: charts that are told cell by cell. -/
namespace Go.Proofs.Ytbhpnhcdjmcaoaa
open Go.RowKit
set_option linter.unusedVariables false
set_option linter.unusedSimpArgs false
def chgL (cs : List Int) (g : Int → Int) : List Int := (List.range cs.length).map fun i : Nat => g (i : Int)
def chgK (g : Int → Int) (k : Nat) : List Int := (List.range k).map fun i : Nat => g (i : Int)
theorem chgL_len (cs : List Int) (g : Int → Int) : (chgL cs g).length = cs.length := by simp [chgL]
def dryG (W H : Int) (cs : List Int) (bs : List Cell) (i : Int) : Int := if boomF W H bs i then -1 else cs.getD i.toNat 0
def turnI (W H i : Int) : Int := (H - 1 - i / W) * W + i % W
def turnG (W H : Int) (cs : List Int) (i : Int) : Int := cs.getD (turnI W H i).toNat 0
def strG (cs : List Int) (most : Int) (i : Int) : Int := if cs.getD i.toNat 0 > most then 0 else cs.getD i.toNat 0
theorem turnI_bd {W H i : Int} (hW : 0 < W) (hi : 0 ≤ i) (hn : i < W * H) : 0 ≤ turnI W H i ∧ turnI W H i < W * H := by
  have h1 := Int.emod_nonneg i (show W ≠ 0 by omega)
  have h2 := Int.emod_lt_of_pos i hW
  have h4 : 0 ≤ i / W := Int.ediv_nonneg hi (by omega)
  have h5 : i / W < H := Int.ediv_lt_of_lt_mul hW (by rw [Int.mul_comm]; exact hn)
  unfold turnI
  have h6 : 0 ≤ (H - 1 - i / W) * W := Int.mul_nonneg (by omega) (by omega)
  have h7 : (H - 1 - i / W) * W ≤ (H - 1) * W := Int.mul_le_mul_of_nonneg_right (by omega) (by omega)
  have h8 : (H - 1) * W = W * H - W := by rw [Int.sub_mul, Int.mul_comm H W]; omega
  omega
/-- A chart that comes about, and an error. -/
def chgR (W H : Int) (l : List Int) (v : V) (L' : List E) : Prop := ∃ lab, v = V.agg [C.i W, C.i H, .sl lab l.length] ∧ find L' lab = some ⟨lab, .vec 3 1, l.map C.i⟩

end Go.Proofs.Ytbhpnhcdjmcaoaa

/- Boom: Dry, Turned, Strong. -/
namespace Go.Proofs.Ytbhpnhcdjmcaoaa
open Go.RowKit
set_option linter.unusedVariables false
set_option linter.unusedSimpArgs false
section
variable {P : Program} {n0 nx nac : Nat} {f : FuncId} {vs vs' : List V} {Lc L : List E} {R : Rn} {K : V → List E → Nat → Prop}
theorem CallK.chg {W H : Int} {l : List Int} (spec : Spec P f vs Lc nac (fun v L' _ => chgR W H l v L')) (hok : callB P f = true)
    (hv : renVs R vs = some vs') (hvw : ∀ v ∈ vs, v.wf nac) (hL : roL R nac L Lc) (hLc : injB [] Lc = true)
    (hK : K (V.agg [C.i W, C.i H, .sl nx l.length]) [⟨nx, .vec 3 1, l.map C.i⟩] (nx + 1)) : CallK P n0 f vs' L nx K := by
  refine CallK.mk' hok spec hv hvw hL hLc ?_
  rintro v L' nx' hw ⟨lab, rfl, hf⟩
  refine ⟨V.agg [C.i W, C.i H, .sl nx l.length], [⟨nx, .vec 3 1, l.map C.i⟩], nx + 1, [(nx, some lab)], ⟨Nat.le_succ _, ?_, ?_, ⟨covE_some (renL_one _ _) (Nat.lt_succ_self nx) (wf_ints _ _) hf (ren_ints _ _), trivial⟩, rfl, ?_⟩, hK⟩
  · simp [V.ren, A.ren, C.ren, renL_one, C.i, seqO]
  · simp [V.chk, A.chk, C.chk, inLab_one, C.i]
  · simp only [List.all_cons, List.all_nil, Bool.and_true, inLab_one, Kd.isRo, Bool.not_false, Bool.true_and]
    exact chk_ints _ _
/-- A chart and an error. -/
def chrE (o : Option (List Int)) (W H Er : Int) (v : V) (L' : List E) : Prop := match o with
  | none => v = V.tup [A.agg [C.i 0, C.i 0, .nil], A.c (C.i Er)]
  | some l => ∃ lab, v = V.tup [A.agg [C.i W, C.i H, .sl lab l.length], A.c (C.i 0)] ∧ find L' lab = some ⟨lab, .vec 3 1, l.map C.i⟩
end
def dryO (W H : Int) (cs : List Int) (bs : List Cell) : Option (List Int) := if okC W H cs = true ∧ okB W H cs bs = true then some (chgL cs (dryG W H cs bs)) else none
def dryE (W H : Int) (cs : List Int) (bs : List Cell) : Int := if okC W H cs = true then (if okB W H cs bs = true then 0 else 2) else 30
def turnO (W H : Int) (cs : List Int) : Option (List Int) := if okC W H cs = true then some (chgL cs (turnG W H cs)) else none
def turnE (W H : Int) (cs : List Int) : Int := if okC W H cs = true then 0 else 30
def strO (W H : Int) (cs : List Int) (most : Int) : Option (List Int) := if okC W H cs = true ∧ (0 ≤ most ∧ most ≤ 100) then some (chgL cs (strG cs most)) else none
def strE (W H : Int) (cs : List Int) (most : Int) : Int := if okC W H cs = true then (if 0 ≤ most ∧ most ≤ 100 then 0 else 2) else 30
end Go.Proofs.Ytbhpnhcdjmcaoaa

/- Boom, the reference: booms; Dry, Turned, Strong; charts that are the same. -/
namespace Go.Proofs.Ytbhpnhcdjmcaoaa
open Go.RowKit
set_option linter.unusedVariables false
set_option linter.unusedSimpArgs false
theorem cmp_ge (a b : Cell) : cmpC a b ≥ 0 ↔ (b.2 < a.2 ∨ (b.2 = a.2 ∧ b.1 ≤ a.1)) := by
  unfold cmpC orI cmpI
  by_cases h1 : a.2 < b.2
  · simp [h1]; omega
  · by_cases h2 : a.2 > b.2
    · simp [h1, h2]
    · have h3 : a.2 = b.2 := by omega
      simp only [h3]
      by_cases h4 : a.1 < b.1
      · simp [h4]
        try omega
      · by_cases h5 : a.1 > b.1
        · simp [h4, h5]; omega
        · simp [h4, h5]; omega
def askE (W H : Int) (cs : List Int) (bs : List Cell) : Int := if okC W H cs = true then (if okB W H cs bs = true then 0 else 2) else 30
/-- What comes about, cell by cell. -/
def mixL (cs : List Int) (b : Int → Bool) (g : Int → Int) : List Int := (List.range cs.length).map fun i : Nat => if b (i : Int) then g (i : Int) else cs.getD i 0
end Go.Proofs.Ytbhpnhcdjmcaoaa

/- Boom, the reference: the shortest channel that comes first, and whether booms block. -/
namespace Go.Proofs.Ytbhpnhcdjmcaoaa
open Go.RowKit
set_option linter.unusedVariables false
set_option linter.unusedSimpArgs false
/-- The first of some cells that is wanted; -1: none is. -/
def firstF (p : Int → Bool) (l : List Int) : Int := match l.find? p with
  | some k => k
  | none => -1
end Go.Proofs.Ytbhpnhcdjmcaoaa

/- Boom: which lists are channels. -/
namespace Go.Proofs.Ytbhpnhcdjmcaoaa
open Go.RowKit
set_option linter.unusedVariables false
set_option linter.unusedSimpArgs false
/-- What a channel by booms is. -/
structure ChanP (W H : Int) (wet : Int → Bool) (l : List Cell) : Prop where
  on : ∀ j, j < l.length → onB W H (l.getD j cz).1 (l.getD j cz).2 = true
  nd : ∀ j i, j < l.length → i < j → ¬ l.getD j cz = l.getD i cz
  len : 1 ≤ l.length ∧ l.length ≤ 100
  adj : ∀ j, j + 1 < l.length → adj false (l.getD (j + 1) cz) (l.getD j cz)
  wet : ∀ j, j < l.length → wet (idxU W (l.getD j cz)) = true
  left : (l.getD 0 cz).1 = 0
  right : (l.getD (l.length - 1) cz).1 = W - 1
def isChP (W H : Int) (wet : Int → Bool) (l : List Cell) : Bool := listOkK W H l l.length && (lenOk l && ((decide ((listI W H l).getD 0 0 % W = 0) && decide ((listI W H l).getD (l.length - 1) 0 % W = W - 1)) && ((!(listI W H l).any fun i => !wet i) && follB W H false (listI W H l) l.length)))
def isChR (W H : Int) (wet : Int → Bool) (l : List Cell) : Bool := isWayB W H l false && ((decide ((l.getD 0 cz).1 = 0) && decide ((l.getD (l.length - 1) cz).1 = W - 1)) && l.all fun p => wet (idxU W p))
def isChB (W H : Int) (cs : List Int) (bs l : List Cell) : Bool := (okC W H cs && okB W H cs bs) && isChR W H (wetB cs (boomF W H bs)) l
end Go.Proofs.Ytbhpnhcdjmcaoaa

