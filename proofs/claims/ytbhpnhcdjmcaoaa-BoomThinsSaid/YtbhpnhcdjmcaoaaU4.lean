/- Texts of the proof, part 4: R1, B9c, O1, L0, R2, P4, P7, H1, B4, R3, R4, R5, B8, B9, P5, KA, P6, P9, P16, P8, P14, X1, R6, X2, P15, X3, D1, D2, D3, X4, X5, P10, P11, P17, X6, P18, P19, T1. -/
import Derived.Test.YtbhpnhcdjmcaoaaU3
import Derived.WalkKit
import Derived.Below
import Derived.Laws.OwnMore
import Derived.Maps.AppendAt
import Derived.Laws.IdiomCopy
import Derived.Laws.CopyRow
import Derived.IntWalk
import Derived.StillTail
import Derived.Scope
import Derived.ChangeKeysEq
import Derived.Laws.Small
import Derived.OrdersIn
import Derived.TacticsIn
import Derived.OwnWalkIn
import Derived.RangeFuncNested
import Derived.RangeFuncLeaves
import Derived.RangeFuncRecord
import Derived.Maps.Keyed
import Derived.Maps.RangeRun
import Derived.DeepKeys4
import Derived.Test.YtbhpnhcdjmcaoaaRows
import Derived.KernelRfl
import Derived.ProofKit
import Derived.OpenShut
import Derived.Lib.SmallJoins
import Derived.Deep.Slices
import Derived.PlainAid
import Derived.StillTailTactics
import Derived.WalkSpells
import Derived.OwnWalk
import Derived.Deep.RegionLaw
import Derived.Lib.SliceRun
/- Boom, the reference: small functions; neighbours. -/
namespace Go.Proofs.Ytbhpnhcdjmcaoaa
open Go.RowKit
set_option linter.unusedVariables false
set_option linter.unusedSimpArgs false
/-- A chart as the reference's functions take it. -/
@[reducible] def chR (W H : Int) (n : Nat) : V := V.agg [C.i W, C.i H, C.sl 0 n]
def mx (a b : Int) : Int := if b > a then b else a
set_option maxHeartbeats 2000000 in
theorem rvalid_spec (W H : Int) (cs : List Int) (hl : cs.length ≤ 300) : Spec Try.prog 35 [chR W H cs.length] [⟨0, .ro 0, cs.map C.i⟩] 1 (Is (V.c (.bool (okC W H cs)))) := by
  have hlm : (cs.map C.i).length = cs.length := by simp
  refine Spec.of tok Try.func35 rfl rfl rfl fun n0 cx => vc_ok tok ?_
  have hno : (¬ (1 ≤ W ∧ W ≤ 10) ∨ ¬ (1 ≤ H ∧ H ≤ 10) ∨ ¬ (cs.length : Int) = W * H) → okC W H cs = false := fun h => by
    rcases h with h | h | h
    · simp only [okC, dd_f h]; simp
    · simp only [okC, dd_f h]; simp
    · simp only [okC, dd_f h]; simp
  by_cases h1 : W < 1
  · have hf := hno (.inl (by omega))
    repeat ((conv => whnf); first | (refine And.intro (by first | omega | exact Nat.le_of_ble_eq_true rfl) ?_) | refine Exists.intro _ (And.intro rfl ?_) | refine bs_t (by omega) ?_ | refine fun (K' : K3) hK' => ?_ | (refine hK' _ _ _ ?_; clear hK' K'))
    intro ρ; rw [hf]; rfl
  · by_cases h2 : W > 10
    · have hf := hno (.inl (by omega))
      repeat ((conv => whnf); first | (refine And.intro (by first | omega | exact Nat.le_of_ble_eq_true rfl) ?_) | refine Exists.intro _ (And.intro rfl ?_) | refine bs_t (by omega) ?_ | refine bs_f (by omega) ?_ | refine fun (K' : K3) hK' => ?_ | (refine hK' _ _ _ ?_; clear hK' K'))
      intro ρ; rw [hf]; rfl
    · by_cases h3 : H < 1
      · have hf := hno (.inr (.inl (by omega)))
        repeat ((conv => whnf); first | (refine And.intro (by first | omega | exact Nat.le_of_ble_eq_true rfl) ?_) | refine Exists.intro _ (And.intro rfl ?_) | refine bs_t (by omega) ?_ | refine bs_f (by omega) ?_ | refine fun (K' : K3) hK' => ?_ | (refine hK' _ _ _ ?_; clear hK' K'))
        intro ρ; rw [hf]; rfl
      · by_cases h4 : H > 10
        · have hf := hno (.inr (.inl (by omega)))
          repeat ((conv => whnf); first | (refine And.intro (by first | omega | exact Nat.le_of_ble_eq_true rfl) ?_) | refine Exists.intro _ (And.intro rfl ?_) | refine bs_t (by omega) ?_ | refine bs_f (by omega) ?_ | refine fun (K' : K3) hK' => ?_ | (refine hK' _ _ _ ?_; clear hK' K'))
          intro ρ; rw [hf]; rfl
        · have hm : W * H ≤ 10 * 10 := Int.mul_le_mul (by omega) (by omega) (by omega) (by omega)
          have hm0 : 0 ≤ W * H := Int.mul_nonneg (by omega) (by omega)
          by_cases h5 : ¬ (cs.length : Int) = W * H
          · have hf := hno (.inr (.inr h5))
            repeat ((conv => whnf); first | (refine And.intro (by first | omega | exact Nat.le_of_ble_eq_true rfl | (dsimp only [inK]; omega)) ?_) | refine Exists.intro _ (And.intro rfl ?_) | refine br_t (by omega) ?_ | refine bs_f (by omega) ?_ | refine fun (K' : K3) hK' => ?_ | (refine hK' _ _ _ ?_; clear hK' K'))
            intro ρ; rw [hf]; rfl
          · have h5' : (cs.length : Int) = W * H := Classical.byContradiction h5
            repeat ((conv => whnf); first | (refine And.intro (by first | omega | exact Nat.le_of_ble_eq_true rfl | (dsimp only [inK]; omega)) ?_) | refine Exists.intro _ (And.intro rfl ?_) | refine br_f (by omega) ?_ | refine bs_f (by omega) ?_ | refine fun (K' : K3) hK' => ?_ | (refine hK' _ _ _ ?_; clear hK' K'))
            refine Tri.loop (γ := Nat) (fun k => k ≤ cs.length ∧ ∀ j, j < k → -1 ≤ cs.getD j 0 ∧ cs.getD j 0 ≤ 100) (fun k => [(2, V.c .ff), (35, V.c (.sl 0 cs.length)), (36, V.i cs.length), (37, V.i (k : Nat))]) (fun k => [⟨0, .ro 0, cs.map C.i⟩]) 2 (fun k => cs.length - k) 0 (R0 := []) ?_ ?_ ?_
            · exact ⟨by omega, fun j hj => by omega⟩
            · skip
              refine ⟨?_, ?_, rfl, rfl, by exact Nat.le_of_ble_eq_true rfl⟩
              · repeat (first | exact trivial | (refine And.intro (covS_syn (by rfl) rfl (by first | exact trivial | exact Nat.le_of_ble_eq_true rfl)) ?_))
              · repeat (first | exact trivial | refine And.intro (covE_id (Nat.le_of_ble_eq_true rfl) (by exact wf_ints _ _) rfl (by rfl)) ?_)
            · rintro k ⟨hk, hall⟩
              refine vc_ok tok ?_
              by_cases hlt : k < cs.length
              · have hmem : cs.getD k 0 ∈ cs := by rw [List.getD_eq_getElem?_getD, List.getElem?_eq_getElem hlt]; exact List.getElem_mem hlt
                have hld := intL hlt
                have hbad : ¬ (-1 ≤ cs.getD k 0 ∧ cs.getD k 0 ≤ 100) → okC W H cs = false := fun h => by
                  cases hh : okC W H cs with
                  | false => rfl
                  | true => exact absurd ((okC_iff.1 hh).cost _ hmem) h
                obtain ⟨ck, hck⟩ : ∃ ck, ck = cs.getD k 0 := ⟨_, rfl⟩
                rw [← hck] at hld hbad
                by_cases g1 : ck < -1
                · have hf := hbad (by omega)
                  repeat ((conv => whnf); first | (refine And.intro (by first | omega | (dsimp only [inK]; omega)) ?_) | with_reducible refine ld (hld) ?_ | refine br_t (by omega) ?_ | refine bs_t (by omega) ?_ | refine fun (K' : K3) hK' => ?_ | (refine hK' _ _ _ ?_; clear hK' K'))
                  intro ρ; rw [hf]; rfl
                · by_cases g2 : ck > 100
                  · have hf := hbad (by omega)
                    repeat ((conv => whnf); first | (refine And.intro (by first | omega | (dsimp only [inK]; omega)) ?_) | with_reducible refine ld (hld) ?_ | refine br_t (by omega) ?_ | refine bs_f (by omega) ?_ | refine fun (K' : K3) hK' => ?_ | (refine hK' _ _ _ ?_; clear hK' K'))
                    intro ρ; rw [hf]; rfl
                  · repeat ((conv => whnf); first | (refine And.intro (by first | omega | (dsimp only [inK]; omega)) ?_) | with_reducible refine ld (hld) ?_ | refine br_t (by omega) ?_ | refine br_f (by omega) ?_ | refine bs_f (by omega) ?_ | refine fun (K' : K3) hK' => ?_ | (refine hK' _ _ _ ?_; clear hK' K'))
                    refine ⟨k + 1, [], ⟨by omega, fun j hj => ?_⟩, by omega, ?_⟩
                    · by_cases hjk : j = k
                      · rw [hjk, ← hck]; omega
                      · exact hall j (by omega)
                    · skip
                      refine ⟨?_, ?_, rfl, rfl, by exact Nat.le_of_ble_eq_true rfl⟩
                      · repeat (first | exact trivial | (refine And.intro (covS_syn (by rfl) rfl (by first | exact trivial | exact Nat.le_of_ble_eq_true rfl)) ?_))
                      · repeat (first | exact trivial | refine And.intro (covE_id (Nat.le_of_ble_eq_true rfl) (by exact wf_ints _ _) rfl (by rfl)) ?_)
              · have hkl : k = cs.length := by omega
                have ht : okC W H cs = true := okC_iff.2 ⟨by omega, by omega, h5', fun x hx => by
                  obtain ⟨j, hj, rfl⟩ := List.mem_iff_getElem.1 hx
                  have := hall j (by omega)
                  rwa [List.getD_eq_getElem?_getD, List.getElem?_eq_getElem hj] at this⟩
                repeat ((conv => whnf); first | refine br_f (by omega) ?_ | refine fun (K' : K3) hK' => ?_ | (refine hK' _ _ _ ?_; clear hK' K'))
                intro ρ; rw [ht]; rfl
/-- Better, as the reference has it. -/
def betW (a b : Way) : Bool := if a.2 = 0 ∨ b.2 = 0 then decide (a.2 > 0) else lessW a b
theorem rindex_spec (W H : Int) (n : Nat) (x y : Int) (hW : 0 < W ∧ W ≤ 10) (hx : -1000 ≤ x ∧ x ≤ 1000) (hy : -1000 ≤ y ∧ y ≤ 1000) : Spec Try.prog 69 [chR W H n, V.agg [C.i x, C.i y]] [] 1 (Is (V.i (y * W + x))) := by
  have h1 : y * W ≤ 1000 * 10 := by
    by_cases h : 0 ≤ y
    · exact Int.mul_le_mul (by omega) (by omega) (by omega) (by omega)
    · have := Int.mul_nonpos_of_nonpos_of_nonneg (show y ≤ 0 by omega) (show 0 ≤ W by omega); omega
  have h2 : -10000 ≤ y * W := by
    by_cases h : 0 ≤ y
    · have := Int.mul_nonneg h (show 0 ≤ W by omega); omega
    · have := Int.mul_le_mul (show -y ≤ 1000 by omega) hW.2 (by omega) (by omega)
      rw [Int.neg_mul] at this; omega
  refine Spec.of tok Try.func69 rfl rfl rfl fun n0 cx => vc_ok tok ?_
  repeat ((conv => whnf); first | (refine And.intro (by first | omega | exact Nat.le_of_ble_eq_true rfl | (dsimp only [inK]; omega)) ?_) | refine Exists.intro _ (And.intro rfl ?_) | refine fun (K' : K3) hK' => ?_ | (refine hK' _ _ _ ?_; clear hK' K'))
  intro ρ; rfl
def onB (W H x y : Int) : Bool := decide (x ≥ 0) && (decide (x < W) && (decide (y ≥ 0) && decide (y < H)))
theorem on_spec (W H : Int) (n : Nat) (x y : Int) : Spec Try.prog 84 [chR W H n, V.agg [C.i x, C.i y]] [] 1 (Is (V.c (.bool (onB W H x y)))) := by
  refine Spec.of tok Try.func84 rfl rfl rfl fun n0 cx => vc_ok tok ?_
  by_cases h1 : x ≥ 0
  · by_cases h2 : x < W
    · by_cases h3 : y ≥ 0
      · repeat ((conv => whnf); first | (refine And.intro (by first | omega | exact Nat.le_of_ble_eq_true rfl) ?_) | refine Exists.intro _ (And.intro rfl ?_) | refine br_t (by omega) ?_ | refine fun (K' : K3) hK' => ?_ | (refine hK' _ _ _ ?_; clear hK' K'))
        intro ρ; show Value.bool _ = Value.bool _; simp [onB, h1, h2, h3]
      · repeat ((conv => whnf); first | (refine And.intro (by first | omega | exact Nat.le_of_ble_eq_true rfl) ?_) | refine Exists.intro _ (And.intro rfl ?_) | refine br_t (by omega) ?_ | refine br_f (by omega) ?_ | refine fun (K' : K3) hK' => ?_ | (refine hK' _ _ _ ?_; clear hK' K'))
        intro ρ; show Value.bool _ = Value.bool _; simp only [onB, dd_f h3]; simp
    · repeat ((conv => whnf); first | (refine And.intro (by first | omega | exact Nat.le_of_ble_eq_true rfl) ?_) | refine Exists.intro _ (And.intro rfl ?_) | refine br_t (by omega) ?_ | refine br_f (by omega) ?_ | refine fun (K' : K3) hK' => ?_ | (refine hK' _ _ _ ?_; clear hK' K'))
      intro ρ; show Value.bool _ = Value.bool _; simp only [onB, dd_f h2]; simp
  · repeat ((conv => whnf); first | (refine And.intro (by first | omega | exact Nat.le_of_ble_eq_true rfl) ?_) | refine Exists.intro _ (And.intro rfl ?_) | refine br_f (by omega) ?_ | refine fun (K' : K3) hK' => ?_ | (refine hK' _ _ _ ?_; clear hK' K'))
    intro ρ; show Value.bool _ = Value.bool _; simp only [onB, dd_f h1]; simp
theorem apart_spec (x y u v : Int) (hx : -1000 ≤ x ∧ x ≤ 1000) (hy : -1000 ≤ y ∧ y ≤ 1000) (hu : -1000 ≤ u ∧ u ≤ 1000) (hv : -1000 ≤ v ∧ v ≤ 1000) : Spec Try.prog 112 [V.agg [C.i x, C.i y], V.agg [C.i u, C.i v]] [] 0 (Is (V.tup [A.c (C.i (mx (x - u) (u - x))), A.c (C.i (mx (y - v) (v - y)))])) := by
  refine Spec.of tok Try.func112 rfl rfl rfl fun n0 cx => vc_ok tok ?_
  repeat ((conv => whnf); first | (refine And.intro (by first | omega | exact Nat.le_of_ble_eq_true rfl | (dsimp only [inK]; omega)) ?_) | refine Exists.intro _ (And.intro rfl ?_) | refine fun (K' : K3) hK' => ?_ | (refine hK' _ _ _ ?_; clear hK' K') | refine draw_auto tok mixed (by kernel_rfl) ?_)
  intro ρ; rfl
def fourB (x y u v : Int) : Bool := decide (mx (x - u) (u - x) + mx (y - v) (v - y) = 1)
def eightB (x y u v : Int) : Bool := decide (mx (mx (x - u) (u - x)) (mx (y - v) (v - y)) = 1)
end Go.Proofs.Ytbhpnhcdjmcaoaa

/- Boom: Cheapest. -/
namespace Go.Proofs.Ytbhpnhcdjmcaoaa
open Go.RowKit
set_option linter.unusedVariables false
set_option linter.unusedSimpArgs false
section
variable {P : Program} {n0 nx nac : Nat} {f : FuncId} {vs vs' : List V} {Lc L : List E} {R : Rn} {K : V → List E → Nat → Prop}
theorem CallK.barN {o : Option (List Int × Way)} (ho : o = none) (spec : Spec P f vs Lc nac (fun v L' _ => barR o v L')) (hok : callB P f = true)
    (hv : renVs R vs = some vs') (hvw : ∀ v ∈ vs, v.wf nac) (hL : roL R nac L Lc) (hLc : injB [] Lc = true)
    (hK : K (V.tup [A.c .nil, A.agg [C.i 0, C.i 0], A.c .ff]) [] nx) : CallK P n0 f vs' L nx K := by
  refine CallK.mk' hok spec hv hvw hL hLc ?_
  intro v L' nx' hw hq
  subst ho
  have hq : v = V.tup [A.c .nil, A.agg [C.i 0, C.i 0], A.c .ff] := hq
  subst hq
  exact ⟨V.tup [A.c .nil, A.agg [C.i 0, C.i 0], A.c .ff], [], nx, [], ⟨Nat.le_refl _, rfl, rfl, trivial, rfl, rfl⟩, hK⟩
theorem CallK.barS {o : Option (List Int × Way)} {l : List Int} {w : Way} (ho : o = some (l, w)) (spec : Spec P f vs Lc nac (fun v L' _ => barR o v L')) (hok : callB P f = true)
    (hv : renVs R vs = some vs') (hvw : ∀ v ∈ vs, v.wf nac) (hL : roL R nac L Lc) (hLc : injB [] Lc = true)
    (hK : K (V.tup [A.c (.sl nx l.length), A.agg [C.i w.1, C.i w.2], A.c .tt]) [⟨nx, .vec 3 1, l.map C.i⟩] (nx + 1)) : CallK P n0 f vs' L nx K := by
  refine CallK.mk' hok spec hv hvw hL hLc ?_
  intro v L' nx' hw hq
  subst ho
  obtain ⟨lab, rfl, hf⟩ := hq
  refine ⟨V.tup [A.c (.sl nx l.length), A.agg [C.i w.1, C.i w.2], A.c .tt], [⟨nx, .vec 3 1, l.map C.i⟩], nx + 1, [(nx, some lab)], ⟨Nat.le_succ _, ?_, ?_, ⟨covE_some (renL_one _ _) (Nat.lt_succ_self nx) (wf_ints _ _) hf (ren_ints _ _), trivial⟩, rfl, ?_⟩, hK⟩
  · simp [V.ren, A.ren, C.ren, renL_one, seqO, C.i]
  · simp [V.chk, A.chk, C.chk, inLab_one, C.i]
  · simp only [List.all_cons, List.all_nil, Bool.and_true, inLab_one, Kd.isRo, Bool.not_false, Bool.true_and]
    exact chk_ints _ _
end
set_option maxHeartbeats 4000000 in
theorem cheapest_spec (W H : Int) (cs : List Int) (hl : cs.length ≤ 300) :
    Spec Try.prog 18 [chR W H cs.length] [⟨0, .ro 0, cs.map C.i⟩] 2 (Is (if okC W H cs then (match barO W H cs with | none => V.tup [A.c (C.i 0), A.c (C.i 5)] | some (_, w) => V.tup [A.c (C.i w.1), A.c (C.i 0)]) else V.tup [A.c (C.i 0), A.c (C.i 30)])) := by
  refine Spec.of tok Try.func18 rfl rfl rfl fun n0 cx => vc_ok tok ?_
  cases hv : okC W H cs with
  | false =>
    repeat ((conv => whnf); first | (refine And.intro (by first | omega | exact Nat.le_of_ble_eq_true rfl) ?_) | refine Exists.intro _ (And.intro rfl ?_) | refine br_t (by omega) ?_ | refine fun (K' : K3) hK' => ?_ | (refine hK' _ _ _ ?_; clear hK' K') | refine CallK.newNo (a := 0) (bs := []) (R := [(1, none)]) 30 hl (by simp) (.inl ⟨hv, rfl⟩) rfl rfl (roNil rfl) ?_ | refine CallK.m ?_)
    intro ρ; rfl
  | true =>
    have hok := okC_iff.1 hv
    have hba := barrier_spec W H cs hok
    cases hbo : barO W H cs with
    | none =>
      repeat ((conv => whnf); first | (refine And.intro (by first | omega | exact Nat.le_of_ble_eq_true rfl) ?_) | refine Exists.intro _ (And.intro rfl ?_) | refine br_f (by omega) ?_ | refine fun (K' : K3) hK' => ?_ | (refine hK' _ _ _ ?_; clear hK' K') | refine CallK.newOk (a := 0) (bs := []) (R := [(1, none)]) hl (by simp) hv (okB_nil _ _ _) rfl rfl (by omega) (roNil rfl) ?_ | refine CallK.barN (R := [(1, some 3)]) hbo hba (by kernel_rfl) rfl (by simp [V.wf, A.wf, C.wf]) ⟨roE_ints (l := 0) rfl (by omega) rfl (.inl rfl), trivial⟩ rfl ?_ | refine CallK.m ?_)
      intro ρ; rfl
    | some q =>
      obtain ⟨l, w⟩ := q
      repeat ((conv => whnf); first | (refine And.intro (by first | omega | exact Nat.le_of_ble_eq_true rfl) ?_) | refine Exists.intro _ (And.intro rfl ?_) | refine br_f (by omega) ?_ | refine fun (K' : K3) hK' => ?_ | (refine hK' _ _ _ ?_; clear hK' K') | refine CallK.newOk (a := 0) (bs := []) (R := [(1, none)]) hl (by simp) hv (okB_nil _ _ _) rfl rfl (by omega) (roNil rfl) ?_ | refine CallK.barS (R := [(1, some 3)]) hbo hba (by kernel_rfl) rfl (by simp [V.wf, A.wf, C.wf]) ⟨roE_ints (l := 0) rfl (by omega) rfl (.inl rfl), trivial⟩ rfl ?_ | refine CallK.m ?_)
      intro ρ; rfl
end Go.Proofs.Ytbhpnhcdjmcaoaa

/- Boom: how charts, cells and numbers that came in read. -/
namespace Go.Proofs.Ytbhpnhcdjmcaoaa
open Go.RowKit
set_option linter.unusedVariables false
set_option linter.unusedSimpArgs false
open Go.ChangeShapes Go.WideShapes Go.ChangeAt Go.RowKit Go.Deep Go.Joins
theorem u8_bd {n : Int} (h : (Lit.int .u8 n).wf = true) : 0 ≤ n ∧ n ≤ 255 := by
  simp [Lit.wf, IntKind.min, IntKind.max, IntKind.signed, IntKind.bits] at h; omega
theorem ro_at {w : World} {a : Addr} {cs : List Value} (h : ∀ i, i < cs.length → w.cell? (a.add i) = some (cs.getD i undef)) : RoAt w (some a) cs := by
  intro hne
  have hp : 0 < cs.length := List.length_pos_iff.2 hne
  obtain ⟨b, off, spot⟩ := a
  have hspot : spot = none := by simpa [Addr.add] using World.cell?_spot (h 0 hp)
  subst hspot
  refine ⟨b, off, rfl, ?_, fun j hj => by rw [← Go.WideShapes.add_plain]; exact h j hj⟩
  have := World.block_lt_of_cell? _ _ (h 0 hp)
  simpa [Addr.add] using this
theorem add_add (a : Addr) (i j : Nat) : (a.add i).add j = a.add (i + j) := by
  unfold Addr.add
  by_cases hi : i = 0
  · subst hi; simp
  · by_cases hj : j = 0
    · subst hj; simp [hi]
    · simp [hi, hj, Nat.add_assoc]
def cellV (l : List Cell) : List Value := l.flatMap fun x => [.int .i64 x.1, .int .i64 x.2]
theorem cellV_len (l : List Cell) : (cellV l).length = 2 * l.length := by
  induction l with
  | nil => rfl
  | cons x l ih => simp only [cellV, List.flatMap_cons, List.length_append] at *; simp [ih]; omega
theorem cellV_get : ∀ {l : List Cell} {k : Nat}, k < l.length → (cellV l).getD (k * 2) undef = .int .i64 (l.getD k (0, 0)).1 ∧ (cellV l).getD (k * 2 + 1) undef = .int .i64 (l.getD k (0, 0)).2
  | x :: l, 0, _ => ⟨rfl, rfl⟩
  | x :: l, k + 1, h => by
    have := cellV_get (l := l) (k := k) (by simpa using h)
    simp only [cellV, List.flatMap_cons] at *
    rw [show (k + 1) * 2 + 1 = k * 2 + 1 + 1 + 1 by omega, show (k + 1) * 2 = k * 2 + 1 + 1 by omega]
    simpa using this
theorem den_cells (ρ : Env) (l : List Cell) : (cellC l).map (C.den ρ) = cellV l := by
  induction l with
  | nil => rfl
  | cons x l ih => simp only [cellC, cellV, List.flatMap_cons, List.map_append] at *; rw [ih]; rfl
def CellsAt (W : World) (ao : Option Addr) (c : Nat) (l : List Cell) : Prop := RoAt W ao (cellV l) ∧ l.length ≤ c ∧ l.length < 9223372036854775808
def IntsAt (W : World) (ao : Option Addr) (l : List Int) : Prop := RoAt W ao (l.map (Value.int .i64)) ∧ l.length < 9223372036854775808
section
variable {H : Type} {enc : TypeId × Value → H} {W : World} {sp : Nat → Bool}
set_option maxRecDepth 10000 in
theorem open_cells30 {n : Nat} {v : Value} {x : DataW H × List MemPlace} (h : DataW.trod enc Try.prog W 0 sp true n 30 [v] = some x) :
    ∃ (ao : Option Addr) (c : Nat) (l : List Cell), v = .slice ao l.length c ∧ CellsAt W ao c l := by
  rcases open_slice Try.underlying30 h with ⟨hcs, _⟩ | ⟨a, len, cap, m, f, D, Pl, hcs, _, hl, hmax, hm, _, hx⟩
  · cases hcs
    exact ⟨none, 0, [], rfl, fun hne => absurd rfl hne, by simp, by simp⟩
  · cases hcs
    have hc2 : Try.prog.cellsOf 57 = 2 := by kernel_rfl
    have hc1 : Try.prog.cellsOf 3 = 1 := by kernel_rfl
    have hlm : len ≤ m := by rw [hm]; split <;> omega
    have hlen : len < 9223372036854775808 := by unfold maxLen at hmax; omega
    rw [hc2] at hx
    obtain ⟨b, hb⟩ := choose_lt (α := Cell) (n := len) (p := fun i y => W.cell? (a.add (i * 2)) = some (.int .i64 y.1) ∧ W.cell? (a.add (i * 2 + 1)) = some (.int .i64 y.2)) (fun i hi => by
      obtain ⟨cs', h1, h2⟩ := hx i (by omega)
      obtain ⟨_, hlen, hcell⟩ := World.cells?_some h1
      obtain ⟨y0, y1, k, _, hl2, h3, h4⟩ := trod_struct2 Try.underlying57 h2
      match cs', hlen with
      | [c0, c1], _ =>
        simp [hc1] at h3 h4
        obtain ⟨z0, e0, _, _⟩ := DataW.trod_int Try.underlying3 h3
        obtain ⟨z1, e1, _, _⟩ := DataW.trod_int Try.underlying3 h4
        cases e0
        cases e1
        have g0 := hcell 0 (by omega)
        have g1 := hcell 1 (by omega)
        rw [add_add] at g0 g1
        exact ⟨(z0, z1), by simpa using g0, by simpa using g1⟩)
    refine ⟨some a, cap, (List.range len).map b, by simp, ro_at (fun i hi => ?_), by simpa using hl, by simpa using hlen⟩
    rw [cellV_len] at hi
    simp only [List.length_map, List.length_range] at hi
    have hq : i / 2 < len := by omega
    obtain ⟨g0, g1⟩ := hb (i / 2) hq
    obtain ⟨k0, k1⟩ := cellV_get (l := (List.range len).map b) (k := i / 2) (by simpa using hq)
    have hgd : ((List.range len).map b).getD (i / 2) (0, 0) = b (i / 2) := by simp [List.getD_eq_getElem?_getD, hq]
    rw [hgd] at k0 k1
    rcases Nat.mod_two_eq_zero_or_one i with hi2 | hi2
    · rw [show i / 2 * 2 = i by omega] at g0 k0
      rw [g0, k0]
    · rw [show i / 2 * 2 + 1 = i by omega] at g1 k1
      rw [g1, k1]
theorem open_ints22 {n : Nat} {v : Value} {x : DataW H × List MemPlace} (h : DataW.trod enc Try.prog W 0 sp true n 22 [v] = some x) :
    ∃ (ao : Option Addr) (c : Nat) (l : List Int), v = .slice ao l.length c ∧ IntsAt W ao l := by
  rcases open_slice1 Try.underlying22 (by kernel_rfl) h with ⟨hcs, _⟩ | ⟨a, len, cap, m, f, V, D, Pl, hcs, _, hl, hmax, hm, _, hx⟩
  · cases hcs
    exact ⟨none, 0, [], rfl, fun hne => absurd rfl hne, by simp⟩
  · cases hcs
    have hlm : len ≤ m := by rw [hm]; split <;> omega
    have hlen : len < 9223372036854775808 := by unfold maxLen at hmax; omega
    obtain ⟨b, hb⟩ := choose_lt (α := Int) (n := len) (p := fun i b => V i = .int .i64 b) (fun i hi => by
      obtain ⟨b, hb, _, hw⟩ := DataW.trod_int Try.underlying3 (hx i (by omega)).2
      exact ⟨b, by simpa using hb⟩)
    refine ⟨some a, cap, (List.range len).map b, by simp, ro_at (fun i hi => ?_), by simpa using hlen⟩
    have hi' : i < len := by simpa using hi
    rw [(hx i (by omega)).1, hb i hi']
    simp [List.getD_eq_getElem?_getD, hi']
set_option maxRecDepth 100000 in
theorem open_chart {v : Value} {d : DataW H} {p : List MemPlace} {r : Reach} {b0 : Nat} (hv : Value.okWide Try.prog W r b0 24 v) (h : DataW.Trod enc Try.prog W 0 sp true 24 v d p) :
    ∃ (cw ch : Int) (cs : List Int) (ao : Option Addr) (c : Nat), v = .agg #[.int .i64 cw, .int .i64 ch, .slice ao cs.length c] ∧ IntsAt W ao cs := by
  obtain ⟨v0, v1, v2, y0, y1, y2, n, rfl, _, _, h0, h1, h2⟩ := open_agg3 Try.underlying24 (by kernel_rfl) (by kernel_rfl) hv h
  obtain ⟨k, e0, _, f0⟩ := DataW.trod_int Try.underlying3 h0
  obtain ⟨a, e1, _, f2⟩ := DataW.trod_int Try.underlying3 h1
  obtain ⟨ao, c, l, rfl, hl⟩ := open_ints22 h2
  cases e0
  cases e1
  exact ⟨k, a, l, ao, c, rfl, hl⟩
set_option maxRecDepth 100000 in
theorem open_cellsv {v : Value} {d : DataW H} {p : List MemPlace} {r : Reach} {b0 : Nat} (hv : Value.okWide Try.prog W r b0 30 v) (h : DataW.Trod enc Try.prog W 0 sp true 30 v d p) :
    ∃ (ao : Option Addr) (c : Nat) (l : List Cell), v = .slice ao l.length c ∧ CellsAt W ao c l := by
  obtain ⟨fuel, hf⟩ := h
  obtain ⟨ao, n, cp, rfl⟩ := okWide_slice Try.underlying30 hv
  simp only [Value.cells] at hf
  exact open_cells30 hf
end
/-- Memory that comes in, with the room behind it. -/
theorem Hp.rosz {ρ : Env} {w : World} {L : List E} {nx : Nat} (h : ∀ e ∈ L, (∃ z, e.kd = .ro z ∧ (z = 0 ∨ e.cs.length ≤ (ρ e.lab).2 * z)) ∧ e.lab < nx ∧ (∀ c ∈ e.cs, c.wf nx) ∧ RoAt w (ρ e.lab).1 (e.cs.map (C.den ρ))) (hd : injB [] L = true) : Hp w.heap.size ρ w L nx := by
  refine ⟨Nat.le_refl _, fun e he => ?_, fun e he => ⟨(h e he).2.1, (h e he).2.2.1⟩, fun e he e' he' hl => injB_spec hd e he e' he' (.inl hl), fun e he e' he' hro => ?_⟩
  · obtain ⟨⟨z, h1, h2⟩, h3, h4, h5⟩ := h e he
    obtain ⟨lab, kd, cs⟩ := e
    simp only at h1 h2
    subst h1
    exact ⟨h5, h2⟩
  · obtain ⟨⟨z, h1, _⟩, _⟩ := h e he
    rw [h1] at hro; cases hro
/-- Where what came in lies: label k at place k. -/
def envL (l : List (Option Addr × Nat)) : Env := fun k => l.getD k (none, 0)
theorem ent_ints {W : World} {ρ : Env} {l : List Int} {k nx : Nat} {ao : Option Addr} (h : IntsAt W ao l) (hk : k < nx) (hr : (ρ k).1 = ao) : (∃ z, (Kd.ro 0) = .ro z ∧ (z = 0 ∨ (l.map C.i).length ≤ (ρ k).2 * z)) ∧ k < nx ∧ (∀ c ∈ l.map C.i, c.wf nx) ∧ RoAt W (ρ k).1 ((l.map C.i).map (C.den ρ)) := by
  refine ⟨⟨0, rfl, .inl rfl⟩, hk, wf_ints _ _, ?_⟩
  rw [List.map_map, hr]; exact h.1
theorem ent_cells {W : World} {ρ : Env} {l : List Cell} {k nx c : Nat} {ao : Option Addr} (h : CellsAt W ao c l) (hk : k < nx) (hr : ρ k = (ao, c)) : (∃ z, (Kd.ro 2) = .ro z ∧ (z = 0 ∨ (cellC l).length ≤ (ρ k).2 * z)) ∧ k < nx ∧ (∀ c ∈ cellC l, c.wf nx) ∧ RoAt W (ρ k).1 ((cellC l).map (C.den ρ)) := by
  refine ⟨⟨2, rfl, .inr ?_⟩, hk, wf_cells _ _, ?_⟩
  · rw [hr, cellC_len]; have := h.2.1; simp only; omega
  · rw [den_cells, hr]; exact h.1
theorem hp_2 {W : World} {cs : List Int} {l : List Cell} {ao bo : Option Addr} {c d : Nat} (h : IntsAt W ao cs) (h2 : CellsAt W bo d l) : Hp W.heap.size (envL [(ao, c), (bo, d)]) W [⟨0, .ro 0, cs.map C.i⟩, ⟨1, .ro 2, cellC l⟩] 2 := by
  refine Hp.rosz (fun e he => ?_) rfl
  simp only [List.mem_cons, List.not_mem_nil, or_false] at he
  rcases he with rfl | rfl
  · exact ent_ints h (by show 0 < 2; omega) rfl
  · exact ent_cells h2 (by show 1 < 2; omega) rfl
theorem isTrue_any {f : FuncId} {vs : List V} {L : List E} {na : Nat} {ρ : Env} {w : World} {args : Array Value} (spec : Spec Try.prog f vs L na (Is (V.c (.bool true)))) (hp : Hp w.heap.size ρ w L na) (hv : ∀ v ∈ vs, v.wf na) (ha : (vs.map (V.den ρ)).toArray = args) :
    Calls Try.prog f args w fun e w' => e = .returned (.bool true) ∧ Below w.heap.size w w' := by
  subst ha
  refine (spec ρ w hp hv).mono ?_
  rintro e w' ⟨v, ρ', L', nx', rfl, h1, h2, h3, h4, h5, h6⟩
  exact ⟨by rw [h6 ρ']; rfl, h4⟩
end Go.Proofs.Ytbhpnhcdjmcaoaa

/- Boom: what the laws share. -/
namespace Go.Proofs.Ytbhpnhcdjmcaoaa
open Go.RowKit
set_option linter.unusedVariables false
set_option linter.unusedSimpArgs false
theorem wide_spec (W H : Int) (n : Nat) (hn : n < 9223372036854775808) : Spec Try.prog 16 [chR W H n] [] 1 (Is (V.c (.bool (decide ((n : Int) > 300))))) := by
  refine Spec.of tok Try.func16 rfl rfl rfl fun n0 cx => vc_ok tok ?_
  repeat ((conv => whnf); first | (refine And.intro (by first | omega | exact Nat.le_of_ble_eq_true rfl) ?_) | refine Exists.intro _ (And.intro rfl ?_) | refine fun (K' : K3) hK' => ?_ | (refine hK' _ _ _ ?_; clear hK' K'))
  intro ρ; rfl
theorem long_spec (m : Nat) (hm : m < 9223372036854775808) : Spec Try.prog 23 [V.c (.sl 0 m)] [] 1 (Is (V.c (.bool (decide ((m : Int) > 250))))) := by
  refine Spec.of tok Try.func23 rfl rfl rfl fun n0 cx => vc_ok tok ?_
  repeat ((conv => whnf); first | refine fun (K' : K3) hK' => ?_ | (refine hK' _ _ _ ?_; clear hK' K'))
  intro ρ; rfl
theorem bar22 : barO 2 2 [5, 0, 0, 3] = some ([0, 3], (8, 2)) := by decide +kernel
theorem awake_spec : Spec Try.prog 17 [] [] 0 (Is (V.c (.bool true))) := by
  have hc := cheapest_spec 2 2 [5, 0, 0, 3] (by simp)
  have ho : okC 2 2 [5, 0, 0, 3] = true := by decide +kernel
  rw [ho, bar22] at hc
  have hc : Spec Try.prog 18 [chR 2 2 4] [⟨0, .ro 0, [5, 0, 0, 3].map C.i⟩] 2 (Is (V.tup [A.c (C.i 8), A.c (C.i 0)])) := hc
  refine Spec.of tok Try.func17 rfl rfl rfl fun n0 cx => vc_ok tok ?_
  repeat ((conv => whnf); first | (refine And.intro (by first | omega | (dsimp only [inK]; omega)) ?_) | refine br_t (by omega) ?_ | refine fun (K' : K3) hK' => ?_ | (refine hK' _ _ _ ?_; clear hK' K') | refine CallK.val (R := [(0, some 0)]) hc (by kernel_rfl) rfl (by simp [V.wf, A.wf, C.wf]) ⟨roE_ints (l := 0) (k := .vec 3 1) rfl (by omega) rfl (.inl rfl), trivial⟩ rfl rfl (by simp [V.wf, A.wf, C.wf]) ?_ | refine CallK.m ?_)
  intro ρ; rfl
section
variable {n0 nx : Nat} {L : List E} {K : V → List E → Nat → Prop}
theorem awake_k (hK : K (V.c (.bool true)) [] nx) : CallK Try.prog n0 17 [] L nx K :=
  CallK.val (R := []) awake_spec (by kernel_rfl) rfl (by simp) trivial rfl rfl trivial hK
theorem wide_k {W H : Int} {n a : Nat} (hn : n < 9223372036854775808) (hK : K (V.c (.bool (decide ((n : Int) > 300)))) [] nx) : CallK Try.prog n0 16 [V.agg [C.i W, C.i H, .sl a n]] L nx K :=
  CallK.val (R := [(0, some a)]) (wide_spec W H n hn) (by kernel_rfl) rfl (by simp [V.wf, A.wf, C.wf]) trivial rfl rfl trivial hK
theorem long_k {m a : Nat} (hm : m < 9223372036854775808) (hK : K (V.c (.bool (decide ((m : Int) > 250)))) [] nx) : CallK Try.prog n0 23 [V.c (.sl a m)] L nx K :=
  CallK.val (R := [(0, some a)]) (long_spec m hm) (by kernel_rfl) rfl (by simp [V.wf, A.wf, C.wf]) trivial rfl rfl trivial hK
end
end Go.Proofs.Ytbhpnhcdjmcaoaa

/- Boom, the reference: the neighbours of a cell. -/
namespace Go.Proofs.Ytbhpnhcdjmcaoaa
open Go.RowKit
set_option linter.unusedVariables false
set_option linter.unusedSimpArgs false
theorem CallK.den {P : Program} {n0 : Nat} {f : FuncId} {vs vs' : List V} {L : List E} {nx : Nat} {K : V → List E → Nat → Prop} (hd : ∀ ρ, vs.map (V.den ρ) = vs'.map (V.den ρ)) (hw : ∀ v ∈ vs, v.wf nx) (h : CallK P n0 f vs L nx K) : CallK P n0 f vs' L nx K :=
  ⟨h.ok, fun ρ w hp _ => by rw [← hd]; exact h.run ρ w hp hw⟩
theorem onB_t {W H x y : Int} (h : onB W H x y = true) : (0 ≤ x ∧ x < W) ∧ 0 ≤ y ∧ y < H := by
  simp only [onB, Bool.and_eq_true, decide_eq_true_eq] at h; omega
theorem onB_f {W H x y : Int} (h : onB W H x y = false) : ¬ ((0 ≤ x ∧ x < W) ∧ 0 ≤ y ∧ y < H) := fun hh => by
  rw [onB, dd_t (show x ≥ 0 by omega), dd_t (show x < W by omega), dd_t (show y ≥ 0 by omega), dd_t (show y < H by omega)] at h; cases h
theorem idxI_on {W H x y : Int} (h : onB W H x y = true) : idxI W H x y = y * W + x ∧ idxI W H x y ≥ 0 := by
  have := onB_t h
  unfold idxI
  rw [if_pos (by omega)]
  have : 0 ≤ y * W := Int.mul_nonneg (by omega) (by omega)
  exact ⟨rfl, by omega⟩
theorem idxI_off {W H x y : Int} (h : onB W H x y = false) : ¬ idxI W H x y ≥ 0 := by
  have := onB_f h
  unfold idxI
  rw [if_neg (by omega)]; omega
def intsR (l : List Int) (v : V) (L' : List E) : Prop := ∃ lab, v = V.c (.sl lab l.length) ∧ find L' lab = some ⟨lab, .vec 3 1, l.map C.i⟩
end Go.Proofs.Ytbhpnhcdjmcaoaa

/- Boom, plain: the reference's ways. -/
namespace Go.Proofs.Ytbhpnhcdjmcaoaa
open Go.RowKit
set_option linter.unusedVariables false
set_option linter.unusedSimpArgs false
def nbR (W H : Int) (cs : List Int) (i : Int) : List Int := if inR cs i && hldI cs i then nearL W H true i else []
def encW (d : Int → Option Way) (i : Nat) : Way := (d i).getD (0, 0)
def encL (d : Int → Option Way) (n : Nat) : List Way := (List.range n).map (encW d)
/-- The last row, the first k of it. -/
def d0R (W H : Int) (cs : List Int) (k : Nat) (i : Int) : Option Way := if ((H - 1) * W ≤ i ∧ i < (H - 1) * W + k) ∧ hldI cs i = true then some (cstI cs i, 1) else none
def itR (W H : Int) (cs : List Int) (t : Nat) : (Int → Option Way) × Bool := iterG (cstI cs) (nbR W H cs) cs.length (d0B W H cs) t
def wayR (W H : Int) (cs : List Int) : Int → Option Way := (itR W H cs (cs.length + 1)).1
/-- One neighbour looked at, as the reference does it. -/
def stepR (cs : List Int) (i : Int) (st : (Int → Option Way) × Bool) (k : Int) : (Int → Option Way) × Bool := if hldI cs i then relG (cstI cs) i st k else st
theorem near_in {W H : Int} {e : Bool} {i k : Int} (hW : 0 < W) (h : k ∈ nearL W H e i) : 0 ≤ k ∧ k < W * H := by
  unfold nearL at h
  obtain ⟨j, _, hj⟩ := List.mem_filterMap.1 h
  exact cand_lt hW hj
end Go.Proofs.Ytbhpnhcdjmcaoaa

/- Boom, plain: the greatest heights. -/
namespace Go.Proofs.Ytbhpnhcdjmcaoaa
open Go.RowKit
set_option linter.unusedVariables false
set_option linter.unusedSimpArgs false
/-- Heights that could prove: none of a neighbour is greater than that of the cell, and what the neighbour costs. -/
def Feas (W H : Int) (cs : List Int) (g : Int → Int) : Prop := ∀ a b : Int, 0 ≤ a → a < cs.length → hldI cs a = true → hldI cs b = true → b ∈ nearL W H true a → g b ≤ g a + cstI cs b
def h0I (W : Int) (cs : List Int) (i : Int) : Int := if hldI cs i = false then 0 else if i / W = 0 then cstI cs i else 1000000
def hL (hs : List Int) (i : Int) : Int := hs.getD i.toNat 0
/-- The greatest. -/
structure Great (W H : Int) (cs hs : List Int) : Prop where
  len : hs.length = cs.length
  le : ∀ i : Int, 0 ≤ i → i < cs.length → hL hs i ≤ h0I W cs i
  feas : Feas W H cs (hL hs)
  most : ∀ g : Int → Int, Feas W H cs g → (∀ i : Int, 0 ≤ i → i < cs.length → g i ≤ h0I W cs i) → ∀ i : Int, 0 ≤ i → i < cs.length → g i ≤ hL hs i
theorem Great.unique {W H : Int} {cs hs hs' : List Int} (h : Great W H cs hs) (h' : Great W H cs hs') : hs = hs' := by
  apply List.ext_getElem
  · rw [h.len, h'.len]
  · intro i h1 h2
    have hi : (i : Int) < cs.length := by have := h.len; omega
    have a := h.most _ h'.feas h'.le i (by omega) hi
    have b := h'.most _ h.feas h.le i (by omega) hi
    unfold hL at a b
    rw [Int.toNat_natCast, List.getD_eq_getElem?_getD, List.getD_eq_getElem?_getD, List.getElem?_eq_getElem h1, List.getElem?_eq_getElem h2] at a b
    simp only [Option.getD_some] at a b
    omega
open Classical in
noncomputable def hts (W H : Int) (cs : List Int) : List Int := if h : ∃ hs, Great W H cs hs then Classical.choose h else []
theorem Great.hts {W H : Int} {cs hs : List Int} (h : Great W H cs hs) : Go.Proofs.Ytbhpnhcdjmcaoaa.hts W H cs = hs := by
  unfold Go.Proofs.Ytbhpnhcdjmcaoaa.hts
  rw [dif_pos ⟨hs, h⟩]
  exact (Classical.choose_spec (⟨hs, h⟩ : ∃ hs, Great W H cs hs)).unique h
/-- One edge looked at. -/
def relH (cs : List Int) (st : List Int × Bool) (a b : Int) : List Int × Bool :=
  if (hldI cs a && (hldI cs b && decide (hL st.1 b > hL st.1 a + cstI cs b))) = true then (st.1.set b.toNat (hL st.1 a + cstI cs b), true) else st
/-- What a state is on the way. -/
structure HSt (W H : Int) (cs hs : List Int) : Prop where
  len : hs.length = cs.length
  le : ∀ i : Int, 0 ≤ i → i < cs.length → hL hs i ≤ h0I W cs i
  pos : ∀ i : Int, 0 ≤ i → i < cs.length → 0 ≤ hL hs i
  most : ∀ g : Int → Int, Feas W H cs g → (∀ i : Int, 0 ≤ i → i < cs.length → g i ≤ h0I W cs i) → ∀ i : Int, 0 ≤ i → i < cs.length → g i ≤ hL hs i
def sumH (hs : List Int) : Int := hs.sum
theorem hL_set {hs : List Int} {b j x : Int} (hb : 0 ≤ b) (hj : 0 ≤ j) (hbl : b < hs.length) : hL (hs.set b.toNat x) j = if j = b then x else hL hs j := by
  unfold hL
  rw [List.getD_eq_getElem?_getD, List.getD_eq_getElem?_getD, List.getElem?_set]
  by_cases h : j = b
  · subst h; rw [if_pos rfl, if_pos (by omega), if_pos rfl]; rfl
  · rw [if_neg (by omega), if_neg h]
theorem sum_pos : ∀ {hs : List Int}, (∀ x ∈ hs, 0 ≤ x) → 0 ≤ hs.sum
  | [], _ => by simp
  | a :: r, h => by
    have := sum_pos (hs := r) (fun x hx => h x (by simp [hx]))
    have := h a (by simp)
    rw [List.sum_cons]; omega
/-- Steps that go on: nothing is lost, and what has turned is said. -/
structure HGo (W H : Int) (cs : List Int) (st st' : List Int × Bool) : Prop where
  ok : HSt W H cs st.1 → HSt W H cs st'.1
  same : st'.2 = false → st' = st
  keep : st.2 = true → st'.2 = true
  less : HSt W H cs st.1 → st'.2 = true → st.2 = true ∧ sumH st'.1 ≤ sumH st.1 ∨ sumH st'.1 < sumH st.1
theorem HGo.refl {W H : Int} {cs : List Int} (st : List Int × Bool) : HGo W H cs st st := ⟨id, fun _ => rfl, id, fun _ h => .inl ⟨h, Int.le_refl _⟩⟩
theorem HGo.trans {W H : Int} {cs : List Int} {a b c : List Int × Bool} (h : HGo W H cs a b) (h' : HGo W H cs b c) : HGo W H cs a c := by
  refine ⟨fun x => h'.ok (h.ok x), fun hf => ?_, fun hk => h'.keep (h.keep hk), fun hs hc => ?_⟩
  · have e := h'.same hf
    rw [e]; exact h.same (by rw [← e]; exact hf)
  · rcases h'.less (h.ok hs) hc with ⟨h1, h2⟩ | h2
    · rcases h.less hs h1 with ⟨h3, h4⟩ | h4
      · exact .inl ⟨h3, by omega⟩
      · exact .inr (by omega)
    · cases hb : b.2 with
      | false => rw [h.same hb] at h2; exact .inr h2
      | true =>
        rcases h.less hs hb with ⟨h3, h4⟩ | h4
        · exact .inr (by omega)
        · exact .inr (by omega)
/-- Edges one after the other. -/
def passH (cs : List Int) (es : List (Int × Int)) (st : List Int × Bool) : List Int × Bool := es.foldl (fun st e => relH cs st e.1 e.2) st
def h0L (W : Int) (cs : List Int) (k : Nat) : List Int := (List.range cs.length).map fun i => if i < k then h0I W cs i else 0
end Go.Proofs.Ytbhpnhcdjmcaoaa

/- Boom: the greatest heights. -/
namespace Go.Proofs.Ytbhpnhcdjmcaoaa
open Go.RowKit
set_option linter.unusedVariables false
set_option linter.unusedSimpArgs false
/-- The edges as the program goes over them. -/
def edP (W H : Int) (j : Nat) : List (Int × Int) := (List.range j).flatMap fun i : Nat => (nearL W H true (i : Int)).map fun k => ((i : Int), k)
theorem HSt.sum {W H : Int} {cs hs : List Int} (h : HSt W H cs hs) : 0 ≤ hs.sum := sum_pos (hs := hs) (fun x hx => by
  obtain ⟨i, hi, rfl⟩ := List.mem_iff_getElem.1 hx
  have := h.pos i (by omega) (by have := h.len; omega)
  unfold hL at this
  rwa [Int.toNat_natCast, List.getD_eq_getElem?_getD, List.getElem?_eq_getElem hi] at this)
/-- Numbers and an error, or none. -/
def intsE (l : List Int) (Er : Int) (v : V) (L' : List E) : Prop :=
  ∃ o : C, v = V.tup [A.c o, A.c (C.i Er)] ∧ ((o = C.nil ∧ l = []) ∨ ∃ lab, o = C.sl lab l.length ∧ find L' lab = some ⟨lab, .vec 3 1, l.map C.i⟩)
noncomputable def htsO (W H : Int) (cs : List Int) : List Int := if okC W H cs then hts W H cs else []
def htsE (W H : Int) (cs : List Int) : Int := if okC W H cs then 0 else 30
end Go.Proofs.Ytbhpnhcdjmcaoaa

/- Boom: a list each of whose cells is a neighbour of the one in front of it. -/
namespace Go.Proofs.Ytbhpnhcdjmcaoaa
open Go.RowKit
set_option linter.unusedVariables false
set_option linter.unusedSimpArgs false
def foundF (t : Int) (b : Bool) (k : Int) : Bool := b || decide (k = t)
/-- Whether each of the first so many is a neighbour of the one in front of it. -/
def follB (W H : Int) (e : Bool) (l : List Int) (k : Nat) : Bool := (List.range (k - 1)).all fun j => (nearL W H e (l.getD j 0)).contains (l.getD (j + 1) 0)
end Go.Proofs.Ytbhpnhcdjmcaoaa

/- Boom, the reference: the best ways down to the last row. -/
namespace Go.Proofs.Ytbhpnhcdjmcaoaa
open Go.RowKit
set_option linter.unusedVariables false
set_option linter.unusedSimpArgs false
theorem CallK.intsR {P : Program} {n0 nx nac : Nat} {f : FuncId} {vs vs' : List V} {Lc L : List E} {R : Rn} {K : V → List E → Nat → Prop} {l : List Int} (spec : Spec P f vs Lc nac (fun v L' _ => intsR l v L')) (hok : callB P f = true)
    (hv : renVs R vs = some vs') (hvw : ∀ v ∈ vs, v.wf nac) (hL : roL R nac L Lc) (hLc : injB [] Lc = true)
    (hK : K (V.c (.sl nx l.length)) [⟨nx, .vec 3 1, l.map C.i⟩] (nx + 1)) : CallK P n0 f vs' L nx K := by
  refine CallK.mk' hok spec hv hvw hL hLc ?_
  rintro v L' nx' hw ⟨lab, rfl, hf⟩
  refine ⟨V.c (.sl nx l.length), [⟨nx, .vec 3 1, l.map C.i⟩], nx + 1, [(nx, some lab)], ⟨Nat.le_succ _, ?_, ?_, ⟨covE_some (renL_one _ _) (Nat.lt_succ_self nx) (wf_ints _ _) hf (ren_ints _ _), trivial⟩, rfl, ?_⟩, hK⟩
  · simp only [V.ren, A.ren, C.ren, renL_one]
  · simp only [V.chk, A.chk, C.chk]; exact inLab_one nx
  · simp only [List.all_cons, List.all_nil, Bool.and_true, inLab_one, Kd.isRo, Bool.not_false, Bool.true_and]
    exact chk_ints _ _
end Go.Proofs.Ytbhpnhcdjmcaoaa

/- Boom, the reference: ways. -/
namespace Go.Proofs.Ytbhpnhcdjmcaoaa
open Go.RowKit
set_option linter.unusedVariables false
set_option linter.unusedSimpArgs false
@[reducible] def cz : Cell := (0, 0)
/-- Cell i of a list is right: on the chart, beside the one in front of it, and no other one. -/
def stepB (W H : Int) (e : Bool) (p q : Cell) : Bool := fourB p.1 p.2 q.1 q.2 || (e && eightB p.1 p.2 q.1 q.2)
def wayOk (W H : Int) (l : List Cell) (e : Bool) (i : Nat) : Bool := onB W H (l.getD i cz).1 (l.getD i cz).2 && ((decide (i = 0) || stepB W H e (l.getD i cz) (l.getD (i - 1) cz)) && !((l.take i).any fun q => decide (l.getD i cz = q)))
def isWayK (W H : Int) (l : List Cell) (e : Bool) (k : Nat) : Bool := (List.range k).all (wayOk W H l e)
def isWayB (W H : Int) (l : List Cell) (e : Bool) : Bool := isWayK W H l e l.length && (decide ((l.length : Int) ≥ 1) && decide ((l.length : Int) ≤ 100))
end Go.Proofs.Ytbhpnhcdjmcaoaa

/- Boom, the reference: barriers and their cost. -/
namespace Go.Proofs.Ytbhpnhcdjmcaoaa
open Go.RowKit
set_option linter.unusedVariables false
set_option linter.unusedSimpArgs false
def idxU (W : Int) (p : Cell) : Int := p.2 * W + p.1
def barOk (W H : Int) (cs : List Int) (l : List Cell) (i : Nat) : Bool :=
  !(decide (cs.getD (idxU W (l.getD i cz)).toNat 0 = 0) || ((decide ((i : Int) = 0) != decide ((l.getD i cz).2 = 0)) || (decide ((i : Int) = (l.length : Int) - 1) != decide ((l.getD i cz).2 = H - 1))))
def barOkK (W H : Int) (cs : List Int) (l : List Cell) (k : Nat) : Bool := (List.range k).all (barOk W H cs l)
def isBarB (W H : Int) (cs : List Int) (l : List Cell) : Bool := !decide ((l.length : Int) > 100) && (isWayB W H l true && barOkK W H cs l l.length)
def sumK (W : Int) (cs : List Int) (l : List Cell) (k : Nat) : Int := ((l.take k).map fun p => cstI cs (idxU W p)).sum
def sumC (W : Int) (cs : List Int) (l : List Cell) : Int := sumK W cs l l.length
end Go.Proofs.Ytbhpnhcdjmcaoaa

/- Boom: lists of cells that are barriers, and what they cost. -/
namespace Go.Proofs.Ytbhpnhcdjmcaoaa
open Go.RowKit
set_option linter.unusedVariables false
set_option linter.unusedSimpArgs false
def hasI (l : List Int) (x : Int) : Bool := l.any fun y => decide (x = y)
/-- The indexes of cells. -/
def listI (W H : Int) (l : List Cell) : List Int := l.map (idxC W H)
def listOk (W H : Int) (l : List Cell) (j : Nat) : Bool := !(decide (idxC W H (l.getD j cz) < 0) || hasI (listI W H (l.take j)) (idxC W H (l.getD j cz)))
def listOkK (W H : Int) (l : List Cell) (k : Nat) : Bool := (List.range k).all (listOk W H l)
def lenOk (l : List Cell) : Bool := decide (1 ≤ (l.length : Int) ∧ (l.length : Int) ≤ 100)
def lisR (W H : Int) (l : List Cell) (v : V) (L' : List E) : Prop :=
  if listOkK W H l l.length then ∃ lab, v = V.tup [A.c (.sl lab l.length), A.c (.bool (lenOk l))] ∧ find L' lab = some ⟨lab, .vec 3 1, (listI W H l).map C.i⟩
  else v = V.tup [A.c .nil, A.c .ff]
def pbarOk (W H : Int) (cs : List Int) (is : List Int) (k : Nat) : Bool :=
  !(!decide (cs.getD (is.getD k 0).toNat 0 ≠ 0) || ((decide (is.getD k 0 / W = 0) != decide ((k : Int) = 0)) || (decide (is.getD k 0 / W = H - 1) != decide ((k : Int) = (is.length : Int) - 1))))
def pbarOkK (W H : Int) (cs : List Int) (is : List Int) (k : Nat) : Bool := (List.range k).all (pbarOk W H cs is)
def isBarP (W H : Int) (cs : List Int) (is : List Int) : Bool := pbarOkK W H cs is is.length && follB W H true is is.length
end Go.Proofs.Ytbhpnhcdjmcaoaa

/- Boom: IsBarrier, CostOf, Cheapest, Barrier. -/
namespace Go.Proofs.Ytbhpnhcdjmcaoaa
open Go.RowKit
set_option linter.unusedVariables false
set_option linter.unusedSimpArgs false
section
variable {P : Program} {n0 nx nac : Nat} {f : FuncId} {vs vs' : List V} {Lc L : List E} {R : Rn} {K : V → List E → Nat → Prop}
/-- Cells and an error. -/
def cellsE (l : List Cell) (Er : Int) (v : V) (L' : List E) : Prop :=
  ∃ o : C, v = V.tup [A.c o, A.c (C.i Er)] ∧ ((o = C.nil ∧ l = []) ∨ ∃ lab, o = C.sl lab l.length ∧ find L' lab = some ⟨lab, .vec 57 2, cellC l⟩)
theorem CallK.cellsE {l : List Cell} {Er : Int} (spec : Spec P f vs Lc nac (fun v L' _ => cellsE l Er v L')) (hok : callB P f = true)
    (hv : renVs R vs = some vs') (hvw : ∀ v ∈ vs, v.wf nac) (hL : roL R nac L Lc) (hLc : injB [] Lc = true)
    (hK : K (V.tup [A.c (.sl nx l.length), A.c (C.i Er)]) [⟨nx, .vec 57 2, cellC l⟩] (nx + 1)) : CallK P n0 f vs' L nx K := by
  refine CallK.mk' hok spec hv hvw hL hLc ?_
  rintro v L' nx' hw ⟨o, rfl, ⟨rfl, rfl⟩ | ⟨lab, rfl, hf⟩⟩
  · refine ⟨V.tup [A.c (.sl nx 0), A.c (C.i Er)], [⟨nx, .vec 57 2, []⟩], nx + 1, [(nx, none)], ⟨Nat.le_succ _, ?_, ?_, ⟨covE_nil (renL_one _ _) (Nat.lt_succ_self nx) rfl rfl, trivial⟩, rfl, ?_⟩, hK⟩
    · simp [V.ren, A.ren, C.ren, renL_one, C.i, seqO]
    · simp [V.chk, A.chk, C.chk, inLab_one, C.i]
    · simp only [List.all_cons, List.all_nil, Bool.and_true, inLab_one, Kd.isRo, Bool.not_false]
  · refine ⟨V.tup [A.c (.sl nx l.length), A.c (C.i Er)], [⟨nx, .vec 57 2, cellC l⟩], nx + 1, [(nx, some lab)], ⟨Nat.le_succ _, ?_, ?_, ⟨covE_some (renL_one _ _) (Nat.lt_succ_self nx) (wf_cells _ _) hf (ren_cells _ _), trivial⟩, rfl, ?_⟩, hK⟩
    · simp [V.ren, A.ren, C.ren, renL_one, C.i, seqO]
    · simp [V.chk, A.chk, C.chk, inLab_one, C.i]
    · simp only [List.all_cons, List.all_nil, Bool.and_true, inLab_one, Kd.isRo, Bool.not_false, Bool.true_and]
      exact chk_cells _ _
end
/-- A list is a barrier, as the program finds it. -/
def pIsBar (W H : Int) (cs : List Int) (l : List Cell) : Bool := listOkK W H l l.length && (lenOk l && isBarP W H cs (listI W H l))
def psumK (cs is : List Int) (k : Nat) : Int := ((is.take k).map (cstI cs)).sum
def psum (cs is : List Int) : Int := psumK cs is is.length
end Go.Proofs.Ytbhpnhcdjmcaoaa

/- Boom, plain: what a barrier is. -/
namespace Go.Proofs.Ytbhpnhcdjmcaoaa
open Go.RowKit
set_option linter.unusedVariables false
set_option linter.unusedSimpArgs false
def adj (e : Bool) (p q : Cell) : Prop := (-1 ≤ p.1 - q.1 ∧ p.1 - q.1 ≤ 1) ∧ (-1 ≤ p.2 - q.2 ∧ p.2 - q.2 ≤ 1) ∧ ¬ (p.1 = q.1 ∧ p.2 = q.2) ∧ (e = true ∨ p.1 = q.1 ∨ p.2 = q.2)
theorem adj_symm {e : Bool} {p q : Cell} (h : adj e p q) : adj e q p := by
  obtain ⟨h1, h2, h3, h4⟩ := h
  exact ⟨by omega, by omega, fun hh => h3 ⟨hh.1.symm, hh.2.symm⟩, h4.imp id (Or.imp Eq.symm Eq.symm)⟩
theorem idxC_mod {W H : Int} {p : Cell} (h : onB W H p.1 p.2 = true) : idxC W H p = idxU W p ∧ idxC W H p % W = p.1 ∧ idxC W H p / W = p.2 := by
  have ho := onB_t h
  have h1 := idxI_on h
  have e : idxC W H p = idxU W p := h1.1
  have e2 : idxC W H p = p.1 + p.2 * W := by rw [e]; unfold idxU; omega
  have hm : p.1 % W = p.1 := Int.emod_eq_of_lt ho.1.1 ho.1.2
  have hd : p.1 / W = 0 := Int.ediv_eq_zero_of_lt ho.1.1 ho.1.2
  refine ⟨e, ?_, ?_⟩
  · rw [e2, Int.add_mul_emod_self_right, hm]
  · rw [e2, Int.add_mul_ediv_right _ _ (by omega), hd]; omega
theorem idxC_inj {W H : Int} {p q : Cell} (hp : onB W H p.1 p.2 = true) (hq : onB W H q.1 q.2 = true) (h : idxC W H p = idxC W H q) : p = q := by
  obtain ⟨_, p1, p2⟩ := idxC_mod hp
  obtain ⟨_, q1, q2⟩ := idxC_mod hq
  exact Prod.ext (by rw [← p1, h, q1]) (by rw [← p2, h, q2])
theorem near_iff {W H : Int} {e : Bool} {p q : Cell} (hp : onB W H p.1 p.2 = true) (hq : onB W H q.1 q.2 = true) : idxC W H p ∈ nearL W H e (idxC W H q) ↔ adj e p q := by
  obtain ⟨_, q1, q2⟩ := idxC_mod hq
  have hpo := onB_t hp
  unfold nearL
  rw [List.mem_filterMap]
  constructor
  · rintro ⟨j, hj, hc⟩
    have hj9 := List.mem_range.1 hj
    unfold candJ cand at hc
    rw [q1, q2] at hc
    split at hc
    · cases hc
    · rename_i hs
      split at hc
      · rename_i hx
        have hx2 := idxI_lt (show 0 < W by omega) hx
        have hr : onB W H (q.1 + ((j % 3 : Nat) : Int) - 1) (q.2 + ((j / 3 : Nat) : Int) - 1) = true := by
          simp only [onB, Bool.and_eq_true, decide_eq_true_eq]; omega
        have := idxC_inj (p := (q.1 + ((j % 3 : Nat) : Int) - 1, q.2 + ((j / 3 : Nat) : Int) - 1)) (q := p) hr hp (by
          injection hc with hc
          rw [← hc]
          show idxI W H _ _ = idxI W H _ _
          congr 1 <;> omega)
        rw [← this]
        have ha : j / 3 < 3 := by omega
        have hb : j % 3 < 3 := by omega
        generalize j / 3 = a at *
        generalize j % 3 = b at *
        refine ⟨by simp only; omega, by simp only; omega, fun hh => hs (.inl ?_), ?_⟩
        · simp only at hh; omega
        · cases e with
          | true => exact .inl rfl
          | false =>
            right
            by_cases hb1 : b = 1
            · left; simp only; omega
            · by_cases ha1 : a = 1
              · right; simp only; omega
              · exact absurd (.inr ⟨rfl, hb1, ha1⟩) hs
      · cases hc
  · rintro ⟨h1, h2, h3, h4⟩
    refine ⟨3 * (p.2 - q.2 + 1).toNat + (p.1 - q.1 + 1).toNat, List.mem_range.2 (by omega), ?_⟩
    have ha : (3 * (p.2 - q.2 + 1).toNat + (p.1 - q.1 + 1).toNat) / 3 = (p.2 - q.2 + 1).toNat := by omega
    have hb : (3 * (p.2 - q.2 + 1).toNat + (p.1 - q.1 + 1).toNat) % 3 = (p.1 - q.1 + 1).toNat := by omega
    have e1 : q.1 + (((p.1 - q.1 + 1).toNat : Int) - 1) = p.1 := by omega
    have e2 : q.2 + (((p.2 - q.2 + 1).toNat : Int) - 1) = p.2 := by omega
    have hx := idxI_on hp
    unfold candJ cand
    rw [q1, q2, ha, hb, e1, e2, if_neg, if_pos hx.2]
    · rfl
    · rintro (⟨g1, g2⟩ | ⟨g1, g2, g3⟩)
      · exact h3 ⟨by omega, by omega⟩
      · rcases h4 with h4 | h4 | h4
        · rw [g1] at h4; cases h4
        · omega
        · omega
/-- A barrier. -/
structure BarP (W H : Int) (cs : List Int) (l : List Cell) : Prop where
  on : ∀ j, j < l.length → onB W H (l.getD j cz).1 (l.getD j cz).2 = true
  nd : ∀ j i, j < l.length → i < j → ¬ l.getD j cz = l.getD i cz
  len : 1 ≤ l.length ∧ l.length ≤ 100
  adj : ∀ j, j + 1 < l.length → adj true (l.getD (j + 1) cz) (l.getD j cz)
  hold : ∀ j, j < l.length → ¬ cs.getD (idxU W (l.getD j cz)).toNat 0 = 0
  top : ∀ j, j < l.length → ((l.getD j cz).2 = 0 ↔ j = 0)
  bot : ∀ j, j < l.length → ((l.getD j cz).2 = H - 1 ↔ j + 1 = l.length)
theorem idx_on {W H : Int} {p : Cell} (h : idxC W H p ≥ 0) (hW : 0 < W) : onB W H p.1 p.2 = true := by
  have := idxI_lt hW h
  simp only [onB, Bool.and_eq_true, decide_eq_true_eq]; omega
end Go.Proofs.Ytbhpnhcdjmcaoaa

/- Boom: callees of the laws. -/
namespace Go.Proofs.Ytbhpnhcdjmcaoaa
open Go.RowKit
set_option linter.unusedVariables false
set_option linter.unusedSimpArgs false
section
variable {P : Program} {n0 nx nac : Nat} {f : FuncId} {vs vs' : List V} {Lc L : List E} {R : Rn} {K : V → List E → Nat → Prop}
theorem CallK.intsE {l : List Int} {Er : Int} (spec : Spec P f vs Lc nac (fun v L' _ => intsE l Er v L')) (hok : callB P f = true)
    (hv : renVs R vs = some vs') (hvw : ∀ v ∈ vs, v.wf nac) (hL : roL R nac L Lc) (hLc : injB [] Lc = true)
    (hK : K (V.tup [A.c (.sl nx l.length), A.c (C.i Er)]) [⟨nx, .vec 3 1, l.map C.i⟩] (nx + 1)) : CallK P n0 f vs' L nx K := by
  refine CallK.mk' hok spec hv hvw hL hLc ?_
  rintro v L' nx' hw ⟨o, rfl, ⟨rfl, rfl⟩ | ⟨lab, rfl, hf⟩⟩
  · refine ⟨V.tup [A.c (.sl nx 0), A.c (C.i Er)], [⟨nx, .vec 3 1, []⟩], nx + 1, [(nx, none)], ⟨Nat.le_succ _, ?_, ?_, ⟨covE_nil (renL_one _ _) (Nat.lt_succ_self nx) rfl rfl, trivial⟩, rfl, ?_⟩, hK⟩
    · simp [V.ren, A.ren, C.ren, renL_one, C.i, seqO]
    · simp [V.chk, A.chk, C.chk, inLab_one, C.i]
    · simp only [List.all_cons, List.all_nil, Bool.and_true, inLab_one, Kd.isRo, Bool.not_false]
  · refine ⟨V.tup [A.c (.sl nx l.length), A.c (C.i Er)], [⟨nx, .vec 3 1, l.map C.i⟩], nx + 1, [(nx, some lab)], ⟨Nat.le_succ _, ?_, ?_, ⟨covE_some (renL_one _ _) (Nat.lt_succ_self nx) (wf_ints _ _) hf (ren_ints _ _), trivial⟩, rfl, ?_⟩, hK⟩
    · simp [V.ren, A.ren, C.ren, renL_one, C.i, seqO]
    · simp [V.chk, A.chk, C.chk, inLab_one, C.i]
    · simp only [List.all_cons, List.all_nil, Bool.and_true, inLab_one, Kd.isRo, Bool.not_false, Bool.true_and]
      exact chk_ints _ _
end
end Go.Proofs.Ytbhpnhcdjmcaoaa

/- Boom, plain: the program's barrier is the reference's, and is one. -/
namespace Go.Proofs.Ytbhpnhcdjmcaoaa
open Go.RowKit
set_option linter.unusedVariables false
set_option linter.unusedSimpArgs false
def nextR (W H : Int) (d : Int → Option Way) (i : Int) (rest : Way) : Option Int := (nearL W H true i).find? fun k => decide (d k = some rest)
def pathR (W H : Int) (cs : List Int) (d : Int → Option Way) : Nat → Int → List Int
  | 0, i => [i]
  | f + 1, i => match d i with
    | none => [i]
    | some w => if w.2 > 1 then (match nextR W H d i (w.1 - cstI cs i, w.2 - 1) with
      | none => [i]
      | some k => i :: pathR W H cs d f k) else [i]
def rbarO (W H : Int) (cs : List Int) : Option (List Int × Way) :=
  match wayR W H cs (bestP (wayR W H cs) W.toNat) with
  | none => none
  | some w => some (pathR W H cs (wayR W H cs) w.2.toNat (bestP (wayR W H cs) W.toNat), w)
section
variable {cost : Int → Int} {ini : Int → Bool} {nb : Int → List Int} {d : Int → Option Way}
theorem OptD.sub (h : OptD cost ini nb d) {i k : Int} {r : List Int} (hk : k ∈ nb i) (hw : isWalk ini nb (k :: r)) (ho : d i = some (valW cost (i :: k :: r))) : d k = some (valW cost (k :: r)) := by
  obtain ⟨w1, h3, h4⟩ := h.comp k r hw
  obtain ⟨l', h5, h6⟩ := h.sound k w1 h3
  obtain ⟨w2, h7, h8⟩ := h.comp i (k :: l') ⟨hk, h5⟩
  rw [ho] at h7; cases h7
  have e1 : valW cost (i :: k :: l') = addW (cost i) w1 := by show addW _ (valW cost (k :: l')) = _; rw [h6]
  have e2 : valW cost (i :: k :: r) = addW (cost i) (valW cost (k :: r)) := rfl
  rw [e1, e2] at h8
  rw [h3, leW_anti h4 (by unfold leW addW at h8; unfold leW; simp only at h8; omega)]
theorem OptD.pos (h : OptD cost ini nb d) {i : Int} {w : Way} (hw : d i = some w) : 1 ≤ w.2 := by
  obtain ⟨l, _, h2⟩ := h.sound i w hw
  have := valW_cells cost (i :: l)
  rw [h2] at this; simp at this; omega
end
section
variable {W H : Int} {cs : List Int}
theorem cellI_idx {i : Int} (hW : 0 < W) (hi : 0 ≤ i) (hn : i < W * H) : onB W H (cellI W i).1 (cellI W i).2 = true ∧ idxU W (cellI W i) = i := by
  have h1 := Int.emod_nonneg i (show W ≠ 0 by omega)
  have h2 := Int.emod_lt_of_pos i hW
  have h3 := Int.mul_ediv_add_emod i W
  have h4 : 0 ≤ i / W := Int.ediv_nonneg hi (by omega)
  have h5 : i / W < H := Int.ediv_lt_of_lt_mul hW (by rw [Int.mul_comm]; exact hn)
  refine ⟨by simp only [onB, cellI, Bool.and_eq_true]; exact ⟨dd_t h1, dd_t h2, dd_t h4, dd_t h5⟩, ?_⟩
  unfold idxU cellI
  simp only
  rw [Int.mul_comm (i / W) W]; omega
end
end Go.Proofs.Ytbhpnhcdjmcaoaa

/- Boom, plain: no barrier is cheaper than the one found. -/
namespace Go.Proofs.Ytbhpnhcdjmcaoaa
open Go.RowKit
set_option linter.unusedVariables false
set_option linter.unusedSimpArgs false
/-- A way of cells down to the last row, over land and booms. -/
def looseL (W H : Int) (cs : List Int) : List Cell → Prop
  | [] => False
  | [p] => onB W H p.1 p.2 = true ∧ ¬ cs.getD (idxU W p).toNat 0 = 0 ∧ p.2 = H - 1
  | p :: q :: r => onB W H p.1 p.2 = true ∧ ¬ cs.getD (idxU W p).toNat 0 = 0 ∧ adj true q p ∧ looseL W H cs (q :: r)
section
variable {W H : Int} {cs : List Int}
theorem idxU_in (hok : CO W H cs) {p : Cell} (h : onB W H p.1 p.2 = true) : 0 ≤ idxU W p ∧ idxU W p < cs.length ∧ idxU W p / W = p.2 ∧ idxU W p % W = p.1 := by
  have ho := onB_t h
  obtain ⟨e, e1, e2⟩ := idxC_mod h
  have hl := hok.len
  rw [e] at e1 e2
  have h1 : 0 ≤ p.2 * W := Int.mul_nonneg ho.2.1 (by omega)
  have h2 : (p.2 + 1) * W ≤ H * W := Int.mul_le_mul_of_nonneg_right (by omega) (by omega)
  rw [Int.add_mul, Int.mul_comm H W] at h2
  refine ⟨?_, ?_, e2, e1⟩ <;> unfold idxU <;> omega
end
end Go.Proofs.Ytbhpnhcdjmcaoaa

/- Boom, plain: water leads from one shore to the other, or what is dry from the first row to the last, never both. -/
namespace Go.Proofs.Ytbhpnhcdjmcaoaa
open Go.RowKit
set_option linter.unusedVariables false
set_option linter.unusedSimpArgs false
/-- Water from which one comes to the last column, and what is dry from which one comes to the last row. -/
inductive RA (W H : Int) (w : Cell → Bool) : Cell → Prop
  | ini {p : Cell} (h : onB W H p.1 p.2 = true) (hw : w p = true) (hx : p.1 = W - 1) : RA W H w p
  | step {p q : Cell} (h : onB W H p.1 p.2 = true) (hw : w p = true) (ha : adj false p q) (hq : RA W H w q) : RA W H w p
inductive RB (W H : Int) (w : Cell → Bool) : Cell → Prop
  | ini {p : Cell} (h : onB W H p.1 p.2 = true) (hw : w p = false) (hx : p.2 = H - 1) : RB W H w p
  | step {p q : Cell} (h : onB W H p.1 p.2 = true) (hw : w p = false) (ha : adj true p q) (hq : RB W H w q) : RB W H w p
theorem RA.on {W H : Int} {w : Cell → Bool} {p : Cell} (h : RA W H w p) : onB W H p.1 p.2 = true ∧ w p = true := by cases h <;> exact ⟨by assumption, by assumption⟩
theorem RB.on {W H : Int} {w : Cell → Bool} {p : Cell} (h : RB W H w p) : onB W H p.1 p.2 = true ∧ w p = false := by cases h <;> exact ⟨by assumption, by assumption⟩
def imB (a b : Bool) : Bool := !a || b
def edB (ap bp aq bq : Bool) : Bool := (ap && bq) ^^ (bp && aq)
def blkB (w1 a1 b1 w2 a2 b2 w3 a3 b3 w4 a4 b4 : Bool) : Bool :=
  imB (imB a1 w1 && imB a2 w2 && imB a3 w3 && imB a4 w4 && imB b1 !w1 && imB b2 !w2 && imB b3 !w3 && imB b4 !w4 &&
    imB (a1 && w2) a2 && imB (a2 && w1) a1 && imB (a1 && w3) a3 && imB (a3 && w1) a1 && imB (a2 && w4) a4 && imB (a4 && w2) a2 && imB (a3 && w4) a4 && imB (a4 && w3) a3 &&
    imB (b1 && !w2) b2 && imB (b2 && !w1) b1 && imB (b1 && !w3) b3 && imB (b3 && !w1) b1 && imB (b1 && !w4) b4 && imB (b4 && !w1) b1 &&
    imB (b2 && !w3) b3 && imB (b3 && !w2) b2 && imB (b2 && !w4) b4 && imB (b4 && !w2) b2 && imB (b3 && !w4) b4 && imB (b4 && !w3) b3)
    (!((edB a1 b1 a2 b2 ^^ edB a3 b3 a4 b4) ^^ (edB a1 b1 a3 b3 ^^ edB a2 b2 a4 b4)))
section
variable {W H : Int} {w : Cell → Bool}
open Classical in
noncomputable def aB (W H : Int) (w : Cell → Bool) (p : Cell) : Bool := decide (p.1 = W ∨ RA W H w p)
open Classical in
noncomputable def bB (W H : Int) (w : Cell → Bool) (p : Cell) : Bool := decide ((p.2 = H ∧ p.1 ≠ W) ∨ RB W H w p)
def wX (W H : Int) (w : Cell → Bool) (p : Cell) : Bool := decide (p.1 = W) || (decide (p.2 ≠ H) && w p)
open Classical in
open Classical in
/-- Within the board and the shore's column and row behind it. -/
def exB (W H : Int) (p : Cell) : Prop := (0 ≤ p.1 ∧ p.1 ≤ W) ∧ 0 ≤ p.2 ∧ p.2 ≤ H
noncomputable def edC (W H : Int) (w : Cell → Bool) (p q : Cell) : Bool := edB (aB W H w p) (bB W H w p) (aB W H w q) (bB W H w q)
noncomputable def rowX (W H : Int) (w : Cell → Bool) (y : Int) : Nat → Bool
  | 0 => false
  | k + 1 => rowX W H w y k ^^ edC W H w (k, y) (k + 1, y)
theorem RA.in {p : Cell} (h : RA W H w p) : p.1 < W ∧ p.2 < H := by have := onB_t h.on.1; omega
theorem RB.in {p : Cell} (h : RB W H w p) : p.1 < W ∧ p.2 < H := by have := onB_t h.on.1; omega
/-- What is dry, as a list from a cell to the last row. -/
def dryL (W H : Int) (w : Cell → Bool) : List Cell → Prop
  | [] => False
  | [p] => onB W H p.1 p.2 = true ∧ w p = false ∧ p.2 = H - 1
  | p :: q :: r => (onB W H p.1 p.2 = true ∧ w p = false ∧ adj true p q) ∧ dryL W H w (q :: r)
theorem RB.list {p : Cell} (h : RB W H w p) : ∃ r, dryL W H w (p :: r) := by
  induction h with
  | ini h hw hx => exact ⟨[], h, hw, hx⟩
  | step h hw ha hq ih => obtain ⟨r, hr⟩ := ih; exact ⟨_ :: r, ⟨h, hw, ha⟩, hr⟩
/-- Over each pair of neighbours, the last cell's lower neighbour among them. -/
def xr (H : Int) (s : Cell → Cell → Bool) : List Cell → Bool
  | [] => false
  | [p] => s p (p.1, H)
  | p :: q :: r => s p q ^^ xr H s (q :: r)
/-- Steps between row y and the next one whose end in row y lies left of x; steps between row y and the one before. -/
def crS (x y : Int) (p q : Cell) : Bool := decide (p.2 = y ∧ q.2 = y + 1 ∧ p.1 < x) || decide (q.2 = y ∧ p.2 = y + 1 ∧ q.1 < x)
def cgS (x y : Int) (p q : Cell) : Bool := decide (p.2 = y ∧ q.2 = y - 1 ∧ p.1 < x) || decide (q.2 = y ∧ p.2 = y - 1 ∧ q.1 < x)
def lfS (x y : Int) (p : Cell) : Bool := decide (p.2 = y ∧ p.1 < x)
/-- How often the wall over a cell is crossed, the step from above the first row among them. -/
def fS (H x y : Int) : List Cell → Bool
  | [] => false
  | p :: r => crS x y (p.1, -1) p ^^ xr H (crS x y) (p :: r)
end
end Go.Proofs.Ytbhpnhcdjmcaoaa

/- Boom, plain: neighbours the other way round. -/
namespace Go.Proofs.Ytbhpnhcdjmcaoaa
open Go.RowKit
set_option linter.unusedVariables false
set_option linter.unusedSimpArgs false
theorem near_symm {W H : Int} {e : Bool} {i k : Int} (hW : 0 < W) (hi : 0 ≤ i) (hn : i < W * H) (h : k ∈ nearL W H e i) : i ∈ nearL W H e k := by
  have hk := near_in hW h
  obtain ⟨a1, a2⟩ := cellI_idx (W := W) (H := H) hW hi hn
  obtain ⟨b1, b2⟩ := cellI_idx (W := W) (H := H) hW hk.1 hk.2
  have e1 : idxC W H (cellI W i) = i := (idxC_mod a1).1.trans a2
  have e2 : idxC W H (cellI W k) = k := (idxC_mod b1).1.trans b2
  rw [← e1, ← e2] at h ⊢
  exact (near_iff a1 b1).2 (adj_symm ((near_iff b1 a1).1 h))
end Go.Proofs.Ytbhpnhcdjmcaoaa

/- Boom, plain: how many steps it is over water. -/
namespace Go.Proofs.Ytbhpnhcdjmcaoaa
open Go.RowKit
set_option linter.unusedVariables false
set_option linter.unusedSimpArgs false
/-- How many steps it is. -/
structure DistD (ini : Int → Bool) (nb : Int → List Int) (d : Int → Option Int) : Prop where
  sound : ∀ i n, d i = some n → ∃ l, isWalk ini nb (i :: l) ∧ (l.length : Int) = n
  comp : ∀ i l, isWalk ini nb (i :: l) → ∃ n, d i = some n ∧ n ≤ l.length
theorem DistD.unique {ini : Int → Bool} {nb : Int → List Int} {d d' : Int → Option Int} (h : DistD ini nb d) (h' : DistD ini nb d') : d = d' := by
  funext i
  cases hd : d i with
  | none =>
    cases hd' : d' i with
    | none => rfl
    | some n =>
      obtain ⟨l, h1, _⟩ := h'.sound i n hd'
      obtain ⟨m, h2, _⟩ := h.comp i l h1
      rw [hd] at h2; cases h2
  | some n =>
    obtain ⟨l, h1, h2⟩ := h.sound i n hd
    obtain ⟨m, h3, h4⟩ := h'.comp i l h1
    obtain ⟨l', h5, h6⟩ := h'.sound i m h3
    obtain ⟨n', h7, h8⟩ := h.comp i l' h5
    rw [hd] at h7; cases h7
    rw [h3]; congr 1; omega
theorem least_ex {p : Nat → Prop} : ∀ (n : Nat), p n → ∃ n, p n ∧ ∀ m, p m → n ≤ m
  | 0, h => ⟨0, h, fun m _ => Nat.zero_le m⟩
  | n + 1, h => by
    by_cases hl : ∃ m, m < n + 1 ∧ p m
    · obtain ⟨m, hm, hp⟩ := hl
      exact least_ex m hp
    · exact ⟨n + 1, h, fun m hm => by
        by_cases hh : n + 1 ≤ m
        · exact hh
        · exact absurd ⟨m, by omega, hm⟩ hl⟩
termination_by n => n
open Classical in
noncomputable def distO (ini : Int → Bool) (nb : Int → List Int) (i : Int) : Option Int :=
  if h : ∃ n : Nat, (∃ l, isWalk ini nb (i :: l) ∧ l.length = n) ∧ ∀ m : Nat, (∃ l, isWalk ini nb (i :: l) ∧ l.length = m) → n ≤ m then some (Classical.choose h : Nat) else none
theorem distO_is (ini : Int → Bool) (nb : Int → List Int) : DistD ini nb (distO ini nb) := by
  refine ⟨fun i n h => ?_, fun i l h => ?_⟩
  · unfold distO at h
    split at h
    · rename_i hh
      obtain ⟨⟨l, h1, h2⟩, _⟩ := Classical.choose_spec hh
      cases h
      exact ⟨l, h1, by rw [h2]⟩
    · cases h
  · obtain ⟨n, h1, h2⟩ := least_ex (p := fun n => ∃ l, isWalk ini nb (i :: l) ∧ l.length = n) l.length ⟨l, h, rfl⟩
    have hh : ∃ n : Nat, (∃ l, isWalk ini nb (i :: l) ∧ l.length = n) ∧ ∀ m : Nat, (∃ l, isWalk ini nb (i :: l) ∧ l.length = m) → n ≤ m := ⟨n, h1, h2⟩
    refine ⟨(Classical.choose hh : Nat), by unfold distO; rw [dif_pos hh], ?_⟩
    have := (Classical.choose_spec hh).2 l.length ⟨l, h, rfl⟩
    omega
def updI (d : Int → Option Int) (i n : Int) : Int → Option Int := fun j => if j = i then some n else d j
def leV (d : Int → Option Int) (a b : Int) : Prop := ∀ m n, d a = some m → d b = some n → m ≤ n
section
variable {ini : Int → Bool} {nb : Int → List Int}
/-- What a queue's round is: h: how far its cell is; pre: the neighbours that were looked at. -/
structure BI (ini : Int → Bool) (nb : Int → List Int) (d : Int → Option Int) (q : List Int) (p : Nat) (h i : Int) (pre : List Int) : Prop where
  sound : ∀ j n, d j = some n → ∃ l, isWalk ini nb (j :: l) ∧ (l.length : Int) = n
  nd : q.Nodup
  mem : ∀ j, j ∈ q ↔ ∃ n, d j = some n
  ini0 : ∀ j, ini j = true → d j = some 0
  bnd : ∀ j n, d j = some n → 0 ≤ n ∧ n < q.length
  le : ∀ j n, d j = some n → n ≤ h + 1
  ge : ∀ j ∈ q.drop p, ∀ n, d j = some n → h ≤ n
  sort : (q.drop p).Pairwise (leV d)
  done : ∀ j ∈ q.take p, ∀ k ∈ nb j, (j = i → k ∈ pre) → ∃ n m, d j = some n ∧ d k = some m ∧ m ≤ n + 1
  cur : d i = some h
  here : p ≤ q.length
structure BO (ini : Int → Bool) (nb : Int → List Int) (d : Int → Option Int) (q : List Int) (p : Nat) : Prop where
  sound : ∀ j n, d j = some n → ∃ l, isWalk ini nb (j :: l) ∧ (l.length : Int) = n
  nd : q.Nodup
  mem : ∀ j, j ∈ q ↔ ∃ n, d j = some n
  ini0 : ∀ j, ini j = true → d j = some 0
  bnd : ∀ j n, d j = some n → 0 ≤ n ∧ n < q.length
  le : ∀ a r, q.drop p = a :: r → ∀ m, d a = some m → ∀ j n, d j = some n → n ≤ m + 1
  sort : (q.drop p).Pairwise (leV d)
  done : ∀ j ∈ q.take p, ∀ k ∈ nb j, ∃ n m, d j = some n ∧ d k = some m ∧ m ≤ n + 1
  here : p ≤ q.length
theorem updI_ne {d : Int → Option Int} {k n j : Int} (h : j ≠ k) : updI d k n j = d j := by unfold updI; rw [if_neg h]
theorem BI.put {d : Int → Option Int} {q : List Int} {p : Nat} {h i : Int} {pre : List Int} {k : Int} (B : BI ini nb d q p h i pre) (hk : d k = none) (hn : k ∈ nb i) (hs : i ∈ nb k) : BI ini nb (updI d k (h + 1)) (q ++ [k]) p h i (pre ++ [k]) := by
  have hkq : k ∉ q := fun hh => by obtain ⟨n, h1⟩ := (B.mem k).1 hh; rw [hk] at h1; cases h1
  have hne : ∀ {j : Int}, j ∈ q → j ≠ k := fun hj e => hkq (e ▸ hj)
  have hnes : ∀ {j n : Int}, d j = some n → j ≠ k := fun hj e => by rw [e, hk] at hj; cases hj
  have hself : updI d k (h + 1) k = some (h + 1) := by simp [updI]
  have hdrop : (q ++ [k]).drop p = q.drop p ++ [k] := List.drop_append_of_le_length B.here
  have htake : (q ++ [k]).take p = q.take p := List.take_append_of_le_length B.here
  refine ⟨fun j n hj => ?_, ?_, fun j => ?_, fun j hj => ?_, fun j n hj => ?_, fun j n hj => ?_, fun j hj n hjn => ?_, ?_, fun j hj k' hk' hpre => ?_, ?_, by rw [List.length_append]; have := B.here; omega⟩
  · by_cases hjk : j = k
    · subst hjk
      rw [hself] at hj; cases hj
      obtain ⟨l, h1, h2⟩ := B.sound i h B.cur
      exact ⟨i :: l, ⟨hs, h1⟩, by simp; omega⟩
    · rw [updI_ne hjk] at hj; exact B.sound j n hj
  · rw [List.nodup_append]
    exact ⟨B.nd, by simp, fun a ha b hb => by rw [List.mem_singleton.1 hb]; exact hne ha⟩
  · rw [List.mem_append, List.mem_singleton]
    constructor
    · rintro (hj | rfl)
      · obtain ⟨n, h1⟩ := (B.mem j).1 hj
        exact ⟨n, by rw [updI_ne (hne hj)]; exact h1⟩
      · exact ⟨_, hself⟩
    · rintro ⟨n, hj⟩
      by_cases hjk : j = k
      · exact .inr hjk
      · rw [updI_ne hjk] at hj; exact .inl ((B.mem j).2 ⟨n, hj⟩)
  · have := B.ini0 j hj
    rw [updI_ne (hnes this)]; exact this
  · have hh := (B.bnd i h B.cur)
    rw [List.length_append]
    by_cases hjk : j = k
    · subst hjk; rw [hself] at hj; cases hj; simp; omega
    · rw [updI_ne hjk] at hj; have := B.bnd j n hj; simp; omega
  · by_cases hjk : j = k
    · subst hjk; rw [hself] at hj; cases hj; omega
    · rw [updI_ne hjk] at hj; exact B.le j n hj
  · rw [hdrop] at hj
    rcases List.mem_append.1 hj with hj | hj
    · rw [updI_ne (hne (List.mem_of_mem_drop hj))] at hjn; exact B.ge j hj n hjn
    · rw [List.mem_singleton.1 hj, hself] at hjn; cases hjn; omega
  · rw [hdrop, List.pairwise_append]
    refine ⟨List.Pairwise.imp_of_mem (fun {a b} ha hb hab m n hm hn => ?_) B.sort, by simp, fun a ha b hb m n hm hn => ?_⟩
    · rw [updI_ne (hne (List.mem_of_mem_drop ha))] at hm
      rw [updI_ne (hne (List.mem_of_mem_drop hb))] at hn
      exact hab m n hm hn
    · rw [updI_ne (hne (List.mem_of_mem_drop ha))] at hm
      rw [List.mem_singleton.1 hb, hself] at hn; cases hn
      exact B.le a m hm
  · rw [htake] at hj
    have hjq : j ∈ q := List.mem_of_mem_take hj
    by_cases hc : j = i ∧ k' = k
    · obtain ⟨rfl, rfl⟩ := hc
      exact ⟨h, h + 1, by rw [updI_ne (hne hjq)]; exact B.cur, hself, Int.le_refl _⟩
    · obtain ⟨n, m, h1, h2, h3⟩ := B.done j hj k' hk' (fun e => by
        have := hpre e
        rcases List.mem_append.1 this with hp | hp
        · exact hp
        · exact absurd ⟨e, List.mem_singleton.1 hp⟩ hc)
      exact ⟨n, m, by rw [updI_ne (hne hjq)]; exact h1, by rw [updI_ne (hnes h2)]; exact h2, h3⟩
  · rw [updI_ne (hnes B.cur)]; exact B.cur
theorem BI.keep {d : Int → Option Int} {q : List Int} {p : Nat} {h i : Int} {pre : List Int} {k : Int} (B : BI ini nb d q p h i pre) (hk : k ∈ nb i → ∃ n, d k = some n) : BI ini nb d q p h i (pre ++ [k]) := by
  refine ⟨B.sound, B.nd, B.mem, B.ini0, B.bnd, B.le, B.ge, B.sort, fun j hj k' hk' hpre => ?_, B.cur, B.here⟩
  by_cases hc : j = i ∧ k' = k
  · obtain ⟨rfl, rfl⟩ := hc
    obtain ⟨n, h1⟩ := hk hk'
    exact ⟨h, n, B.cur, h1, B.le _ _ h1⟩
  · exact B.done j hj k' hk' (fun e => by
      have := hpre e
      rcases List.mem_append.1 this with hp | hp
      · exact hp
      · exact absurd ⟨e, List.mem_singleton.1 hp⟩ hc)
theorem drop_cons {q r : List Int} {p : Nat} {i : Int} (hq : q.drop p = i :: r) : p < q.length ∧ q.drop (p + 1) = r ∧ q.take (p + 1) = q.take p ++ [i] ∧ q.getD p 0 = i := by
  have hlt : p < q.length := by
    by_cases hp : p < q.length
    · exact hp
    · rw [List.drop_eq_nil_of_le (by omega)] at hq; cases hq
  have h1 := List.drop_eq_getElem_cons hlt
  rw [hq] at h1
  injection h1 with h2 h3
  refine ⟨hlt, h3.symm, ?_, ?_⟩
  · rw [List.take_add_one, List.getElem?_eq_getElem hlt, ← h2]; rfl
  · rw [List.getD_eq_getElem?_getD, List.getElem?_eq_getElem hlt, ← h2]; rfl
theorem BO.pop {d : Int → Option Int} {q r : List Int} {p : Nat} {i : Int} (B : BO ini nb d q p) (hq : q.drop p = i :: r) : ∃ h, d i = some h ∧ BI ini nb d q (p + 1) h i [] := by
  obtain ⟨hlt, h1, h2, _⟩ := drop_cons hq
  have hiq : i ∈ q := List.mem_of_mem_drop (i := p) (by rw [hq]; simp)
  obtain ⟨h, hi⟩ := (B.mem i).1 hiq
  have hs := B.sort
  rw [hq] at hs
  obtain ⟨hs1, hs2⟩ := List.pairwise_cons.1 hs
  refine ⟨h, hi, B.sound, B.nd, B.mem, B.ini0, B.bnd, B.le i r hq h hi, fun j hj n hn => ?_, by rw [h1]; exact hs2, fun j hj k hk hpre => ?_, hi, by omega⟩
  · rw [h1] at hj; exact hs1 j hj h n hi hn
  · rw [h2] at hj
    rcases List.mem_append.1 hj with hj | hj
    · exact B.done j hj k hk
    · have := hpre (List.mem_singleton.1 hj); cases this
theorem BI.close {d : Int → Option Int} {q : List Int} {p : Nat} {h i : Int} {pre : List Int} (B : BI ini nb d q p h i pre) (hall : ∀ k ∈ nb i, k ∈ pre) : BO ini nb d q p := by
  refine ⟨B.sound, B.nd, B.mem, B.ini0, B.bnd, fun a r hq m hm j n hn => ?_, B.sort, fun j hj k hk => B.done j hj k hk (fun e => hall k (e ▸ hk)), B.here⟩
  have h1 := B.ge a (by rw [hq]; simp) m hm
  have h2 := B.le j n hn
  omega
theorem BO.dist {d : Int → Option Int} {q : List Int} {p : Nat} (B : BO ini nb d q p) (hp : q.drop p = []) (hsym : ∀ a b, b ∈ nb a → a ∈ nb b) : DistD ini nb d := by
  have ht : q.take p = q := List.take_of_length_le (List.drop_eq_nil_iff.1 hp)
  refine ⟨B.sound, ?_⟩
  intro i l
  induction l generalizing i with
  | nil => intro h; exact ⟨0, B.ini0 i h, by simp⟩
  | cons k r ih =>
    intro h
    obtain ⟨m, h1, h2⟩ := ih k h.2
    obtain ⟨n, m', h3, h4, h5⟩ := B.done k (by rw [ht]; exact (B.mem k).2 ⟨m, h1⟩) i (hsym i k h.1)
    rw [h1] at h3; cases h3
    exact ⟨m', h4, by simp; omega⟩
/-- One step nearer. -/
theorem DistD.next {d : Int → Option Int} (h : DistD ini nb d) {i n : Int} (hd : d i = some n) (h0 : 0 < n) : ∃ k ∈ nb i, d k = some (n - 1) := by
  obtain ⟨l, h1, h2⟩ := h.sound i n hd
  match l, h1, h2 with
  | [], _, h2 => simp at h2; omega
  | k :: r, h1, h2 =>
    obtain ⟨m, h3, h4⟩ := h.comp k r h1.2
    obtain ⟨l', h5, h6⟩ := h.sound k m h3
    obtain ⟨n', h7, h8⟩ := h.comp i (k :: l') ⟨h1.1, h5⟩
    rw [hd] at h7; cases h7
    simp at h2 h8
    exact ⟨k, h1.1, by rw [h3]; congr 1; omega⟩
theorem DistD.pos {d : Int → Option Int} (h : DistD ini nb d) {i n : Int} (hd : d i = some n) : 0 ≤ n := by
  obtain ⟨l, _, h2⟩ := h.sound i n hd; omega
end
/-- The first cells of a column that are wet, and the neighbours that are. -/
def iniW (W : Int) (n : Nat) (wet : Int → Bool) (col i : Int) : Bool := decide (0 ≤ i ∧ i < n) && (wet i && decide (i % W = col))
def nbW (W H : Int) (n : Nat) (wet : Int → Bool) (i : Int) : List Int := if decide (0 ≤ i ∧ i < n) && wet i then (nearL W H false i).filter wet else []
theorem iniW_in {W : Int} {n : Nat} {wet : Int → Bool} {col : Int} (i : Int) (h : iniW W n wet col i = true) : 0 ≤ i ∧ i < n := by
  unfold iniW at h; simp only [Bool.and_eq_true, decide_eq_true_eq] at h; exact h.1
theorem nbW_iff {W H : Int} {n : Nat} {wet : Int → Bool} {i k : Int} : k ∈ nbW W H n wet i ↔ (0 ≤ i ∧ i < n) ∧ wet i = true ∧ k ∈ nearL W H false i ∧ wet k = true := by
  unfold nbW
  split
  · rename_i h
    simp only [Bool.and_eq_true, decide_eq_true_eq] at h
    rw [List.mem_filter]
    exact ⟨fun hh => ⟨h.1, h.2, hh⟩, fun hh => hh.2.2⟩
  · rename_i h
    constructor
    · intro hh; cases hh
    · rintro ⟨h1, h2, _⟩; exact absurd (by rw [h2, dd_t h1]; rfl) h
theorem nbW_in {W H : Int} {n : Nat} {wet : Int → Bool} (hW : 0 < W) (hn : (n : Int) = W * H) (i k : Int) (h : k ∈ nbW W H n wet i) : (0 ≤ i ∧ i < n) ∧ 0 ≤ k ∧ k < n := by
  obtain ⟨h1, _, h2, _⟩ := nbW_iff.1 h
  have := near_in hW h2
  exact ⟨h1, by omega⟩
theorem nbW_sym {W H : Int} {n : Nat} {wet : Int → Bool} (hW : 0 < W) (hn : (n : Int) = W * H) (a b : Int) (h : b ∈ nbW W H n wet a) : a ∈ nbW W H n wet b := by
  obtain ⟨h1, h2, h3, h4⟩ := nbW_iff.1 h
  have := near_in hW h3
  exact nbW_iff.2 ⟨by omega, h4, near_symm hW h1.1 (by omega) h3, h2⟩
/-- How many steps it is to a column. -/
noncomputable def distW (W H : Int) (n : Nat) (wet : Int → Bool) (col : Int) : Int → Option Int := distO (iniW W n wet col) (nbW W H n wet)
theorem BO.len {W H : Int} {n : Nat} {wet : Int → Bool} {col : Int} (hW : 0 < W) (hn : (n : Int) = W * H) {d : Int → Option Int} {q : List Int} {p : Nat} (B : BO (iniW W n wet col) (nbW W H n wet) d q p) : q.length ≤ n ∧ ∀ x ∈ q, 0 ≤ x ∧ x < n := by
  have h : ∀ x ∈ q, 0 ≤ x ∧ x < n := fun x hx => by
    obtain ⟨m, hm⟩ := (B.mem x).1 hx
    obtain ⟨l, h1, _⟩ := B.sound x m hm
    exact walk_rng (n := n) iniW_in (nbW_in hW hn) h1 x (by simp)
  exact ⟨nodup_len n q B.nd h, h⟩
theorem BI.len {W H : Int} {n : Nat} {wet : Int → Bool} {col : Int} (hW : 0 < W) (hn : (n : Int) = W * H) {d : Int → Option Int} {q : List Int} {p : Nat} {h i : Int} {pre : List Int} (B : BI (iniW W n wet col) (nbW W H n wet) d q p h i pre) : q.length ≤ n ∧ ∀ x ∈ q, 0 ≤ x ∧ x < n := by
  have h : ∀ x ∈ q, 0 ≤ x ∧ x < n := fun x hx => by
    obtain ⟨m, hm⟩ := (B.mem x).1 hx
    obtain ⟨l, h1, _⟩ := B.sound x m hm
    exact walk_rng (n := n) iniW_in (nbW_in hW hn) h1 x (by simp)
  exact ⟨nodup_len n q B.nd h, h⟩
/-- What the column's cells give. -/
def iniQ (W : Int) (n : Nat) (wet : Int → Bool) (col : Int) (k : Nat) : List Int := ((List.range k).map (Nat.cast : Nat → Int)).filter (iniW W n wet col)
def iniD (W : Int) (n : Nat) (wet : Int → Bool) (col : Int) (k : Nat) (i : Int) : Option Int := if iniW W n wet col i && decide (i < k) then some 0 else none
theorem iniQ_t {W : Int} {n : Nat} {wet : Int → Bool} {col : Int} {k : Nat} (h : iniW W n wet col k = true) : iniQ W n wet col (k + 1) = iniQ W n wet col k ++ [(k : Int)] := by
  unfold iniQ; rw [List.range_succ, List.map_append, List.filter_append]; simp [h]
theorem iniQ_f {W : Int} {n : Nat} {wet : Int → Bool} {col : Int} {k : Nat} (h : iniW W n wet col k = false) : iniQ W n wet col (k + 1) = iniQ W n wet col k := by
  unfold iniQ; rw [List.range_succ, List.map_append, List.filter_append]; simp [h]
theorem iniQ_len (W : Int) (n : Nat) (wet : Int → Bool) (col : Int) (k : Nat) : (iniQ W n wet col k).length ≤ k := by
  unfold iniQ
  exact Nat.le_trans (List.length_filter_le _ _) (by simp)
theorem iniD_f {W : Int} {n : Nat} {wet : Int → Bool} {col : Int} {k : Nat} (h : iniW W n wet col k = false) : iniD W n wet col (k + 1) = iniD W n wet col k := by
  funext i; unfold iniD
  by_cases hi : i = k
  · subst hi; rw [h]; rfl
  · have : decide (i < ((k + 1 : Nat) : Int)) = decide (i < (k : Int)) := by rw [decide_eq_decide]; omega
    rw [this]
theorem iniD_t {W : Int} {n : Nat} {wet : Int → Bool} {col : Int} {k : Nat} (h : iniW W n wet col k = true) : iniD W n wet col (k + 1) = updI (iniD W n wet col k) k 0 := by
  funext i; unfold iniD updI
  by_cases hi : i = k
  · subst hi; rw [h]; simp; omega
  · have : decide (i < ((k + 1 : Nat) : Int)) = decide (i < (k : Int)) := by rw [decide_eq_decide]; omega
    rw [this, if_neg hi]
theorem iniB_o (W H : Int) (n : Nat) (wet : Int → Bool) (col : Int) : BO (iniW W n wet col) (nbW W H n wet) (iniD W n wet col n) (iniQ W n wet col n) 0 := by
  have hd : ∀ i m, iniD W n wet col n i = some m → iniW W n wet col i = true ∧ m = 0 := fun i m h => by
    unfold iniD at h
    split at h
    · rename_i hh
      simp only [Bool.and_eq_true] at hh
      cases h; exact ⟨hh.1, rfl⟩
    · cases h
  have hd' : ∀ i, iniW W n wet col i = true → iniD W n wet col n i = some 0 := fun i h => by
    unfold iniD; rw [h, dd_t (iniW_in i h).2]; rfl
  have hm : ∀ j, j ∈ iniQ W n wet col n ↔ iniW W n wet col j = true := fun j => by
    unfold iniQ
    rw [List.mem_filter, List.mem_map]
    constructor
    · exact fun h => h.2
    · intro h
      have := iniW_in j h
      exact ⟨⟨j.toNat, List.mem_range.2 (by omega), by simp; omega⟩, h⟩
  have hlen : ∀ j, iniW W n wet col j = true → 0 < (iniQ W n wet col n).length := fun j h => List.length_pos_of_mem ((hm j).2 h)
  refine ⟨fun j m h => ?_, ?_, fun j => ?_, hd', fun j m h => ?_, fun a r _ m h1 j m' h2 => ?_, ?_, fun j hj => by simp at hj, Nat.zero_le _⟩
  · obtain ⟨h1, rfl⟩ := hd j m h
    exact ⟨[], h1, rfl⟩
  · unfold iniQ
    refine List.Pairwise.filter _ ?_
    rw [List.pairwise_map]
    exact List.Pairwise.imp (fun {a b} h e => h (by omega)) (List.nodup_range (n := n))
  · rw [hm]
    exact ⟨fun h => ⟨0, hd' j h⟩, fun ⟨m, h⟩ => (hd j m h).1⟩
  · obtain ⟨h1, rfl⟩ := hd j m h
    have := hlen j h1; omega
  · have := (hd a m h1).2; have := (hd j m' h2).2; omega
  · refine List.pairwise_iff_getElem.2 fun _ _ _ _ _ m m' h1 h2 => ?_
    have := (hd _ m h1).2; have := (hd _ m' h2).2; omega
/-- The map that holds them. -/
def stepF (d : Int → Option Int) : MF := fun k => match k with
  | [i] => (match d i with | some w => some (.i w) | none => none)
  | _ => none
theorem stepF_some {d : Int → Option Int} {i : Int} {w : Int} (h : d i = some w) : stepF d [i] = some (.i w) := by simp only [stepF, h]
theorem stepF_none {d : Int → Option Int} {i : Int} (h : d i = none) : stepF d [i] = none := by simp only [stepF, h]
theorem stepF_upd (d : Int → Option Int) (i a : Int) : updF (stepF d) [i] (.i a) = stepF (updI d i a) := by
  funext k
  unfold updF
  match k with
  | [] => rfl
  | [j] =>
    by_cases h : j = i
    · subst h; simp [stepF, updI]
    · have : ¬ ([j] : List Int) = [i] := by simpa using h
      simp only [this, if_false, stepF, updI, h]
  | _ :: _ :: _ => simp [stepF]
theorem iniD_zero (W : Int) (n : Nat) (wet : Int → Bool) (col : Int) : (fun _ => none : MF) = stepF (iniD W n wet col 0) := by
  funext k
  match k with
  | [] => rfl
  | [j] =>
    have : iniD W n wet col 0 j = none := by
      unfold iniD
      rw [if_neg]
      intro h
      simp only [Bool.and_eq_true, decide_eq_true_eq] at h
      have := iniW_in j h.1; omega
    simp only [stepF, this]
  | _ :: _ :: _ => rfl
/-- The shortest channel that comes first: from which row, and the way. -/
def bestC (W : Int) (d : Int → Option Int) : Nat → Int
  | 0 => -1
  | k + 1 => match d (k * W) with
    | none => bestC W d k
    | some n => if bestC W d k < 0 then k * W else match d (bestC W d k) with
      | none => k * W
      | some b => if n < b then k * W else bestC W d k
theorem bestC_spec {W : Int} (hW : 0 < W) (d : Int → Option Int) : ∀ k : Nat, (bestC W d k = -1 ∧ ∀ j : Nat, j < k → d (j * W) = none) ∨ ∃ (b : Nat) (n : Int), bestC W d k = b * W ∧ b < k ∧ d (b * W) = some n
  | 0 => .inl ⟨rfl, fun j hj => by omega⟩
  | k + 1 => by
    simp only [bestC]
    cases hd : d (k * W) with
    | none =>
      rcases bestC_spec hW d k with ⟨h1, h2⟩ | ⟨b, n, h1, h2, h3⟩
      · exact .inl ⟨h1, fun j hj => by
          by_cases hjk : j = k
          · rw [hjk]; exact hd
          · exact h2 j (by omega)⟩
      · exact .inr ⟨b, n, h1, by omega, h3⟩
    | some m =>
      rcases bestC_spec hW d k with ⟨h1, h2⟩ | ⟨b, n, h1, h2, h3⟩
      · exact .inr ⟨k, m, by simp [h1], by omega, hd⟩
      · have h0 : ¬ ((b : Int) * W < 0) := by have : 0 ≤ (b : Int) * W := Int.mul_nonneg (by omega) (by omega); omega
        rw [h1]
        simp only [if_neg h0, h3]
        split
        · exact .inr ⟨k, m, rfl, by omega, hd⟩
        · exact .inr ⟨b, n, rfl, by omega, h3⟩
def nextC (W H : Int) (d : Int → Option Int) (i m : Int) : Option Int := (nearL W H false i).find? fun k => decide (d k = some m)
def pathC (W H : Int) (d : Int → Option Int) : Nat → Int → List Int
  | 0, i => [i]
  | f + 1, i => match d i with
    | none => [i]
    | some n => if n > 0 then (match nextC W H d i (n - 1) with
      | none => [i]
      | some k => i :: pathC W H d f k) else [i]
/-- The channel. -/
def chanD (W H : Int) (d : Int → Option Int) : Option (List Int) := match d (bestC W d H.toNat) with
  | none => none
  | some n => some (pathC W H d n.toNat (bestC W d H.toNat))
noncomputable def chanO (W H : Int) (n : Nat) (wet : Int → Bool) : Option (List Int) := chanD W H (distW W H n wet (W - 1))
theorem nextC_some {W H : Int} {n : Nat} {wet : Int → Bool} {col : Int} {i m : Int} (h : distW W H n wet col i = some m) (h0 : 0 < m) : ∃ k, nextC W H (distW W H n wet col) i (m - 1) = some k ∧ distW W H n wet col k = some (m - 1) ∧ k ∈ nearL W H false i := by
  obtain ⟨k, hk, hd⟩ := (distO_is (iniW W n wet col) (nbW W H n wet)).next h h0
  have hk2 := (nbW_iff.1 hk).2.2.1
  cases hf : nextC W H (distW W H n wet col) i (m - 1) with
  | none =>
    have := List.find?_eq_none.1 hf k hk2
    simp [distW, hd] at this
  | some k' =>
    have := List.find?_some hf
    simp only [decide_eq_true_eq] at this
    exact ⟨k', rfl, this, List.mem_of_find?_eq_some hf⟩
theorem distW_dom {W H : Int} {n : Nat} {wet : Int → Bool} {col : Int} (hW : 0 < W) (hn : (n : Int) = W * H) {i m : Int} (h : distW W H n wet col i = some m) : (0 ≤ i ∧ i < n) ∧ wet i = true := by
  obtain ⟨l, h1, _⟩ := (distO_is (iniW W n wet col) (nbW W H n wet)).sound i m h
  refine ⟨walk_rng (n := n) iniW_in (nbW_in hW hn) h1 i (by simp), ?_⟩
  match l, h1 with
  | [], h1 => 
    have h1 : iniW W n wet col i = true := h1
    unfold iniW at h1; simp only [Bool.and_eq_true] at h1; exact h1.2.1
  | k :: r, h1 => exact (nbW_iff.1 h1.1).2.1
/-- The steps are fewer than the cells. -/
theorem distW_bd {W H : Int} {n : Nat} {wet : Int → Bool} {col : Int} (hW : 0 < W) (hn : (n : Int) = W * H) {i m : Int} (h : distW W H n wet col i = some m) : 0 ≤ m ∧ m < n := by
  have hD := distO_is (iniW W n wet col) (nbW W H n wet)
  refine ⟨hD.pos h, ?_⟩
  obtain ⟨l, h1, _⟩ := hD.sound i m h
  obtain ⟨l', g1, g2, _, _⟩ := walk_short (cost := fun _ => 0) (fun _ => Int.le_refl _) l.length (Nat.le_refl _) h1
  have hl := nodup_len n _ g2 (walk_rng (n := n) iniW_in (nbW_in hW hn) g1)
  obtain ⟨m', h3, h4⟩ := hD.comp i l' g1
  have h : distO (iniW W n wet col) (nbW W H n wet) i = some m := h
  rw [h] at h3; cases h3
  simp at hl; omega
end Go.Proofs.Ytbhpnhcdjmcaoaa

/- Boom: how many steps it is over water from a column. -/
namespace Go.Proofs.Ytbhpnhcdjmcaoaa
open Go.RowKit
set_option linter.unusedVariables false
set_option linter.unusedSimpArgs false
def wetB (cs : List Int) (f : Int → Bool) (i : Int) : Bool := decide (cs.getD i.toNat 0 ≠ -1) && !f i
theorem walk_wet {W H : Int} {n : Nat} {wet : Int → Bool} {col : Int} {i : Int} : ∀ {l : List Int}, isWalk (iniW W n wet col) (nbW W H n wet) (i :: l) → wet i = true
  | [], h => by
    have h : iniW W n wet col i = true := h
    unfold iniW at h; simp only [Bool.and_eq_true] at h; exact h.2.1
  | k :: r, h => (nbW_iff.1 h.1).2.1
/-- One neighbour looked at. -/
def stepW (wet : Int → Bool) (h : Int) (st : (Int → Option Int) × List Int) (k : Int) : (Int → Option Int) × List Int :=
  match st.1 k with
  | none => if wet k then (updI st.1 k (h + 1), st.2 ++ [k]) else st
  | some _ => st
set_option maxRecDepth 10000 in
set_option maxHeartbeats 8000000 in
theorem from_spec (W H : Int) (cs : List Int) (f : Int → Bool) (col : Int) (hok : CO W H cs) (hcol : 0 ≤ col ∧ col < W) :
    Spec Try.prog 96 [chV W H cs.length, V.i col] [⟨0, .ro 0, cs.map C.i⟩, ⟨1, .mp false .int (bmF f), []⟩] 2 (fun v L' _ => ∃ l, v = V.c (.mp l) ∧ find L' l = some ⟨l, .mp true .int (stepF (distW W H cs.length (wetB cs f) col)), []⟩) := by
  have hlm : (cs.map C.i).length = cs.length := by simp
  obtain ⟨hW, hH, hcl, hcost⟩ := hok
  have hok : CO W H cs := ⟨hW, hH, hcl, hcost⟩
  have hn : (cs.length : Int) ≤ 100 := by have := Int.mul_le_mul hW.2 hH.2 (by omega) (by omega : (0:Int) ≤ 10); omega
  have hW0 : 0 < W := by omega
  refine Spec.of tok Try.func96 rfl rfl rfl fun n0 cx => vc_ok tok ?_
  repeat ((conv => whnf); first | (refine And.intro (by first | omega | exact Nat.le_of_ble_eq_true rfl) ?_) | refine Exists.intro _ (And.intro rfl ?_) | refine fun (K' : K3) hK' => ?_ | (refine hK' _ _ _ ?_; clear hK' K'))
  refine Tri.loop (γ := Nat × Nat) (fun g => g.1 ≤ cs.length ∧ (iniQ W cs.length (wetB cs f) col g.1).length = g.2) (fun g => [(1, V.i col), (2, V.c (.ptr 2 0)), (5, V.c (.ptr 4 0)), (6, V.c (.ptr 5 0)), (16, V.i cs.length), (17, V.i (g.1 : Nat))])
    (fun g => [⟨6, .vec 3 1, (iniQ W cs.length (wetB cs f) col g.1).map C.i⟩, ⟨5, .own 22, [.sl 6 g.2]⟩, ⟨4, .own 108, [.mp 3]⟩, ⟨3, .mp true .int (stepF (iniD W cs.length (wetB cs f) col g.1)), []⟩, ⟨2, .own 65, [C.i W, C.i H, .sl 0 cs.length, .mp 1]⟩, ⟨0, .ro 0, cs.map C.i⟩, ⟨1, .mp false .int (bmF f), []⟩]) 7 (fun g => cs.length - g.1) (0, 0) (R0 := [(6, none)]) ?_ ?_ ?_
  · exact ⟨Nat.zero_le _, rfl⟩
  · skip
    refine ⟨?_, ?_, rfl, rfl, by exact Nat.le_of_ble_eq_true rfl⟩
    · repeat (first | exact trivial | (refine And.intro (covS_syn (by rfl) rfl (by first | exact trivial | exact Nat.le_of_ble_eq_true rfl)) ?_))
    · repeat (first | exact trivial | refine And.intro (covE_mp rfl (Nat.le_of_ble_eq_true rfl) rfl (iniD_zero _ _ _ _)) ?_ | refine And.intro (covE_mp rfl (Nat.le_of_ble_eq_true rfl) rfl rfl) ?_ | refine And.intro (covE_nil rfl (Nat.le_of_ble_eq_true rfl) rfl rfl) ?_ | (refine And.intro (covE_some rfl (Nat.le_of_ble_eq_true rfl) (by first | exact wf_ints _ _ | simp [C.wf]) rfl (by first | exact ren_ints _ _ | rfl)) ?_))
  · rintro ⟨k, m⟩ ⟨hk, hm⟩
    simp only at hk hm ⊢
    refine vc_ok tok ?_
    by_cases hlt : k < cs.length
    · have hwt := wet_spec W H cs f k hlt (by omega)
      have hwe : wetB cs f (k : Int) = (decide (cs.getD k 0 ≠ -1) && !f k) := by simp [wetB]
      rw [← hwe] at hwt
      have hini : iniW W cs.length (wetB cs f) col (k : Int) = (wetB cs f (k : Int) && decide ((k : Int) % W = col)) := by
        unfold iniW; rw [dd_t (show (0 : Int) ≤ (k : Int) ∧ (k : Int) < (cs.length : Int) by omega), Bool.true_and]
      have hml := iniQ_len W cs.length (wetB cs f) col k
      by_cases h1 : (k : Int) % W = col
      · cases hw : wetB cs f (k : Int) with
        | true =>
          rw [hw] at hwt
          rw [hw, dd_t h1] at hini
          have hq := iniQ_t hini
          have hd : updF (stepF (iniD W cs.length (wetB cs f) col k)) [(k : Int)] (.i 0) = stepF (iniD W cs.length (wetB cs f) col (k + 1)) := by rw [stepF_upd, iniD_t hini]
          repeat ((conv => whnf); first | (refine And.intro (by first | omega | exact Nat.le_of_ble_eq_true rfl | (dsimp only [inK]; omega) | (exact ⟨rfl, rfl, rfl, Nat.le_of_ble_eq_true rfl, by simp; omega, by exact Nat.le_of_ble_eq_true rfl, by omega, Nat.le_of_ble_eq_true rfl⟩)) ?_) | refine Exists.intro _ (And.intro rfl ?_) | refine br_t (by omega) ?_ | refine fun (K' : K3) hK' => ?_ | (refine hK' _ _ _ ?_; clear hK' K') | refine CallK.val (R := []) hwt (by kernel_rfl) rfl (by simp [V.wf, A.wf, C.wf]) ⟨roE_ints (l := 0) rfl (by omega) rfl (.inl rfl), roE_map (l := 1) rfl (by omega) rfl, trivial⟩ rfl rfl trivial ?_ | refine br_bt (Eq.refl true) ?_ | refine CallK.m ?_)
          refine ⟨(k + 1, m + 1), [(6, some 8)], ⟨by simp only; omega, by simp only [hq, List.length_append, hm]; rfl⟩, by simp only; omega, ?_⟩
          refine ⟨?_, ?_, rfl, rfl, by exact Nat.le_of_ble_eq_true rfl⟩
          · repeat (first | exact trivial | (refine And.intro (covS_syn (by rfl) rfl (by first | exact trivial | exact Nat.le_of_ble_eq_true rfl)) ?_))
          · repeat (first | exact trivial | refine And.intro (covE_mp rfl (Nat.le_of_ble_eq_true rfl) rfl hd) ?_ | refine And.intro (covE_mp rfl (Nat.le_of_ble_eq_true rfl) rfl rfl) ?_ | (refine And.intro (covE_some rfl (Nat.le_of_ble_eq_true rfl) (by first | exact wf_ints _ _ | simp [C.wf]) rfl (by first | exact ren_ints _ _ | (refine (ren_ints _ _).trans (congrArg some ?_); rw [hq, List.map_append]; rfl) | rfl)) ?_))
        | false =>
          rw [hw] at hwt
          rw [hw] at hini
          have hq := iniQ_f hini
          have hd := iniD_f hini
          repeat ((conv => whnf); first | (refine And.intro (by first | omega | exact Nat.le_of_ble_eq_true rfl | (dsimp only [inK]; omega)) ?_) | refine Exists.intro _ (And.intro rfl ?_) | refine br_t (by omega) ?_ | refine fun (K' : K3) hK' => ?_ | (refine hK' _ _ _ ?_; clear hK' K') | refine CallK.val (R := []) hwt (by kernel_rfl) rfl (by simp [V.wf, A.wf, C.wf]) ⟨roE_ints (l := 0) rfl (by omega) rfl (.inl rfl), roE_map (l := 1) rfl (by omega) rfl, trivial⟩ rfl rfl trivial ?_ | refine br_bf (Eq.refl false) ?_ | refine CallK.m ?_)
          refine ⟨(k + 1, m), [], ⟨by simp only; omega, by simp only [hq]; exact hm⟩, by simp only; omega, ?_⟩
          refine ⟨?_, ?_, rfl, rfl, by exact Nat.le_of_ble_eq_true rfl⟩
          · repeat (first | exact trivial | (refine And.intro (covS_syn (by rfl) rfl (by first | exact trivial | exact Nat.le_of_ble_eq_true rfl)) ?_))
          · repeat (first | exact trivial | refine And.intro (covE_mp rfl (Nat.le_of_ble_eq_true rfl) rfl (congrArg stepF hd.symm)) ?_ | refine And.intro (covE_mp rfl (Nat.le_of_ble_eq_true rfl) rfl rfl) ?_ | (refine And.intro (covE_id (Nat.le_of_ble_eq_true rfl) (by first | exact wf_ints _ _ | simp [C.wf]) rfl (by first | rfl | exact congrArg (List.map C.i) hq.symm)) ?_))
      · rw [dd_f h1, Bool.and_false] at hini
        have hq := iniQ_f hini
        have hd := iniD_f hini
        repeat ((conv => whnf); first | (refine And.intro (by first | omega | exact Nat.le_of_ble_eq_true rfl | (dsimp only [inK]; omega)) ?_) | refine Exists.intro _ (And.intro rfl ?_) | refine br_t (by omega) ?_ | refine br_f (by omega) ?_ | refine fun (K' : K3) hK' => ?_ | (refine hK' _ _ _ ?_; clear hK' K'))
        refine ⟨(k + 1, m), [], ⟨by simp only; omega, by simp only [hq]; exact hm⟩, by simp only; omega, ?_⟩
        refine ⟨?_, ?_, rfl, rfl, by exact Nat.le_of_ble_eq_true rfl⟩
        · repeat (first | exact trivial | (refine And.intro (covS_syn (by rfl) rfl (by first | exact trivial | exact Nat.le_of_ble_eq_true rfl)) ?_))
        · repeat (first | exact trivial | refine And.intro (covE_mp rfl (Nat.le_of_ble_eq_true rfl) rfl (congrArg stepF hd.symm)) ?_ | refine And.intro (covE_mp rfl (Nat.le_of_ble_eq_true rfl) rfl rfl) ?_ | (refine And.intro (covE_id (Nat.le_of_ble_eq_true rfl) (by first | exact wf_ints _ _ | simp [C.wf]) rfl (by first | rfl | exact congrArg (List.map C.i) hq.symm)) ?_))
    · have hkn : k = cs.length := by omega
      subst hkn
      have hB0 := iniB_o W H cs.length (wetB cs f) col
      repeat ((conv => whnf); first | refine br_f (by omega) ?_ | refine fun (K' : K3) hK' => ?_ | (refine hK' _ _ _ ?_; clear hK' K'))
      refine Tri.loop (γ := ((Int → Option Int) × List Int) × (Nat × Nat)) (fun g => BO (iniW W cs.length (wetB cs f) col) (nbW W H cs.length (wetB cs f)) g.1.1 g.1.2 g.2.1 ∧ (g.1.2.drop g.2.1).length = g.2.2) (fun g => [(2, V.c (.ptr 2 0)), (5, V.c (.ptr 4 0)), (6, V.c (.ptr 5 0))])
        (fun g => [⟨6, .vec 3 1, (g.1.2.drop g.2.1).map C.i⟩, ⟨5, .own 22, [.sl 6 g.2.2]⟩, ⟨4, .own 108, [.mp 3]⟩, ⟨3, .mp true .int (stepF g.1.1), []⟩, ⟨2, .own 65, [C.i W, C.i H, .sl 0 cs.length, .mp 1]⟩, ⟨0, .ro 0, cs.map C.i⟩, ⟨1, .mp false .int (bmF f), []⟩]) 11 (fun g => cs.length - g.2.1) ((iniD W cs.length (wetB cs f) col cs.length, iniQ W cs.length (wetB cs f) col cs.length), (0, m)) (R0 := []) ?_ ?_ ?_
      · exact ⟨hB0, hm⟩
      · skip
        refine ⟨?_, ?_, rfl, rfl, by exact Nat.le_of_ble_eq_true rfl⟩
        · repeat (first | exact trivial | refine And.intro (covS_syn (by rfl) rfl (by exact Nat.le_of_ble_eq_true rfl)) ?_)
        · repeat (first | exact trivial | refine And.intro (covE_mp rfl (Nat.le_of_ble_eq_true rfl) rfl rfl) ?_ | (refine And.intro (covE_id (Nat.le_of_ble_eq_true rfl) (by first | exact wf_ints _ _ | simp [C.wf]) rfl (by rfl)) ?_))
      · rintro ⟨⟨d, q⟩, ⟨p, m⟩⟩ ⟨hB, hm⟩
        simp only at hB hm ⊢
        refine vc_ok tok ?_
        obtain ⟨hql, hqin⟩ := hB.len hW0 hcl
        cases hq : q.drop p with
        | nil =>
          rw [hq] at hm
          have hm0 : m = 0 := by simpa using hm.symm
          subst hm0
          have hfin : d = distW W H cs.length (wetB cs f) col := (hB.dist hq (nbW_sym hW0 hcl)).unique (distO_is _ _)
          repeat ((conv => whnf); first | refine Exists.intro _ (And.intro rfl ?_) | refine br_f (by omega) ?_ | refine fun (K' : K3) hK' => ?_ | (refine hK' _ _ _ ?_; clear hK' K'))
          exact congrArg (fun x => some (⟨3, .mp true .int (stepF x), []⟩ : E)) hfin
        | cons i r =>
          rw [hq] at hm
          have hm1 : m = r.length + 1 := by simpa using hm.symm
          subst hm1
          obtain ⟨h, hdi, hI0⟩ := hB.pop hq
          obtain ⟨hplt, hd1, _, _⟩ := drop_cons hq
          have hiq : i ∈ q := List.mem_of_mem_drop (i := p) (by rw [hq]; simp)
          have hir := hqin i hiq
          have hwi : wetB cs f i = true := by
            obtain ⟨l, h1, _⟩ := hB.sound i h hdi
            exact walk_wet h1
          have hrl : r.length ≤ 100 := by rw [← hd1, List.length_drop]; omega
          obtain ⟨fs, hfs⟩ : ∃ fs : List Int → (Int → Option Int) × List Int, fs = fun pre => pre.foldl (stepW (wetB cs f) h) (d, q) := ⟨_, rfl⟩
          have hfs0 : fs [] = (d, q) := by rw [hfs]; rfl
          have hfss : ∀ pre k, fs (pre ++ [k]) = stepW (wetB cs f) h (fs pre) k := fun pre k => by rw [hfs]; simp
          obtain ⟨wk, hwk⟩ : ∃ wk : List Int → List Int, wk = fun pre => (fs pre).2.drop (p + 1) := ⟨_, rfl⟩
          have hwk0 : wk [] = r := by rw [hwk]; simp only [hfs0]; exact hd1
          have hwkd : ∀ pre, wk pre = (fs pre).2.drop (p + 1) := fun pre => by rw [hwk]
          clear hfs hwk
          repeat ((conv => whnf); first | (refine And.intro (by first | omega | exact Nat.le_of_ble_eq_true rfl | (simp only [setL_length, List.length_map]; omega)) ?_) | refine Exists.intro _ (And.intro rfl ?_) | refine br_t (by omega) ?_ | refine fun (K' : K3) hK' => ?_ | (refine hK' _ _ _ ?_; clear hK' K') | refine Two.r ?_ | refine And.intro (by refine ⟨rfl, Nat.le_of_ble_eq_true rfl, by omega, by simp, by simp⟩) ?_ | refine CallK.fresh (by kernel_rfl) (near_spec _ _ _ _) rfl ?_ | refine CallK.m ?_)
          refine Tri.opq fun K' hK' => ?_
          refine Tri.near (R0 := [(20, some 12)]) (W := W) (H := H) (n := cs.length) (i := i) (e := false) (fun pre => BI (iniW W cs.length (wetB cs f) col) (nbW W H cs.length (wetB cs f)) (fs pre).1 (fs pre).2 (p + 1) h i pre)
            (fun pre => [⟨20, .vec 3 1, (wk pre).map C.i⟩, ⟨11, .own 3, [C.i i]⟩, ⟨5, .own 22, [.sl 20 (wk pre).length]⟩, ⟨4, .own 108, [.mp 3]⟩, ⟨3, .mp true .int (stepF (fs pre).1), []⟩, ⟨2, .own 65, [C.i W, C.i H, .sl 0 cs.length, .mp 1]⟩, ⟨0, .ro 0, cs.map C.i⟩, ⟨1, .mp false .int (bmF f), []⟩])
            (by rw [hfs0]; exact hI0) (by omega) (by omega) (by omega) (by exact rfl) (by exact rfl) (by exact rfl) ?_ ?_ ?_
          · intro oo
            simp only [hwk0, hfs0]
            refine ⟨?_, ?_, rfl, rfl, by exact Nat.le_of_ble_eq_true rfl⟩
            · repeat (exact trivial)
            · repeat (first | exact trivial | refine And.intro (covE_bR (b := false) rfl (Nat.le_of_ble_eq_true rfl) rfl rfl rfl) ?_ | refine And.intro (covE_mp rfl (Nat.le_of_ble_eq_true rfl) rfl rfl) ?_ | (refine And.intro (covE_some rfl (Nat.le_of_ble_eq_true rfl) (by first | exact wf_ints _ _ | simp [C.wf]) rfl (by first | exact ren_ints _ _ | rfl)) ?_))
          · intro oo ob od pre post kk hsp hk0 hk1 hI cxb hcx
            obtain ⟨hql2, hqin2⟩ := hI.len hW0 hcl
            have hnk : kk ∈ nearL W H false i := by rw [hsp]; simp
            obtain ⟨k, rfl⟩ : ∃ k : Nat, kk = k := ⟨kk.toNat, by omega⟩
            have hkl : k < cs.length := by omega
            have hwt := wet_spec W H cs f k hkl (by omega)
            have hwe : wetB cs f (k : Int) = (decide (cs.getD k 0 ≠ -1) && !f k) := by simp [wetB]
            rw [← hwe] at hwt
            have hcur := hI.cur
            have hhb := hI.bnd i h hcur
            have hst := hfss pre (k : Int)
            have hwd := hwkd pre
            have hwl : (wk pre).length ≤ 100 := by rw [hwd, List.length_drop]; omega
            have hhere := hI.here
            refine vc_ok tok ?_
            repeat ((conv => whnf); first | refine fun (K' : K3) hK' => ?_ | (refine hK' _ _ _ ?_; clear hK' K') | refine And.intro (Eq.refl oo) ?_)
            refine vc_ok tok ?_
            cases hdk : (fs pre).1 (k : Int) with
            | some x =>
              have e : fs (pre ++ [(k : Int)]) = fs pre := by rw [hst]; unfold stepW; rw [hdk]
              have e2 : wk (pre ++ [(k : Int)]) = wk pre := by rw [hwkd, e, hwd]
              repeat ((conv => whnf); first | refine And.intro (by omega) ?_ | with_reducible refine lkm (stepF_some hdk) ?_ | refine Exists.intro _ (And.intro rfl ?_) | refine fun (K' : K3) hK' => ?_ | (refine hK' _ _ _ ?_; clear hK' K') | refine And.intro (Eq.refl ob) ?_)
              refine .inl ⟨rfl, by rw [e]; exact hI.keep fun _ => ⟨x, hdk⟩, [], rfl, ?_⟩
              rw [e2, e]
              refine ⟨?_, ?_, rfl, rfl, by exact Nat.le_of_ble_eq_true rfl⟩
              · repeat (exact trivial)
              · repeat (first | exact trivial | refine And.intro (covE_mp rfl (Nat.le_of_ble_eq_true rfl) rfl rfl) ?_ | (refine And.intro (covE_id (Nat.le_of_ble_eq_true rfl) (by first | exact wf_ints _ _ | simp [C.wf]) rfl (by rfl)) ?_))
            | none =>
              cases hw : wetB cs f (k : Int) with
              | false =>
                rw [hw] at hwt
                have e : fs (pre ++ [(k : Int)]) = fs pre := by rw [hst]; unfold stepW; rw [hdk]; simp only [hw]; rfl
                have e2 : wk (pre ++ [(k : Int)]) = wk pre := by rw [hwkd, e, hwd]
                repeat ((conv => whnf); first | refine And.intro (by omega) ?_ | with_reducible refine lkm (stepF_none hdk) ?_ | refine Exists.intro _ (And.intro rfl ?_) | refine fun (K' : K3) hK' => ?_ | (refine hK' _ _ _ ?_; clear hK' K') | refine CallK.val (R := []) hwt (by kernel_rfl) rfl (by simp [V.wf, A.wf, C.wf]) ⟨roE_ints (l := 0) rfl (by omega) rfl (.inl rfl), roE_map (l := 1) rfl (by omega) rfl, trivial⟩ rfl rfl trivial ?_ | refine And.intro (Eq.refl ob) ?_ | refine br_bf (Eq.refl false) ?_ | refine CallK.m ?_)
                refine .inl ⟨rfl, by rw [e]; exact hI.keep fun hh => absurd (nbW_iff.1 hh).2.2.2 (by rw [hw]; simp), [], rfl, ?_⟩
                rw [e2, e]
                refine ⟨?_, ?_, rfl, rfl, by exact Nat.le_of_ble_eq_true rfl⟩
                · repeat (exact trivial)
                · repeat (first | exact trivial | refine And.intro (covE_mp rfl (Nat.le_of_ble_eq_true rfl) rfl rfl) ?_ | (refine And.intro (covE_id (Nat.le_of_ble_eq_true rfl) (by first | exact wf_ints _ _ | simp [C.wf]) rfl (by rfl)) ?_))
              | true =>
                rw [hw] at hwt
                have hni : (k : Int) ∈ nbW W H cs.length (wetB cs f) i := nbW_iff.2 ⟨hir, hwi, hnk, hw⟩
                have e : fs (pre ++ [(k : Int)]) = (updI (fs pre).1 (k : Int) (h + 1), (fs pre).2 ++ [(k : Int)]) := by rw [hst]; unfold stepW; rw [hdk]; simp only [hw]; rfl
                have e2 : wk (pre ++ [(k : Int)]) = wk pre ++ [(k : Int)] := by rw [hwkd, e, hwd]; exact List.drop_append_of_le_length hhere
                have hd : updF (stepF (fs pre).1) [(k : Int)] (.i (h + 1)) = stepF (updI (fs pre).1 (k : Int) (h + 1)) := stepF_upd _ _ _
                have hput := hI.put hdk hni (nbW_sym hW0 hcl _ _ hni)
                repeat ((conv => whnf); first | (refine And.intro (by first | omega | exact Nat.le_of_ble_eq_true rfl | (dsimp only [inK]; omega) | (exact ⟨rfl, rfl, rfl, Nat.le_of_ble_eq_true rfl, by simp; done, by exact Nat.le_of_ble_eq_true rfl, by omega, Nat.le_of_ble_eq_true rfl⟩)) ?_) | with_reducible refine lkm (stepF_none hdk) ?_ | with_reducible refine lkm (stepF_some hcur) ?_ | refine Exists.intro _ (And.intro rfl ?_) | refine fun (K' : K3) hK' => ?_ | (refine hK' _ _ _ ?_; clear hK' K') | refine CallK.val (R := []) hwt (by kernel_rfl) rfl (by simp [V.wf, A.wf, C.wf]) ⟨roE_ints (l := 0) rfl (by omega) rfl (.inl rfl), roE_map (l := 1) rfl (by omega) rfl, trivial⟩ rfl rfl trivial ?_ | refine And.intro (Eq.refl ob) ?_ | refine br_bt (Eq.refl true) ?_ | refine CallK.m ?_)
                refine .inl ⟨rfl, by rw [e]; exact hput, [(20, some 42)], rfl, ?_⟩
                rw [e2, e, List.length_append]
                refine ⟨?_, ?_, rfl, rfl, by exact Nat.le_of_ble_eq_true rfl⟩
                · repeat (exact trivial)
                · repeat (first | exact trivial | refine And.intro (covE_bR (b := false) rfl (Nat.le_of_ble_eq_true rfl) rfl rfl rfl) ?_ | refine And.intro (covE_mp rfl (Nat.le_of_ble_eq_true rfl) rfl hd) ?_ | refine And.intro (covE_mp rfl (Nat.le_of_ble_eq_true rfl) rfl rfl) ?_ | (refine And.intro (covE_some rfl (Nat.le_of_ble_eq_true rfl) (by first | exact wf_ints _ _ | simp [C.wf]) rfl (by first | exact ren_ints _ _ | (refine (ren_ints _ _).trans (congrArg some ?_); rw [List.map_append]; rfl) | rfl)) ?_))
          · intro oo od hI
            refine Or.inl ?_
            refine And.intro rfl ?_
            conv => whnf
            refine hK' _ _ _ _ ?_
            repeat ((conv => whnf); refine And.intro (by omega) ?_)
            have hBn := hI.close fun k hk => (nbW_iff.1 hk).2.2.1
            refine ⟨(((fs (nearL W H false i)).1, (fs (nearL W H false i)).2), (p + 1, (wk (nearL W H false i)).length)), [(6, some 20)], ⟨hBn, by rw [hwkd]⟩, by simp only; omega, ?_⟩
            rw [hwkd]
            refine ⟨?_, ?_, rfl, rfl, by exact Nat.le_of_ble_eq_true rfl⟩
            · repeat (first | exact trivial | refine And.intro (covS_syn (by rfl) rfl (by exact Nat.le_of_ble_eq_true rfl)) ?_)
            · repeat (first | exact trivial | refine And.intro (covE_mp rfl (Nat.le_of_ble_eq_true rfl) rfl rfl) ?_ | (refine And.intro (covE_some rfl (Nat.le_of_ble_eq_true rfl) (by first | exact wf_ints _ _ | simp [C.wf]) rfl (by first | exact ren_ints _ _ | rfl)) ?_))
end Go.Proofs.Ytbhpnhcdjmcaoaa

/- Boom: Barrier, the program's and the reference's; lists of cells that are the same. -/
namespace Go.Proofs.Ytbhpnhcdjmcaoaa
open Go.RowKit
set_option linter.unusedVariables false
set_option linter.unusedSimpArgs false
def barC (W H : Int) (cs : List Int) : List Cell := if okC W H cs then (match barO W H cs with | none => [] | some (l, _) => cellsL W l) else []
def barE (W H : Int) (cs : List Int) : Int := if okC W H cs then (match barO W H cs with | none => 5 | some _ => 0) else 30
section
variable {P : Program} {n0 nx nac : Nat} {f : FuncId} {vs vs' : List V} {Lc L : List E} {R : Rn} {K : V → List E → Nat → Prop}
end
/-- The first of some neighbours from which the rest goes on; -1: none does. -/
def nextF (d : Int → Option Way) (rest : Way) (l : List Int) : Int := match l.find? (fun k => decide (d k = some rest)) with
  | some k => k
  | none => -1
def sameB (a b : List Cell) : Bool := decide (a.length = b.length) && (List.range a.length).all fun k => decide (a.getD k cz = b.getD k cz)
end Go.Proofs.Ytbhpnhcdjmcaoaa

/- Boom: the shortest channel that comes first, and whether booms block. -/
namespace Go.Proofs.Ytbhpnhcdjmcaoaa
open Go.RowKit
set_option linter.unusedVariables false
set_option linter.unusedSimpArgs false
/-- What channel gives back. -/
def chanR (o : Option (List Int)) (v : V) (L' : List E) : Prop :=
  match o with
  | none => v = V.tup [A.c .nil, A.c .ff]
  | some l => ∃ lab, v = V.tup [A.c (.sl lab l.length), A.c .tt] ∧ find L' lab = some ⟨lab, .vec 3 1, l.map C.i⟩
section
variable {P : Program} {n0 nx nac : Nat} {f : FuncId} {vs vs' : List V} {Lc L : List E} {R : Rn} {K : V → List E → Nat → Prop}
theorem CallK.chanN {o : Option (List Int)} (ho : o = none) (spec : Spec P f vs Lc nac (fun v L' _ => chanR o v L')) (hok : callB P f = true)
    (hv : renVs R vs = some vs') (hvw : ∀ v ∈ vs, v.wf nac) (hL : roL R nac L Lc) (hLc : injB [] Lc = true)
    (hK : K (V.tup [A.c .nil, A.c .ff]) [] nx) : CallK P n0 f vs' L nx K := by
  refine CallK.mk' hok spec hv hvw hL hLc ?_
  intro v L' nx' hw hq
  subst ho
  have hq : v = V.tup [A.c .nil, A.c .ff] := hq
  subst hq
  exact ⟨V.tup [A.c .nil, A.c .ff], [], nx, [], ⟨Nat.le_refl _, rfl, rfl, trivial, rfl, rfl⟩, hK⟩
theorem CallK.chanS {o : Option (List Int)} {l : List Int} (ho : o = some l) (spec : Spec P f vs Lc nac (fun v L' _ => chanR o v L')) (hok : callB P f = true)
    (hv : renVs R vs = some vs') (hvw : ∀ v ∈ vs, v.wf nac) (hL : roL R nac L Lc) (hLc : injB [] Lc = true)
    (hK : K (V.tup [A.c (.sl nx l.length), A.c .tt]) [⟨nx, .vec 3 1, l.map C.i⟩] (nx + 1)) : CallK P n0 f vs' L nx K := by
  refine CallK.mk' hok spec hv hvw hL hLc ?_
  intro v L' nx' hw hq
  subst ho
  obtain ⟨lab, rfl, hf⟩ := hq
  refine ⟨V.tup [A.c (.sl nx l.length), A.c .tt], [⟨nx, .vec 3 1, l.map C.i⟩], nx + 1, [(nx, some lab)], ⟨Nat.le_succ _, ?_, ?_, ⟨covE_some (renL_one _ _) (Nat.lt_succ_self nx) (wf_ints _ _) hf (ren_ints _ _), trivial⟩, rfl, ?_⟩, hK⟩
  · simp [V.ren, A.ren, C.ren, renL_one, seqO]
  · simp [V.chk, A.chk, C.chk, inLab_one]
  · simp only [List.all_cons, List.all_nil, Bool.and_true, inLab_one, Kd.isRo, Bool.not_false, Bool.true_and]
    exact chk_ints _ _
end
set_option maxRecDepth 10000 in
set_option maxHeartbeats 8000000 in
theorem channel_spec (W H : Int) (cs : List Int) (f : Int → Bool) (hok : CO W H cs) :
    Spec Try.prog 85 [chV W H cs.length] [⟨0, .ro 0, cs.map C.i⟩, ⟨1, .mp false .int (bmF f), []⟩] 2 (fun v L' _ => chanR (chanO W H cs.length (wetB cs f)) v L') := by
  have hlm : (cs.map C.i).length = cs.length := by simp
  obtain ⟨hW, hH, hcl, hcost⟩ := hok
  have hok : CO W H cs := ⟨hW, hH, hcl, hcost⟩
  have hn : (cs.length : Int) ≤ 100 := by have := Int.mul_le_mul hW.2 hH.2 (by omega) (by omega : (0:Int) ≤ 10); omega
  obtain ⟨h0, rfl⟩ : ∃ h0 : Nat, H = h0 := ⟨H.toNat, by omega⟩
  have hW0 : 0 < W := by omega
  have hfr := from_spec W h0 cs f (W - 1) hok (by omega)
  have hcho : chanO W h0 cs.length (wetB cs f) = chanD W h0 (distW W h0 cs.length (wetB cs f) (W - 1)) := rfl
  have hdom : ∀ {i m : Int}, distW W h0 cs.length (wetB cs f) (W - 1) i = some m → 0 ≤ i ∧ i < cs.length := fun h => (distW_dom hW0 hcl h).1
  have hbd : ∀ {i m : Int}, distW W h0 cs.length (wetB cs f) (W - 1) i = some m → 0 ≤ m ∧ m < cs.length := fun h => distW_bd hW0 hcl h
  have hnx : ∀ {i m : Int}, distW W h0 cs.length (wetB cs f) (W - 1) i = some m → 0 < m → ∃ k, nextC W h0 (distW W h0 cs.length (wetB cs f) (W - 1)) i (m - 1) = some k ∧ distW W h0 cs.length (wetB cs f) (W - 1) k = some (m - 1) ∧ k ∈ nearL W h0 false i := fun h h1 => nextC_some h h1
  obtain ⟨d, hd⟩ : ∃ d, d = distW W h0 cs.length (wetB cs f) (W - 1) := ⟨_, rfl⟩
  rw [← hd] at hcho hfr
  simp only [← hd] at hdom hbd hnx
  rw [hcho]
  unfold chanD
  rw [Int.toNat_natCast]
  clear hcho
  refine Spec.of tok Try.func85 rfl rfl rfl fun n0 cx => vc_ok tok ?_
  repeat ((conv => whnf); first | (refine And.intro (by first | omega | exact Nat.le_of_ble_eq_true rfl | (dsimp only [inK]; omega)) ?_) | refine Exists.intro _ (And.intro rfl ?_) | refine fun (K' : K3) hK' => ?_ | (refine hK' _ _ _ ?_; clear hK' K') | refine CallK.mapR (R := []) hfr (by kernel_rfl) rfl (by simp [V.wf, A.wf, C.wf, V.i]) ⟨roE_ints (l := 0) rfl (by omega) rfl (.inl rfl), roE_map (l := 1) rfl (by omega) rfl, trivial⟩ rfl ?_ | refine CallK.m ?_)
  refine Tri.loop (γ := Nat) (fun k => k ≤ h0) (fun k => [(1, V.c (.ptr 2 0)), (4, V.c (.ptr 4 0)), (5, V.i (bestC W d k)), (23, V.i h0), (24, V.i (k : Nat))])
    (fun k => [⟨4, .own 108, [.mp 3]⟩, ⟨3, .mp true .int (stepF d), []⟩, ⟨2, .own 65, [C.i W, C.i h0, .sl 0 cs.length, .mp 1]⟩, ⟨0, .ro 0, cs.map C.i⟩, ⟨1, .mp false .int (bmF f), []⟩]) 5 (fun k => h0 - k) 0 (R0 := []) ?_ ?_ ?_
  · omega
  · skip
    refine ⟨?_, ?_, rfl, rfl, by exact Nat.le_of_ble_eq_true rfl⟩
    · repeat (first | exact trivial | (refine And.intro (covS_syn (by rfl) rfl (by first | exact trivial | exact Nat.le_of_ble_eq_true rfl)) ?_))
    · repeat (first | exact trivial | refine And.intro (covE_mp rfl (Nat.le_of_ble_eq_true rfl) rfl rfl) ?_ | (refine And.intro (covE_id (Nat.le_of_ble_eq_true rfl) (by first | exact wf_ints _ _ | simp [C.wf]) rfl (by rfl)) ?_))
  · intro k hk
    refine vc_ok tok ?_
    by_cases hlt : k < h0
    · have hkw : 0 ≤ (k : Int) * W ∧ (k : Int) * W ≤ 100 := by
        have h1 : 0 ≤ (k : Int) * W := Int.mul_nonneg (by omega) (by omega)
        have h2 := Int.mul_le_mul (show (k : Int) ≤ 10 by omega) hW.2 (by omega) (by omega : (0:Int) ≤ 10)
        omega
      cases hdk : d ((k : Int) * W) with
      | none =>
        have hst : bestC W d (k + 1) = bestC W d k := by simp only [bestC, hdk]
        repeat ((conv => whnf); first | (refine And.intro (by first | omega | exact Nat.le_of_ble_eq_true rfl | (dsimp only [inK]; omega)) ?_) | with_reducible refine lkm (stepF_none hdk) ?_ | refine Exists.intro _ (And.intro rfl ?_) | refine br_t (by omega) ?_ | refine fun (K' : K3) hK' => ?_ | (refine hK' _ _ _ ?_; clear hK' K'))
        refine ⟨k + 1, [], by omega, by omega, ?_⟩
        refine ⟨?_, ?_, rfl, rfl, by exact Nat.le_of_ble_eq_true rfl⟩
        · repeat (first | exact trivial | (refine And.intro (covS_syn (by first | rfl | (refine congrArg some (congrArg V.i ?_); first | omega | exact hst.symm)) rfl (by first | exact trivial | exact Nat.le_of_ble_eq_true rfl)) ?_))
        · repeat (first | exact trivial | refine And.intro (covE_mp rfl (Nat.le_of_ble_eq_true rfl) rfl rfl) ?_ | (refine And.intro (covE_id (Nat.le_of_ble_eq_true rfl) (by first | exact wf_ints _ _ | simp [C.wf]) rfl (by rfl)) ?_))
      | some n =>
        have hb1 := hbd hdk
        rcases bestC_spec hW0 d k with ⟨h1, h2⟩ | ⟨b, n', h1, h2, h3⟩
        · have hst : bestC W d (k + 1) = k * W := by simp only [bestC, hdk, h1]; simp
          rw [h1]
          repeat ((conv => whnf); first | (refine And.intro (by first | omega | exact Nat.le_of_ble_eq_true rfl | (dsimp only [inK]; omega)) ?_) | with_reducible refine lkm (stepF_some hdk) ?_ | refine Exists.intro _ (And.intro rfl ?_) | refine br_t (by omega) ?_ | refine bs_t (by omega) ?_ | refine fun (K' : K3) hK' => ?_ | (refine hK' _ _ _ ?_; clear hK' K'))
          refine ⟨k + 1, [], by omega, by omega, ?_⟩
          refine ⟨?_, ?_, rfl, rfl, by exact Nat.le_of_ble_eq_true rfl⟩
          · repeat (first | exact trivial | (refine And.intro (covS_syn (by first | rfl | (refine congrArg some (congrArg V.i ?_); first | omega | exact hst.symm)) rfl (by first | exact trivial | exact Nat.le_of_ble_eq_true rfl)) ?_))
          · repeat (first | exact trivial | refine And.intro (covE_mp rfl (Nat.le_of_ble_eq_true rfl) rfl rfl) ?_ | (refine And.intro (covE_id (Nat.le_of_ble_eq_true rfl) (by first | exact wf_ints _ _ | simp [C.wf]) rfl (by rfl)) ?_))
        · have hb2 := hbd h3
          have hbw := hdom h3
          have hst : bestC W d (k + 1) = if n < n' then (k : Int) * W else (b : Int) * W := by
            simp only [bestC, hdk, h1, h3]; rw [if_neg (by omega)]
          rw [h1]
          by_cases hl : n < n'
          · rw [if_pos hl] at hst
            repeat ((conv => whnf); first | (refine And.intro (by first | omega | exact Nat.le_of_ble_eq_true rfl | (dsimp only [inK]; omega)) ?_) | with_reducible refine lkm (stepF_some hdk) ?_ | with_reducible refine lkm (stepF_some h3) ?_ | refine Exists.intro _ (And.intro rfl ?_) | refine br_t (by omega) ?_ | refine bs_f (by omega) ?_ | refine fun (K' : K3) hK' => ?_ | (refine hK' _ _ _ ?_; clear hK' K'))
            refine ⟨k + 1, [], by omega, by omega, ?_⟩
            refine ⟨?_, ?_, rfl, rfl, by exact Nat.le_of_ble_eq_true rfl⟩
            · repeat (first | exact trivial | (refine And.intro (covS_syn (by first | rfl | (refine congrArg some (congrArg V.i ?_); first | omega | exact hst.symm)) rfl (by first | exact trivial | exact Nat.le_of_ble_eq_true rfl)) ?_))
            · repeat (first | exact trivial | refine And.intro (covE_mp rfl (Nat.le_of_ble_eq_true rfl) rfl rfl) ?_ | (refine And.intro (covE_id (Nat.le_of_ble_eq_true rfl) (by first | exact wf_ints _ _ | simp [C.wf]) rfl (by rfl)) ?_))
          · rw [if_neg hl] at hst
            repeat ((conv => whnf); first | (refine And.intro (by first | omega | exact Nat.le_of_ble_eq_true rfl | (dsimp only [inK]; omega)) ?_) | with_reducible refine lkm (stepF_some hdk) ?_ | with_reducible refine lkm (stepF_some h3) ?_ | refine Exists.intro _ (And.intro rfl ?_) | refine br_t (by omega) ?_ | refine br_f (by omega) ?_ | refine bs_f (by omega) ?_ | refine fun (K' : K3) hK' => ?_ | (refine hK' _ _ _ ?_; clear hK' K'))
            refine ⟨k + 1, [], by omega, by omega, ?_⟩
            refine ⟨?_, ?_, rfl, rfl, by exact Nat.le_of_ble_eq_true rfl⟩
            · repeat (first | exact trivial | (refine And.intro (covS_syn (by first | rfl | (refine congrArg some (congrArg V.i ?_); first | omega | exact hst.symm)) rfl (by first | exact trivial | exact Nat.le_of_ble_eq_true rfl)) ?_))
            · repeat (first | exact trivial | refine And.intro (covE_mp rfl (Nat.le_of_ble_eq_true rfl) rfl rfl) ?_ | (refine And.intro (covE_id (Nat.le_of_ble_eq_true rfl) (by first | exact wf_ints _ _ | simp [C.wf]) rfl (by rfl)) ?_))
    · have hkw : k = h0 := by omega
      subst hkw
      rcases bestC_spec hW0 d k with ⟨h1, h2⟩ | ⟨b, nb, h1, h2, h3⟩
      · have hno : d (-1) = none := by
          cases hh : d (-1) with
          | none => rfl
          | some w => have := hdom hh; omega
        rw [h1, hno]
        repeat ((conv => whnf); first | refine br_t (by omega) ?_ | refine br_f (by omega) ?_ | refine fun (K' : K3) hK' => ?_ | (refine hK' _ _ _ ?_; clear hK' K'))
        rfl
      · have hb2 := hbd h3
        have hbw := hdom h3
        rw [h1, h3]
        repeat ((conv => whnf); first | (refine And.intro (by first | omega | exact Nat.le_of_ble_eq_true rfl | (dsimp only [inK]; omega)) ?_) | refine br_f (by omega) ?_ | refine fun (K' : K3) hK' => ?_ | (refine hK' _ _ _ ?_; clear hK' K'))
        refine Tri.loop (γ := List Int × Int × Nat) (fun g => ∃ n, d g.2.1 = some n ∧ g.1 ++ pathC W k d n.toNat g.2.1 = pathC W k d nb.toNat ((b : Int) * W) ∧ g.1.length = g.2.2 ∧ g.2.2 + n.toNat = nb.toNat) (fun g => [(1, V.c (.ptr 2 0)), (4, V.c (.ptr 4 0)), (10, V.c (.sl 5 (g.2.2 + 1))), (11, V.c (.ptr 6 0))])
          (fun g => [⟨5, .vec 3 1, (g.1 ++ [g.2.1]).map C.i⟩, ⟨6, .own 3, [C.i g.2.1]⟩, ⟨4, .own 108, [.mp 3]⟩, ⟨3, .mp true .int (stepF d), []⟩, ⟨2, .own 65, [C.i W, C.i k, .sl 0 cs.length, .mp 1]⟩, ⟨0, .ro 0, cs.map C.i⟩, ⟨1, .mp false .int (bmF f), []⟩]) 13 (fun g => match d g.2.1 with | some n => n.toNat | none => 0) ([], (b : Int) * W, 0) (R0 := []) ?_ ?_ ?_
        · exact ⟨nb, h3, rfl, rfl, by simp⟩
        · skip
          refine ⟨?_, ?_, rfl, rfl, by exact Nat.le_of_ble_eq_true rfl⟩
          · repeat (first | exact trivial | refine And.intro (covS_syn (by rfl) rfl (by exact Nat.le_of_ble_eq_true rfl)) ?_)
          · repeat (first | exact trivial | refine And.intro (covE_mp rfl (Nat.le_of_ble_eq_true rfl) rfl rfl) ?_ | (refine And.intro (covE_id (Nat.le_of_ble_eq_true rfl) (by first | exact wf_ints _ _ | simp [C.wf]) rfl (by rfl)) ?_))
        · rintro ⟨pre, at_, m⟩ ⟨n, hw, hp, hlen, hlen2⟩
          simp only at hw hp hlen hlen2 ⊢
          have hwd := hbd hw
          have hat := hdom hw
          refine vc_ok tok ?_
          by_cases h1w : 0 < n
          · obtain ⟨kn, hkn, hdn, hknm⟩ := hnx hw h1w
            obtain ⟨a, rfl⟩ : ∃ a : Nat, at_ = a := ⟨at_.toNat, by omega⟩
            have hfu : n.toNat = (n - 1).toNat + 1 := by omega
            have hstep : pathC W k d n.toNat a = (a : Int) :: pathC W k d (n - 1).toNat kn := by
              rw [hfu]; simp only [pathC, hw, hkn]; rw [if_pos (by omega)]
            repeat ((conv => whnf); first | refine And.intro (by omega) ?_ | with_reducible refine lkm (stepF_some hw) ?_ | refine Exists.intro _ (And.intro rfl ?_) | refine br_t (by omega) ?_ | refine fun (K' : K3) hK' => ?_ | (refine hK' _ _ _ ?_; clear hK' K') | refine CallK.fresh (by kernel_rfl) (near_spec _ _ _ _) rfl ?_ | refine CallK.m ?_)
            refine Tri.opq fun K' hK' => ?_
            refine Tri.near (R0 := []) (W := W) (H := k) (n := cs.length) (i := (a : Int)) (e := false) (fun pre0 => ∀ x ∈ pre0, (decide (d x = some (n - 1))) = false)
              (fun _ => [⟨5, .vec 3 1, (pre ++ [(a : Int)]).map C.i⟩, ⟨6, .own 3, [C.i (a : Int)]⟩, ⟨4, .own 108, [.mp 3]⟩, ⟨3, .mp true .int (stepF d), []⟩, ⟨2, .own 65, [C.i W, C.i k, .sl 0 cs.length, .mp 1]⟩, ⟨0, .ro 0, cs.map C.i⟩, ⟨1, .mp false .int (bmF f), []⟩])
              (fun x hx => by cases hx) (by omega) (by omega) (by omega) (by exact rfl) (by exact rfl) (by exact rfl) ?_ ?_ ?_
            · intro oo
              refine ⟨?_, ?_, rfl, rfl, by exact Nat.le_of_ble_eq_true rfl⟩
              · repeat (exact trivial)
              · repeat (first | exact trivial | refine And.intro (covE_b1 (b := false) (Nat.le_of_ble_eq_true rfl) rfl rfl rfl) ?_ | refine And.intro (covE_mp rfl (Nat.le_of_ble_eq_true rfl) rfl rfl) ?_ | (refine And.intro (covE_id (Nat.le_of_ble_eq_true rfl) (by first | exact wf_ints _ _ | simp [C.wf]) rfl (by rfl)) ?_))
            · intro oo ob od pre0 post kk hsp hk0 hk1 hI cxb hcx
              have next : decide (d kk = some (n - 1)) = false → ∀ x ∈ pre0 ++ [kk], decide (d x = some (n - 1)) = false := fun h x hx => by
                rcases List.mem_append.1 hx with hx | hx
                · exact hI x hx
                · rw [List.mem_singleton.1 hx]; exact h
              refine vc_ok tok ?_
              repeat ((conv => whnf); first | refine fun (K' : K3) hK' => ?_ | (refine hK' _ _ _ ?_; clear hK' K') | refine And.intro (Eq.refl oo) ?_)
              refine vc_ok tok ?_
              cases hdk : d kk with
              | none =>
                repeat ((conv => whnf); first | refine And.intro (by omega) ?_ | with_reducible refine lkm (stepF_none hdk) ?_ | refine Exists.intro _ (And.intro rfl ?_) | refine fun (K' : K3) hK' => ?_ | (refine hK' _ _ _ ?_; clear hK' K') | refine And.intro (Eq.refl ob) ?_)
                refine .inl ⟨rfl, next (by rw [hdk]; simp), [], rfl, ?_⟩
                refine ⟨?_, ?_, rfl, rfl, by exact Nat.le_of_ble_eq_true rfl⟩
                · repeat (exact trivial)
                · repeat (first | exact trivial | refine And.intro (covE_mp rfl (Nat.le_of_ble_eq_true rfl) rfl rfl) ?_ | (refine And.intro (covE_id (Nat.le_of_ble_eq_true rfl) (by first | exact wf_ints _ _ | simp [C.wf]) rfl (by rfl)) ?_))
              | some wk =>
                have hwk := hbd hdk
                by_cases heq : wk = n - 1
                · have hkk : kn = kk := by
                    have := find_first (p := fun x => decide (d x = some (n - 1))) hsp hI (by simp [hdk, heq])
                    unfold nextC at hkn
                    rw [this] at hkn; cases hkn; rfl
                  repeat ((conv => whnf); first | (refine And.intro (by first | omega | exact Nat.le_of_ble_eq_true rfl | (dsimp only [inK]; omega)) ?_) | with_reducible refine lkm (stepF_some hdk) ?_ | with_reducible refine lkm (stepF_some hw) ?_ | refine Exists.intro _ (And.intro rfl ?_) | refine br_t (by omega) ?_ | refine fun (K' : K3) hK' => ?_ | (refine hK' _ _ _ ?_; clear hK' K') | refine And.intro (Eq.refl ob) ?_)
                  refine .inr ⟨rfl, .inr (.inr ⟨4, ?_⟩)⟩
                  refine And.intro (Eq.refl (od (Code.exit 4))) ?_
                  conv => whnf
                  refine hK' _ _ _ _ ?_
                  repeat ((conv => whnf); first | (refine And.intro (by first | omega | exact Nat.le_of_ble_eq_true rfl | (dsimp only [inK]; omega) | (exact ⟨rfl, rfl, rfl, Nat.le_of_ble_eq_true rfl, by simp; omega, by exact Nat.le_of_ble_eq_true rfl, by omega, Nat.le_of_ble_eq_true rfl⟩)) ?_) | refine Exists.intro _ (And.intro rfl ?_) | refine fun (K' : K3) hK' => ?_ | (refine hK' _ _ _ ?_; clear hK' K'))
                  subst hkk
                  refine ⟨(pre ++ [(a : Int)], kn, m + 1), [(5, some 42), (6, some 43)], ⟨_, hdn, ?_, by simp [hlen], by simp only; omega⟩, ?_, ?_⟩
                  · rw [← hp, hstep]; simp
                  · simp only [hdn, hw]; omega
                  · skip
                    refine ⟨?_, ?_, rfl, rfl, by exact Nat.le_of_ble_eq_true rfl⟩
                    · repeat (first | exact trivial | refine And.intro (covS_syn (by rfl) rfl (by exact Nat.le_of_ble_eq_true rfl)) ?_)
                    · repeat (first | exact trivial | refine And.intro (covE_mp rfl (Nat.le_of_ble_eq_true rfl) rfl rfl) ?_ | (refine And.intro (covE_some rfl (Nat.le_of_ble_eq_true rfl) (by first | exact wf_ints _ _ | simp [C.wf]) rfl (by first | exact ren_ints _ _ | (refine (ren_ints _ _).trans (congrArg some ?_); rw [List.map_append]; rfl) | rfl)) ?_))
                · repeat ((conv => whnf); first | (refine And.intro (by first | omega | (dsimp only [inK]; omega)) ?_) | with_reducible refine lkm (stepF_some hdk) ?_ | with_reducible refine lkm (stepF_some hw) ?_ | refine Exists.intro _ (And.intro rfl ?_) | refine br_f (by omega) ?_ | refine fun (K' : K3) hK' => ?_ | (refine hK' _ _ _ ?_; clear hK' K') | refine And.intro (Eq.refl ob) ?_)
                  refine .inl ⟨rfl, next ?_, [], rfl, ?_⟩
                  · rw [hdk]; simp [heq]
                  · skip
                    refine ⟨?_, ?_, rfl, rfl, by exact Nat.le_of_ble_eq_true rfl⟩
                    · repeat (exact trivial)
                    · repeat (first | exact trivial | refine And.intro (covE_mp rfl (Nat.le_of_ble_eq_true rfl) rfl rfl) ?_ | (refine And.intro (covE_id (Nat.le_of_ble_eq_true rfl) (by first | exact wf_ints _ _ | simp [C.wf]) rfl (by rfl)) ?_))
            · intro oo od hI
              have := hI kn hknm
              rw [hdn] at this; simp at this
          · have hone : pathC W k d n.toNat at_ = [at_] := by
              rw [show n.toNat = 0 by omega]; rfl
            rw [hone] at hp
            repeat ((conv => whnf); first | refine And.intro (by omega) ?_ | with_reducible refine lkm (stepF_some hw) ?_ | refine Exists.intro _ (And.intro rfl ?_) | refine br_f (by omega) ?_ | refine fun (K' : K3) hK' => ?_ | (refine hK' _ _ _ ?_; clear hK' K'))
            refine ⟨5, ?_, ?_⟩
            · rw [← hp, List.length_append, hlen]; rfl
            · rw [← hp]; rfl
theorem blocks_spec (W H : Int) (cs : List Int) (f : Int → Bool) (hok : CO W H cs) :
    Spec Try.prog 83 [chV W H cs.length] [⟨0, .ro 0, cs.map C.i⟩, ⟨1, .mp false .int (bmF f), []⟩] 2 (Is (V.c (.bool (chanO W H cs.length (wetB cs f)).isNone))) := by
  have hch := channel_spec W H cs f hok
  refine Spec.of tok Try.func83 rfl rfl rfl fun n0 cx => vc_ok tok ?_
  cases ho : chanO W H cs.length (wetB cs f) with
  | none =>
    repeat ((conv => whnf); first | refine Exists.intro _ (And.intro rfl ?_) | refine fun (K' : K3) hK' => ?_ | (refine hK' _ _ _ ?_; clear hK' K') | refine CallK.chanN (R := []) ho hch (by kernel_rfl) rfl (by simp [V.wf, A.wf, C.wf]) ⟨roE_ints (l := 0) rfl (by omega) rfl (.inl rfl), roE_map (l := 1) rfl (by omega) rfl, trivial⟩ rfl ?_ | refine CallK.m ?_)
    intro ρ; rfl
  | some l =>
    repeat ((conv => whnf); first | refine Exists.intro _ (And.intro rfl ?_) | refine fun (K' : K3) hK' => ?_ | (refine hK' _ _ _ ?_; clear hK' K') | refine CallK.chanS (R := []) ho hch (by kernel_rfl) rfl (by simp [V.wf, A.wf, C.wf]) ⟨roE_ints (l := 0) rfl (by omega) rfl (.inl rfl), roE_map (l := 1) rfl (by omega) rfl, trivial⟩ rfl ?_ | refine CallK.m ?_)
    intro ρ; rfl
noncomputable def chC (W H : Int) (cs : List Int) (bs : List Cell) : List Cell := if okC W H cs && okB W H cs bs then (match chanO W H cs.length (wetB cs (boomF W H bs)) with | none => [] | some l => cellsL W l) else []
noncomputable def chE (W H : Int) (cs : List Int) (bs : List Cell) : Int := if okC W H cs then (if okB W H cs bs then (match chanO W H cs.length (wetB cs (boomF W H bs)) with | none => 5 | some _ => 0) else 2) else 30
noncomputable def blB (W H : Int) (cs : List Int) (bs : List Cell) : Bool := (okC W H cs && okB W H cs bs) && (chanO W H cs.length (wetB cs (boomF W H bs))).isNone
def blE (W H : Int) (cs : List Int) (bs : List Cell) : Int := if okC W H cs then (if okB W H cs bs then 0 else 2) else 30
theorem pBlocks_spec (W H : Int) (cs : List Int) (bs : List Cell) (hl : cs.length ≤ 300) (hb : bs.length ≤ 300) :
    Spec Try.prog 42 [chR W H cs.length, V.c (.sl 1 bs.length)] [⟨0, .ro 0, cs.map C.i⟩, ⟨1, .ro 0, cellC bs⟩] 2 (Is (V.tup [A.c (.bool (blB W H cs bs)), A.c (C.i (blE W H cs bs))])) := by
  unfold blB blE
  refine Spec.of tok Try.func42 rfl rfl rfl fun n0 cx => vc_ok tok ?_
  cases hv : okC W H cs with
  | false =>
    repeat ((conv => whnf); first | (refine And.intro (by first | omega | exact Nat.le_of_ble_eq_true rfl) ?_) | refine Exists.intro _ (And.intro rfl ?_) | refine br_t (by omega) ?_ | refine fun (K' : K3) hK' => ?_ | (refine hK' _ _ _ ?_; clear hK' K') | refine CallK.newNo (a := 0) (bs := bs) (R := []) 30 hl hb (.inl ⟨hv, rfl⟩) rfl rfl ⟨roE_ints (l := 0) rfl (by omega) rfl (.inl rfl), roE_cells (l := 1) rfl (by omega) rfl (.inl rfl), trivial⟩ ?_ | refine CallK.m ?_)
    intro ρ; rfl
  | true =>
    cases hB : okB W H cs bs with
    | false =>
      repeat ((conv => whnf); first | (refine And.intro (by first | omega | exact Nat.le_of_ble_eq_true rfl) ?_) | refine Exists.intro _ (And.intro rfl ?_) | refine br_t (by omega) ?_ | refine fun (K' : K3) hK' => ?_ | (refine hK' _ _ _ ?_; clear hK' K') | refine CallK.newNo (a := 0) (bs := bs) (R := []) 2 hl hb (.inr ⟨hv, hB, rfl⟩) rfl rfl ⟨roE_ints (l := 0) rfl (by omega) rfl (.inl rfl), roE_cells (l := 1) rfl (by omega) rfl (.inl rfl), trivial⟩ ?_ | refine CallK.m ?_)
      intro ρ; rfl
    | true =>
      have hbl := blocks_spec W H cs (boomF W H bs) (okC_iff.1 hv)
      repeat ((conv => whnf); first | (refine And.intro (by first | omega | exact Nat.le_of_ble_eq_true rfl) ?_) | refine Exists.intro _ (And.intro rfl ?_) | refine br_f (by omega) ?_ | refine fun (K' : K3) hK' => ?_ | (refine hK' _ _ _ ?_; clear hK' K') | refine CallK.newOk (a := 0) (bs := bs) (R := []) hl hb hv hB rfl rfl (by omega) ⟨roE_ints (l := 0) rfl (by omega) rfl (.inl rfl), roE_cells (l := 1) rfl (by omega) rfl (.inl rfl), trivial⟩ ?_ | refine CallK.val (R := [(1, some 3)]) hbl (by kernel_rfl) rfl (by simp [V.wf, A.wf, C.wf]) ⟨roE_ints (l := 0) rfl (by omega) rfl (.inl rfl), roE_map (l := 3) rfl (by omega) rfl, trivial⟩ rfl rfl trivial ?_ | refine CallK.m ?_)
      intro ρ; rfl
end Go.Proofs.Ytbhpnhcdjmcaoaa

/- Boom, plain: rows of bools, and the steps level by level. -/
namespace Go.Proofs.Ytbhpnhcdjmcaoaa
open Go.RowKit
set_option linter.unusedVariables false
set_option linter.unusedSimpArgs false
def bL (n : Nat) (g : Int → Bool) : List Bool := (List.range n).map fun i : Nat => g (i : Int)
def updG (g : Int → Bool) (k : Int) (b : Bool) : Int → Bool := fun i => if i = k then b else g i
/-- What is open: the first k cells told; then the booms told. -/
def opA (cs : List Int) (k : Nat) (i : Int) : Bool := decide (i < k) && decide (cs.getD i.toNat 0 ≥ 0)
def opB (W H : Int) (cs : List Int) (bs : List Cell) (j : Nat) (i : Int) : Bool := decide (cs.getD i.toNat 0 ≥ 0) && !boomP W H bs j i
/-- Booms that are in order are of the chart. -/
theorem okB_on {W H : Int} {cs : List Int} {bs : List Cell} (hW : 0 < W) (h : okB W H cs bs = true) : ∀ k, k < bs.length → onB W H (bs.getD k (0, 0)).1 (bs.getD k (0, 0)).2 = true := fun k hk => by
  unfold okB okBk at h
  have := List.all_eq_true.1 h k (List.mem_range.2 hk)
  unfold badK at this
  simp only [Bool.not_eq_true', Bool.or_eq_false_iff, decide_eq_false_iff_not] at this
  exact idx_on (by omega) hW
/-- The steps that are at most so many, and one more of each. -/
def lvl (d : Int → Option Int) (t i : Int) : Int := match d i with
  | some m => if m + 1 ≤ t then m + 1 else 0
  | none => 0
def lef (d : Int → Option Int) (i : Int) : Int := match d i with
  | some m => m + 1
  | none => 0
def iL (n : Nat) (g : Int → Int) : List Int := (List.range n).map fun i : Nat => g (i : Int)
theorem iL_len (n : Nat) (g : Int → Int) : (iL n g).length = n := by simp [iL]
theorem iL_of {L : List Int} {n : Nat} {g : Int → Int} (hl : L.length = n) (h : ∀ i : Nat, i < n → hL L i = g i) : L = iL n g := by
  apply List.ext_getElem
  · rw [hl, iL_len]
  · intro j h1 h2
    have := h j (by omega)
    unfold hL at this
    rw [Int.toNat_natCast, List.getD_eq_getElem?_getD, List.getElem?_eq_getElem h1] at this
    simp only [iL, List.getElem_map, List.getElem_range]
    exact this
section
variable {W H : Int} {n : Nat} {wet : Int → Bool} {col : Int}
/-- A level under way: the cells in front of j have told theirs, j has told those of pre. -/
structure LI (W H : Int) (n : Nat) (wet : Int → Bool) (d : Int → Option Int) (t : Int) (j : Int) (pre : List Int) (L : List Int) : Prop where
  len : L.length = n
  val : ∀ i : Int, 0 ≤ i → i < n → hL L i = lvl d t i ∨ (hL L i = t + 1 ∧ d i = some t)
  done : ∀ i : Int, 0 ≤ i → i ≤ j → d i = some (t - 1) → ∀ k ∈ nbW W H n wet i, (i = j → k ∈ pre) → hL L k ≠ 0
theorem LI.told {d : Int → Option Int} {t j : Int} {pre L : List Int} (h : LI W H n wet d t j pre L) (ht : 1 ≤ t) (h0 : 0 ≤ j) (hj : j < n) : hL L j = t ↔ d j = some (t - 1) := by
  rcases h.val j h0 hj with h1 | ⟨h1, h2⟩
  · rw [h1]
    unfold lvl
    cases hd : d j with
    | none => simp only; exact ⟨fun e => by omega, fun e => by cases e⟩
    | some m =>
      simp only [Option.some.injEq]
      split <;> omega
  · rw [h1, h2, Option.some.injEq]; omega
theorem LI.row {d : Int → Option Int} {t j : Int} {pre L : List Int} (h : LI W H n wet d t j pre L) (hj : -1 ≤ j) (hall : d j = some (t - 1) → ∀ k ∈ nbW W H n wet j, k ∈ pre) : LI W H n wet d t (j + 1) [] L := by
  refine ⟨h.len, h.val, fun i h0 h1 hd k hk hp => ?_⟩
  by_cases he : i = j + 1
  · have := hp he; cases this
  · exact h.done i h0 (by omega) hd k hk (fun e => hall (e ▸ hd) k (e ▸ hk))
theorem LI.skip {d : Int → Option Int} {t j k : Int} {pre L : List Int} (h : LI W H n wet d t j pre L) (hk : k ∈ nbW W H n wet j → hL L k ≠ 0) : LI W H n wet d t j (pre ++ [k]) L := by
  refine ⟨h.len, h.val, fun i h0 h1 hd k' hk' hp => ?_⟩
  by_cases he : i = j ∧ k' = k
  · obtain ⟨rfl, rfl⟩ := he; exact hk hk'
  · exact h.done i h0 h1 hd k' hk' (fun e => by
      rcases List.mem_append.1 (hp e) with hh | hh
      · exact hh
      · exact absurd ⟨e, List.mem_singleton.1 hh⟩ he)
theorem lvl_pos {d : Int → Option Int} {t i m : Int} (hd : d i = some m) (h0 : 0 ≤ m) : lvl d t i = 0 → t < m + 1 := by
  unfold lvl; rw [hd]; simp only; split <;> omega
theorem LI.put (hW : 0 < W) (hn : (n : Int) = W * H) {t j k : Int} {pre L : List Int} (h : LI W H n wet (distW W H n wet col) t j pre L) (ht : 1 ≤ t) (hj : distW W H n wet col j = some (t - 1)) (hk : k ∈ nbW W H n wet j) (h0 : hL L k = 0) :
    LI W H n wet (distW W H n wet col) t j (pre ++ [k]) (L.set k.toNat (t + 1)) := by
  have hD := distO_is (iniW W n wet col) (nbW W H n wet)
  have hin := nbW_in hW hn j k hk
  have hdk : distW W H n wet col k = some t := by
    obtain ⟨l, h1, h2⟩ := hD.sound j (t - 1) hj
    obtain ⟨m, h3, h4⟩ := hD.comp k (j :: l) ⟨nbW_sym hW hn j k hk, h1⟩
    have h3' : distW W H n wet col k = some m := h3
    have hp := hD.pos h3
    rcases h.val k hin.2.1 hin.2.2 with h5 | ⟨h5, _⟩
    · have := lvl_pos h3' hp (by rw [← h5]; exact h0)
      rw [h3']; congr 1; simp at h4; omega
    · omega
  have hset := fun i (hi : 0 ≤ i) => hL_set (hs := L) (b := k) (j := i) (x := t + 1) hin.2.1 hi (by rw [h.len]; exact hin.2.2)
  refine ⟨by rw [List.length_set, h.len], fun i i0 i1 => ?_, fun i i0 i1 hd k' hk' hp => ?_⟩
  · rw [hset i i0]
    by_cases he : i = k
    · subst he; rw [if_pos rfl]; exact .inr ⟨rfl, hdk⟩
    · rw [if_neg he]; exact h.val i i0 i1
  · have hin' := nbW_in hW hn i k' hk'
    rw [hset k' hin'.2.1]
    by_cases he : k' = k
    · rw [if_pos he]; omega
    · rw [if_neg he]
      exact h.done i i0 i1 hd k' hk' (fun e => by
        rcases List.mem_append.1 (hp e) with hh | hh
        · exact hh
        · exact absurd (List.mem_singleton.1 hh) he)
theorem LI.last (hW : 0 < W) (hn : (n : Int) = W * H) {t : Int} {L : List Int} {pre : List Int} (h : LI W H n wet (distW W H n wet col) t n pre L) (ht : 1 ≤ t) : L = iL n (lvl (distW W H n wet col) (t + 1)) := by
  have hD := distO_is (iniW W n wet col) (nbW W H n wet)
  refine iL_of h.len fun i hi => ?_
  rcases h.val i (by omega) (by omega) with h1 | ⟨h1, h2⟩
  · rw [h1]
    unfold lvl
    cases hd : distW W H n wet col i with
    | none => rfl
    | some m =>
      have hp := hD.pos (show distO (iniW W n wet col) (nbW W H n wet) i = some m from hd)
      simp only
      by_cases hm : m + 1 ≤ t
      · rw [if_pos hm, if_pos (by omega)]
      · rw [if_neg hm]
        by_cases hm2 : m = t
        · exfalso
          obtain ⟨k, hk, hdk⟩ := hD.next (show distO (iniW W n wet col) (nbW W H n wet) i = some m from hd) (by omega)
          have hin := nbW_in hW hn i k hk
          have hz := h.done k hin.2.1 (by omega) (by rw [← hm2]; exact hdk) i (nbW_sym hW hn i k hk) (fun e => by omega)
          apply hz
          rw [h1]; unfold lvl; rw [hd]; simp only; rw [if_neg hm]
        · rw [if_neg (by omega)]
  · rw [h1]
    unfold lvl
    rw [h2]; simp only; rw [if_pos (by omega)]
/-- The last column, the first k rows of it. -/
def colK (W : Int) (n : Nat) (wet : Int → Bool) (col : Int) (k : Nat) (i : Int) : Int := if iniW W n wet col i = true ∧ i / W < k then 1 else 0
end
end Go.Proofs.Ytbhpnhcdjmcaoaa

/- Boom, the reference: what is open, and how many cells are left. -/
namespace Go.Proofs.Ytbhpnhcdjmcaoaa
open Go.RowKit
set_option linter.unusedVariables false
set_option linter.unusedSimpArgs false
def boolsR (l : List Bool) (v : V) (L' : List E) : Prop := ∃ lab, v = V.c (.sl lab l.length) ∧ find L' lab = some ⟨lab, .vec 4 1, l.map C.bool⟩
theorem chk_bools (p : Nat → Bool) (l : List Bool) : (l.map C.bool).all (C.chk p) = true := List.all_eq_true.2 fun c hc => by
  obtain ⟨b, _, rfl⟩ := List.mem_map.1 hc; rfl
theorem CallK.boolsR {P : Program} {n0 nx nac : Nat} {f : FuncId} {vs vs' : List V} {Lc L : List E} {R : Rn} {K : V → List E → Nat → Prop} {l : List Bool} (spec : Spec P f vs Lc nac (fun v L' _ => boolsR l v L')) (hok : callB P f = true)
    (hv : renVs R vs = some vs') (hvw : ∀ v ∈ vs, v.wf nac) (hL : roL R nac L Lc) (hLc : injB [] Lc = true)
    (hK : K (V.c (.sl nx l.length)) [⟨nx, .vec 4 1, l.map C.bool⟩] (nx + 1)) : CallK P n0 f vs' L nx K := by
  refine CallK.mk' hok spec hv hvw hL hLc ?_
  rintro v L' nx' hw ⟨lab, rfl, hf⟩
  refine ⟨V.c (.sl nx l.length), [⟨nx, .vec 4 1, l.map C.bool⟩], nx + 1, [(nx, some lab)], ⟨Nat.le_succ _, ?_, ?_, ⟨covE_some (renL_one _ _) (Nat.lt_succ_self nx) (wf_bools _ _) hf (ren_bools _ _), trivial⟩, rfl, ?_⟩, hK⟩
  · simp only [V.ren, A.ren, C.ren, renL_one]
  · simp only [V.chk, A.chk, C.chk]; exact inLab_one nx
  · simp only [List.all_cons, List.all_nil, Bool.and_true, inLab_one, Kd.isRo, Bool.not_false, Bool.true_and]
    exact chk_bools _ _
end Go.Proofs.Ytbhpnhcdjmcaoaa

/- Boom: charts that are told cell by cell. -/
namespace Go.Proofs.Ytbhpnhcdjmcaoaa
open Go.RowKit
set_option linter.unusedVariables false
set_option linter.unusedSimpArgs false
def chgL (cs : List Int) (g : Int → Int) : List Int := (List.range cs.length).map fun i : Nat => g (i : Int)
def chgK (g : Int → Int) (k : Nat) : List Int := (List.range k).map fun i : Nat => g (i : Int)
theorem chgL_len (cs : List Int) (g : Int → Int) : (chgL cs g).length = cs.length := by simp [chgL]
def dryG (W H : Int) (cs : List Int) (bs : List Cell) (i : Int) : Int := if boomF W H bs i then -1 else cs.getD i.toNat 0
def turnI (W H i : Int) : Int := (H - 1 - i / W) * W + i % W
def turnG (W H : Int) (cs : List Int) (i : Int) : Int := cs.getD (turnI W H i).toNat 0
def strG (cs : List Int) (most : Int) (i : Int) : Int := if cs.getD i.toNat 0 > most then 0 else cs.getD i.toNat 0
theorem turnI_bd {W H i : Int} (hW : 0 < W) (hi : 0 ≤ i) (hn : i < W * H) : 0 ≤ turnI W H i ∧ turnI W H i < W * H := by
  have h1 := Int.emod_nonneg i (show W ≠ 0 by omega)
  have h2 := Int.emod_lt_of_pos i hW
  have h4 : 0 ≤ i / W := Int.ediv_nonneg hi (by omega)
  have h5 : i / W < H := Int.ediv_lt_of_lt_mul hW (by rw [Int.mul_comm]; exact hn)
  unfold turnI
  have h6 : 0 ≤ (H - 1 - i / W) * W := Int.mul_nonneg (by omega) (by omega)
  have h7 : (H - 1 - i / W) * W ≤ (H - 1) * W := Int.mul_le_mul_of_nonneg_right (by omega) (by omega)
  have h8 : (H - 1) * W = W * H - W := by rw [Int.sub_mul, Int.mul_comm H W]; omega
  omega
/-- A chart that comes about, and an error. -/
def chgR (W H : Int) (l : List Int) (v : V) (L' : List E) : Prop := ∃ lab, v = V.agg [C.i W, C.i H, .sl lab l.length] ∧ find L' lab = some ⟨lab, .vec 3 1, l.map C.i⟩

end Go.Proofs.Ytbhpnhcdjmcaoaa

/- Boom: Dry, Turned, Strong. -/
namespace Go.Proofs.Ytbhpnhcdjmcaoaa
open Go.RowKit
set_option linter.unusedVariables false
set_option linter.unusedSimpArgs false
section
variable {P : Program} {n0 nx nac : Nat} {f : FuncId} {vs vs' : List V} {Lc L : List E} {R : Rn} {K : V → List E → Nat → Prop}
theorem CallK.chg {W H : Int} {l : List Int} (spec : Spec P f vs Lc nac (fun v L' _ => chgR W H l v L')) (hok : callB P f = true)
    (hv : renVs R vs = some vs') (hvw : ∀ v ∈ vs, v.wf nac) (hL : roL R nac L Lc) (hLc : injB [] Lc = true)
    (hK : K (V.agg [C.i W, C.i H, .sl nx l.length]) [⟨nx, .vec 3 1, l.map C.i⟩] (nx + 1)) : CallK P n0 f vs' L nx K := by
  refine CallK.mk' hok spec hv hvw hL hLc ?_
  rintro v L' nx' hw ⟨lab, rfl, hf⟩
  refine ⟨V.agg [C.i W, C.i H, .sl nx l.length], [⟨nx, .vec 3 1, l.map C.i⟩], nx + 1, [(nx, some lab)], ⟨Nat.le_succ _, ?_, ?_, ⟨covE_some (renL_one _ _) (Nat.lt_succ_self nx) (wf_ints _ _) hf (ren_ints _ _), trivial⟩, rfl, ?_⟩, hK⟩
  · simp [V.ren, A.ren, C.ren, renL_one, C.i, seqO]
  · simp [V.chk, A.chk, C.chk, inLab_one, C.i]
  · simp only [List.all_cons, List.all_nil, Bool.and_true, inLab_one, Kd.isRo, Bool.not_false, Bool.true_and]
    exact chk_ints _ _
/-- A chart and an error. -/
def chrE (o : Option (List Int)) (W H Er : Int) (v : V) (L' : List E) : Prop := match o with
  | none => v = V.tup [A.agg [C.i 0, C.i 0, .nil], A.c (C.i Er)]
  | some l => ∃ lab, v = V.tup [A.agg [C.i W, C.i H, .sl lab l.length], A.c (C.i 0)] ∧ find L' lab = some ⟨lab, .vec 3 1, l.map C.i⟩
end
def dryO (W H : Int) (cs : List Int) (bs : List Cell) : Option (List Int) := if okC W H cs = true ∧ okB W H cs bs = true then some (chgL cs (dryG W H cs bs)) else none
def dryE (W H : Int) (cs : List Int) (bs : List Cell) : Int := if okC W H cs = true then (if okB W H cs bs = true then 0 else 2) else 30
def turnO (W H : Int) (cs : List Int) : Option (List Int) := if okC W H cs = true then some (chgL cs (turnG W H cs)) else none
def turnE (W H : Int) (cs : List Int) : Int := if okC W H cs = true then 0 else 30
def strO (W H : Int) (cs : List Int) (most : Int) : Option (List Int) := if okC W H cs = true ∧ (0 ≤ most ∧ most ≤ 100) then some (chgL cs (strG cs most)) else none
def strE (W H : Int) (cs : List Int) (most : Int) : Int := if okC W H cs = true then (if 0 ≤ most ∧ most ≤ 100 then 0 else 2) else 30
end Go.Proofs.Ytbhpnhcdjmcaoaa

/- Boom, the reference: booms; Dry, Turned, Strong; charts that are the same. -/
namespace Go.Proofs.Ytbhpnhcdjmcaoaa
open Go.RowKit
set_option linter.unusedVariables false
set_option linter.unusedSimpArgs false
theorem cmp_ge (a b : Cell) : cmpC a b ≥ 0 ↔ (b.2 < a.2 ∨ (b.2 = a.2 ∧ b.1 ≤ a.1)) := by
  unfold cmpC orI cmpI
  by_cases h1 : a.2 < b.2
  · simp [h1]; omega
  · by_cases h2 : a.2 > b.2
    · simp [h1, h2]
    · have h3 : a.2 = b.2 := by omega
      simp only [h3]
      by_cases h4 : a.1 < b.1
      · simp [h4]
        try omega
      · by_cases h5 : a.1 > b.1
        · simp [h4, h5]; omega
        · simp [h4, h5]; omega
set_option maxRecDepth 10000 in
set_option maxHeartbeats 8000000 in
theorem areBooms_spec (W H : Int) (cs : List Int) (bs : List Cell) (hok : CO W H cs) (hb : bs.length ≤ 300) :
    Spec Try.prog 44 [chR W H cs.length, V.c (.sl 1 bs.length)] [⟨0, .ro 0, cs.map C.i⟩, ⟨1, .ro 0, cellC bs⟩] 2 (Is (V.c (.bool (okB W H cs bs)))) := by
  have hlm : (cs.map C.i).length = cs.length := by simp
  have hcl := cellC_len bs
  have hW := hok.w
  have hH := hok.h
  have hcn := hok.len
  have hn100 : W * H ≤ 100 := by have := Int.mul_le_mul hW.2 hH.2 (by omega) (by omega : (0:Int) ≤ 10); omega
  refine Spec.of tok Try.func44 rfl rfl rfl fun n0 cx => vc_ok tok ?_
  repeat ((conv => whnf); first | refine fun (K' : K3) hK' => ?_ | (refine hK' _ _ _ ?_; clear hK' K'))
  refine Tri.loop (γ := Nat) (fun k => k ≤ bs.length ∧ okBk W H cs bs k = true ∧ (0 < k → onB W H (bs.getD (k - 1) (0, 0)).1 (bs.getD (k - 1) (0, 0)).2 = true)) (fun k => [(1, V.c (.sl 1 bs.length)), (2, V.c (.ptr 2 0)), (7, V.c (.sl 1 bs.length)), (8, V.i bs.length), (9, V.i (k : Nat))])
    (fun k => [⟨2, .own 24, [C.i W, C.i H, .sl 0 cs.length]⟩, ⟨1, .ro 0, cellC bs⟩, ⟨0, .ro 0, cs.map C.i⟩]) 3 (fun k => bs.length - k) 0 (R0 := []) ?_ ?_ ?_
  · exact ⟨by omega, rfl, by omega⟩
  · skip
    refine ⟨?_, ?_, rfl, rfl, by exact Nat.le_of_ble_eq_true rfl⟩
    · repeat (first | exact trivial | (refine And.intro (covS_syn (by rfl) rfl (by first | exact trivial | exact Nat.le_of_ble_eq_true rfl)) ?_))
    · repeat (first | exact trivial | (refine And.intro (covE_id (Nat.le_of_ble_eq_true rfl) (by first | exact wf_ints _ _ | first | exact wf_cells _ _ | exact wf_zc _ | simp [C.wf]) rfl (by rfl)) ?_))
  · rintro k ⟨hk, hokk, hprev⟩
    refine vc_ok tok ?_
    by_cases hlt : k < bs.length
    · have hbad : badK W H cs bs k = (decide (idxC W H (bs.getD k (0, 0)) < 0) || (decide (cs.getD (idxC W H (bs.getD k (0, 0))).toNat 0 ≤ 0) || (decide ((k : Int) > 0) && decide (cmpC (bs.getD (k - 1) (0, 0)) (bs.getD k (0, 0)) ≥ 0)))) := rfl
      have hld := cellT (l := bs) (k := k) rfl hlt
      have hno := fun h => okBk_false (W := W) (H := H) (cs := cs) hlt h
      have hon := on_spec W H cs.length (bs.getD k (0, 0)).1 (bs.getD k (0, 0)).2
      have hne : (k + 1 - 1 : Nat) = k := by omega
      obtain ⟨p, hp⟩ : ∃ p, p = bs.getD k (0, 0) := ⟨_, rfl⟩
      rw [← hp] at hbad hld hon
      cases ho : onB W H p.1 p.2 with
      | false =>
        have hlt0 : idxC W H p < 0 := by have := idxI_off ho; unfold idxC; omega
        have hr := hno (by rw [hbad, dd_t hlt0]; rfl)
        repeat ((conv => whnf); first | (refine And.intro (by first | omega | exact Nat.le_of_ble_eq_true rfl | (dsimp only [inK]; omega)) ?_) | with_reducible refine ld (hld) ?_ | refine Exists.intro _ (And.intro rfl ?_) | refine br_t (by omega) ?_ | refine fun (K' : K3) hK' => ?_ | (refine hK' _ _ _ ?_; clear hK' K') | refine draw_auto tok mixed (by kernel_rfl) ?_ | refine HD_mk (fun _ h => CallK.val (R := []) hon (by kernel_rfl) rfl (by simp [V.wf, A.wf, C.wf]) trivial rfl rfl trivial h) ?_ | refine bs_bt (congrArg Bool.not ho) ?_)
        intro ρ; rw [hr]; rfl
      | true =>
        have hpo := onB_t ho
        obtain ⟨q1, q2⟩ := idxI_on ho
        have hil := (idxI_lt (by omega) q2).1
        have hix := rindex_spec W H cs.length p.1 p.2 (by omega) (by omega) (by omega)
        obtain ⟨i, hi⟩ : ∃ i : Nat, (i : Int) = p.2 * W + p.1 := ⟨(p.2 * W + p.1).toNat, by omega⟩
        have hie : idxC W H p = i := by unfold idxC; omega
        rw [← hi] at hix
        rw [hie, dd_f (show ¬ (i : Int) < 0 by omega), Bool.false_or, Int.toNat_natCast] at hbad
        have hldc := intL (l := cs) (k := i) (by unfold idxC at hie; omega)
        have hic : i < cs.length := by unfold idxC at hie; omega
        obtain ⟨ci, hci⟩ : ∃ ci, ci = cs.getD i 0 := ⟨_, rfl⟩
        rw [← hci] at hldc hbad
        by_cases g1 : ci ≤ 0
        · have hr := hno (by rw [hbad, dd_t g1]; rfl)
          repeat ((conv => whnf); first | (refine And.intro (by first | omega | exact Nat.le_of_ble_eq_true rfl | (dsimp only [inK]; omega)) ?_) | with_reducible refine ld (hld) ?_ | with_reducible refine ld (hldc) ?_ | refine Exists.intro _ (And.intro rfl ?_) | refine br_t (by omega) ?_ | refine bs_t (by omega) ?_ | refine fun (K' : K3) hK' => ?_ | (refine hK' _ _ _ ?_; clear hK' K') | refine draw_auto tok mixed (by kernel_rfl) ?_ | refine HD_mk (fun _ h => CallK.val (R := []) hon (by kernel_rfl) rfl (by simp [V.wf, A.wf, C.wf]) trivial rfl rfl trivial h) ?_ | refine bs_bf (congrArg Bool.not ho) ?_ | refine HD_mk (fun _ h => CallK.val (R := []) hix (by kernel_rfl) rfl (by simp [V.wf, A.wf, C.wf]) trivial rfl rfl trivial h) ?_)
          intro ρ; rw [hr]; rfl
        · rw [dd_f g1, Bool.false_or] at hbad
          by_cases g2 : (k : Int) > 0
          · rw [dd_t g2, Bool.true_and] at hbad
            have hqo := onB_t (hprev (by omega))
            have hl0 := cellL0 (l := bs) (k := k - 1) (z := (k : Int) - 1) (by omega) (by omega)
            have hl1 := cellL1 (l := bs) (k := k - 1) (z := (k : Int) - 1) (by omega) (by omega)
            have hge := cmp_ge (bs.getD (k - 1) (0, 0)) p
            obtain ⟨q, hq⟩ : ∃ q, q = bs.getD (k - 1) (0, 0) := ⟨_, rfl⟩
            rw [← hq] at hbad hl0 hl1 hge hqo
            by_cases g3 : p.2 < q.2
            · have hr := hno (by rw [hbad, dd_t (hge.2 (.inl g3))])
              repeat ((conv => whnf); first | (refine And.intro (by first | omega | exact Nat.le_of_ble_eq_true rfl | (dsimp only [inK]; omega)) ?_) | with_reducible refine ld (hld) ?_ | with_reducible refine ld (hldc) ?_ | with_reducible refine ld (hl1) ?_ | refine Exists.intro _ (And.intro rfl ?_) | refine br_t (by omega) ?_ | refine bs_t (by omega) ?_ | refine bs_f (by omega) ?_ | refine fun (K' : K3) hK' => ?_ | (refine hK' _ _ _ ?_; clear hK' K') | refine draw_auto tok mixed (by kernel_rfl) ?_ | refine HD_mk (fun _ h => CallK.val (R := []) hon (by kernel_rfl) rfl (by simp [V.wf, A.wf, C.wf]) trivial rfl rfl trivial h) ?_ | refine bs_bf (congrArg Bool.not ho) ?_ | refine HD_mk (fun _ h => CallK.val (R := []) hix (by kernel_rfl) rfl (by simp [V.wf, A.wf, C.wf]) trivial rfl rfl trivial h) ?_)
              intro ρ; rw [hr]; rfl
            · by_cases g4 : p.2 = q.2
              · by_cases g5 : p.1 ≤ q.1
                · have hr := hno (by rw [hbad, dd_t (hge.2 (.inr ⟨g4, g5⟩))])
                  repeat ((conv => whnf); first | (refine And.intro (by first | omega | exact Nat.le_of_ble_eq_true rfl | (dsimp only [inK]; omega)) ?_) | with_reducible refine ld (hld) ?_ | with_reducible refine ld (hldc) ?_ | with_reducible refine ld (hl0) ?_ | with_reducible refine ld (hl1) ?_ | refine Exists.intro _ (And.intro rfl ?_) | refine br_t (by omega) ?_ | refine bs_f (by omega) ?_ | refine fun (K' : K3) hK' => ?_ | (refine hK' _ _ _ ?_; clear hK' K') | refine draw_auto tok mixed (by kernel_rfl) ?_ | refine HD_mk (fun _ h => CallK.val (R := []) hon (by kernel_rfl) rfl (by simp [V.wf, A.wf, C.wf]) trivial rfl rfl trivial h) ?_ | refine bs_bf (congrArg Bool.not ho) ?_ | refine HD_mk (fun _ h => CallK.val (R := []) hix (by kernel_rfl) rfl (by simp [V.wf, A.wf, C.wf]) trivial rfl rfl trivial h) ?_)
                  intro ρ; rw [hr]; rfl
                · have hgo : okBk W H cs bs (k + 1) = true := by rw [okBk_succ, hokk, hbad, dd_f (fun h => by have := hge.1 h; omega)]; rfl
                  repeat ((conv => whnf); first | (refine And.intro (by first | omega | exact Nat.le_of_ble_eq_true rfl | (dsimp only [inK]; omega)) ?_) | with_reducible refine ld (hld) ?_ | with_reducible refine ld (hldc) ?_ | with_reducible refine ld (hl0) ?_ | with_reducible refine ld (hl1) ?_ | refine Exists.intro _ (And.intro rfl ?_) | refine br_t (by omega) ?_ | refine br_f (by omega) ?_ | refine bs_f (by omega) ?_ | refine fun (K' : K3) hK' => ?_ | (refine hK' _ _ _ ?_; clear hK' K') | refine draw_auto tok mixed (by kernel_rfl) ?_ | refine HD_mk (fun _ h => CallK.val (R := []) hon (by kernel_rfl) rfl (by simp [V.wf, A.wf, C.wf]) trivial rfl rfl trivial h) ?_ | refine bs_bf (congrArg Bool.not ho) ?_ | refine HD_mk (fun _ h => CallK.val (R := []) hix (by kernel_rfl) rfl (by simp [V.wf, A.wf, C.wf]) trivial rfl rfl trivial h) ?_)
                  refine ⟨k + 1, [], ⟨by omega, hgo, fun _ => by rw [hne, ← hp]; exact ho⟩, by omega, ?_⟩
                  refine ⟨?_, ?_, rfl, rfl, by exact Nat.le_of_ble_eq_true rfl⟩
                  · repeat (first | exact trivial | (refine And.intro (covS_syn (by rfl) rfl (by first | exact trivial | exact Nat.le_of_ble_eq_true rfl)) ?_))
                  · repeat (first | exact trivial | (refine And.intro (covE_id (Nat.le_of_ble_eq_true rfl) (by first | exact wf_ints _ _ | first | exact wf_cells _ _ | exact wf_zc _ | simp [C.wf]) rfl (by rfl)) ?_))
              · have hgo : okBk W H cs bs (k + 1) = true := by rw [okBk_succ, hokk, hbad, dd_f (fun h => by have := hge.1 h; omega)]; rfl
                repeat ((conv => whnf); first | (refine And.intro (by first | omega | exact Nat.le_of_ble_eq_true rfl | (dsimp only [inK]; omega)) ?_) | with_reducible refine ld (hld) ?_ | with_reducible refine ld (hldc) ?_ | with_reducible refine ld (hl1) ?_ | refine Exists.intro _ (And.intro rfl ?_) | refine br_t (by omega) ?_ | refine br_f (by omega) ?_ | refine bs_f (by omega) ?_ | refine fun (K' : K3) hK' => ?_ | (refine hK' _ _ _ ?_; clear hK' K') | refine draw_auto tok mixed (by kernel_rfl) ?_ | refine HD_mk (fun _ h => CallK.val (R := []) hon (by kernel_rfl) rfl (by simp [V.wf, A.wf, C.wf]) trivial rfl rfl trivial h) ?_ | refine bs_bf (congrArg Bool.not ho) ?_ | refine HD_mk (fun _ h => CallK.val (R := []) hix (by kernel_rfl) rfl (by simp [V.wf, A.wf, C.wf]) trivial rfl rfl trivial h) ?_)
                refine ⟨k + 1, [], ⟨by omega, hgo, fun _ => by rw [hne, ← hp]; exact ho⟩, by omega, ?_⟩
                refine ⟨?_, ?_, rfl, rfl, by exact Nat.le_of_ble_eq_true rfl⟩
                · repeat (first | exact trivial | (refine And.intro (covS_syn (by rfl) rfl (by first | exact trivial | exact Nat.le_of_ble_eq_true rfl)) ?_))
                · repeat (first | exact trivial | (refine And.intro (covE_id (Nat.le_of_ble_eq_true rfl) (by first | exact wf_ints _ _ | first | exact wf_cells _ _ | exact wf_zc _ | simp [C.wf]) rfl (by rfl)) ?_))
          · have hgo : okBk W H cs bs (k + 1) = true := by rw [okBk_succ, hokk, hbad, dd_f g2]; rfl
            repeat ((conv => whnf); first | (refine And.intro (by first | omega | exact Nat.le_of_ble_eq_true rfl | (dsimp only [inK]; omega)) ?_) | with_reducible refine ld (hld) ?_ | with_reducible refine ld (hldc) ?_ | refine Exists.intro _ (And.intro rfl ?_) | refine br_t (by omega) ?_ | refine br_f (by omega) ?_ | refine bs_f (by omega) ?_ | refine fun (K' : K3) hK' => ?_ | (refine hK' _ _ _ ?_; clear hK' K') | refine draw_auto tok mixed (by kernel_rfl) ?_ | refine HD_mk (fun _ h => CallK.val (R := []) hon (by kernel_rfl) rfl (by simp [V.wf, A.wf, C.wf]) trivial rfl rfl trivial h) ?_ | refine bs_bf (congrArg Bool.not ho) ?_ | refine HD_mk (fun _ h => CallK.val (R := []) hix (by kernel_rfl) rfl (by simp [V.wf, A.wf, C.wf]) trivial rfl rfl trivial h) ?_)
            refine ⟨k + 1, [], ⟨by omega, hgo, fun _ => by rw [hne, ← hp]; exact ho⟩, by omega, ?_⟩
            refine ⟨?_, ?_, rfl, rfl, by exact Nat.le_of_ble_eq_true rfl⟩
            · repeat (first | exact trivial | (refine And.intro (covS_syn (by rfl) rfl (by first | exact trivial | exact Nat.le_of_ble_eq_true rfl)) ?_))
            · repeat (first | exact trivial | (refine And.intro (covE_id (Nat.le_of_ble_eq_true rfl) (by first | exact wf_ints _ _ | first | exact wf_cells _ _ | exact wf_zc _ | simp [C.wf]) rfl (by rfl)) ?_))
    · have hkl : k = bs.length := by omega
      subst hkl
      have hr : okB W H cs bs = true := hokk
      repeat ((conv => whnf); first | refine br_f (by omega) ?_ | refine fun (K' : K3) hK' => ?_ | (refine hK' _ _ _ ?_; clear hK' K'))
      intro ρ; rw [hr]; rfl
def askE (W H : Int) (cs : List Int) (bs : List Cell) : Int := if okC W H cs = true then (if okB W H cs bs = true then 0 else 2) else 30
/-- What comes about, cell by cell. -/
def mixL (cs : List Int) (b : Int → Bool) (g : Int → Int) : List Int := (List.range cs.length).map fun i : Nat => if b (i : Int) then g (i : Int) else cs.getD i 0
end Go.Proofs.Ytbhpnhcdjmcaoaa

/- Boom, the reference: the shortest channel that comes first, and whether booms block. -/
namespace Go.Proofs.Ytbhpnhcdjmcaoaa
open Go.RowKit
set_option linter.unusedVariables false
set_option linter.unusedSimpArgs false
/-- The first of some cells that is wanted; -1: none is. -/
def firstF (p : Int → Bool) (l : List Int) : Int := match l.find? p with
  | some k => k
  | none => -1
end Go.Proofs.Ytbhpnhcdjmcaoaa

/- Boom: which lists are channels. -/
namespace Go.Proofs.Ytbhpnhcdjmcaoaa
open Go.RowKit
set_option linter.unusedVariables false
set_option linter.unusedSimpArgs false
/-- What a channel by booms is. -/
structure ChanP (W H : Int) (wet : Int → Bool) (l : List Cell) : Prop where
  on : ∀ j, j < l.length → onB W H (l.getD j cz).1 (l.getD j cz).2 = true
  nd : ∀ j i, j < l.length → i < j → ¬ l.getD j cz = l.getD i cz
  len : 1 ≤ l.length ∧ l.length ≤ 100
  adj : ∀ j, j + 1 < l.length → adj false (l.getD (j + 1) cz) (l.getD j cz)
  wet : ∀ j, j < l.length → wet (idxU W (l.getD j cz)) = true
  left : (l.getD 0 cz).1 = 0
  right : (l.getD (l.length - 1) cz).1 = W - 1
def isChP (W H : Int) (wet : Int → Bool) (l : List Cell) : Bool := listOkK W H l l.length && (lenOk l && ((decide ((listI W H l).getD 0 0 % W = 0) && decide ((listI W H l).getD (l.length - 1) 0 % W = W - 1)) && ((!(listI W H l).any fun i => !wet i) && follB W H false (listI W H l) l.length)))
def isChR (W H : Int) (wet : Int → Bool) (l : List Cell) : Bool := isWayB W H l false && ((decide ((l.getD 0 cz).1 = 0) && decide ((l.getD (l.length - 1) cz).1 = W - 1)) && l.all fun p => wet (idxU W p))
def isChB (W H : Int) (cs : List Int) (bs l : List Cell) : Bool := (okC W H cs && okB W H cs bs) && isChR W H (wetB cs (boomF W H bs)) l
end Go.Proofs.Ytbhpnhcdjmcaoaa

/- Boom, plain: barriers of the charts that are upside down, with dead cells, with dry booms. -/
namespace Go.Proofs.Ytbhpnhcdjmcaoaa
open Go.RowKit
set_option linter.unusedVariables false
set_option linter.unusedSimpArgs false
section
variable {W H : Int} {cs : List Int}
theorem CO.chg (hok : CO W H cs) {g : Int → Int} (hg : ∀ i : Int, 0 ≤ i → i < cs.length → -1 ≤ g i ∧ g i ≤ 100) : CO W H (chgL cs g) :=
  ⟨hok.w, hok.h, by rw [chgL_len]; exact hok.len, fun x hx => by
    unfold chgL at hx
    obtain ⟨i, hi, rfl⟩ := List.mem_map.1 hx
    have := List.mem_range.1 hi
    exact hg _ (by omega) (by omega)⟩
theorem CO.get (hok : CO W H cs) {i : Int} (h0 : 0 ≤ i) (h : i < cs.length) : -1 ≤ cs.getD i.toNat 0 ∧ cs.getD i.toNat 0 ≤ 100 := by
  have hk : i.toNat < cs.length := by omega
  rw [List.getD_eq_getElem?_getD, List.getElem?_eq_getElem hk]
  exact hok.cost _ (List.getElem_mem hk)
theorem CO.turn (hok : CO W H cs) : CO W H (chgL cs (turnG W H cs)) := hok.chg fun i h0 h => by
  have hw := hok.w
  have := turnI_bd (W := W) (H := H) (by omega) h0 (by have := hok.len; omega)
  exact hok.get this.1 (by have := hok.len; omega)
theorem CO.str (hok : CO W H cs) (most : Int) : CO W H (chgL cs (strG cs most)) := hok.chg fun i h0 h => by
  have := hok.get h0 h
  unfold strG; split <;> omega
theorem CO.dry (hok : CO W H cs) (bs : List Cell) : CO W H (chgL cs (dryG W H cs bs)) := hok.chg fun i h0 h => by
  have := hok.get h0 h
  unfold dryG; split <;> omega
def tp (H : Int) (p : Cell) : Cell := (p.1, H - 1 - p.2)
theorem BarP.mem {l : List Cell} (hb : BarP W H cs l) {p : Cell} (h : p ∈ l) : onB W H p.1 p.2 = true ∧ ¬ cs.getD (idxU W p).toNat 0 = 0 := by
  obtain ⟨j, hj, rfl⟩ := List.mem_iff_getElem.1 h
  have h1 := hb.on j hj
  have h2 := hb.hold j hj
  have hg : l.getD j cz = l[j] := by rw [List.getD_eq_getElem?_getD, List.getElem?_eq_getElem hj]; rfl
  rw [hg] at h1 h2
  exact ⟨h1, h2⟩
end
end Go.Proofs.Ytbhpnhcdjmcaoaa

/- Boom, plain: the booms of a list, and the chart in which those of a barrier are land. -/
namespace Go.Proofs.Ytbhpnhcdjmcaoaa
open Go.RowKit
set_option linter.unusedVariables false
set_option linter.unusedSimpArgs false
def boomsL (W : Int) (cs : List Int) : List Cell := ((List.range cs.length).filter fun i => decide (cs.getD i 0 > 0)).map fun i : Nat => cellI W (i : Int)
def cellsF (W : Int) (cs : List Int) (l : List Cell) : List Cell := (boomsL W cs).filter fun p => decide (p ∈ l)
/-- In order. -/
def ltC (a b : Cell) : Prop := a.2 < b.2 ∨ (a.2 = b.2 ∧ a.1 < b.1)
section
variable {W H : Int} {cs : List Int}
/-- Booms in order are booms of the chart. -/
theorem okB_of (hok : CO W H cs) {bs : List Cell} (hs : bs.Pairwise ltC) (hm : ∀ p ∈ bs, onB W H p.1 p.2 = true ∧ cs.getD (idxU W p).toNat 0 > 0) : okB W H cs bs = true := by
  unfold okB okBk
  rw [List.all_eq_true]
  intro k hk
  have hk : k < bs.length := by simpa using hk
  have hg : bs.getD k (0, 0) = bs[k] := by rw [List.getD_eq_getElem?_getD, List.getElem?_eq_getElem hk]; rfl
  obtain ⟨h1, h2⟩ := hm _ (List.getElem_mem hk)
  have h3 := idxU_in hok h1
  unfold badK
  rw [hg, (idxC_mod h1).1]
  simp only [Bool.not_eq_true', Bool.or_eq_false_iff, Bool.and_eq_false_iff, decide_eq_false_iff_not]
  refine ⟨by omega, by omega, ?_⟩
  by_cases hk0 : k = 0
  · exact .inl (by omega)
  · right
    have hg1 : bs.getD (k - 1) (0, 0) = bs[k - 1] := by rw [List.getD_eq_getElem?_getD, List.getElem?_eq_getElem (by omega)]; rfl
    rw [hg1, cmp_ge]
    have := (List.pairwise_iff_getElem.1 hs) (k - 1) k (by omega) hk (by omega)
    unfold ltC at this
    omega
theorem boomF_mem {bs : List Cell} (hon : ∀ p ∈ bs, onB W H p.1 p.2 = true) {p : Cell} (h : onB W H p.1 p.2 = true) : boomF W H bs (idxU W p) = true ↔ p ∈ bs := by
  unfold boomF boomP
  rw [List.take_length, List.any_eq_true]
  constructor
  · rintro ⟨q, hq, he⟩
    rw [decide_eq_true_eq, ← (idxC_mod h).1] at he
    rw [idxC_inj h (hon q hq) he]; exact hq
  · intro hp
    exact ⟨p, hp, by rw [decide_eq_true_eq, (idxC_mod h).1]⟩
end
end Go.Proofs.Ytbhpnhcdjmcaoaa

/- Boom, plain: booms block exactly if there is a barrier of them and of land. -/
namespace Go.Proofs.Ytbhpnhcdjmcaoaa
open Go.RowKit
set_option linter.unusedVariables false
set_option linter.unusedSimpArgs false
section
variable {W H : Int} {cs : List Int}
/-- What is wet, cell by cell. -/
def wetC (W : Int) (wet : Int → Bool) (p : Cell) : Bool := wet (idxU W p)
theorem near_adj {e : Bool} {p q : Cell} (hp : onB W H p.1 p.2 = true) (hq : onB W H q.1 q.2 = true) (h : adj e p q) : idxU W p ∈ nearL W H e (idxU W q) := by
  have := (near_iff (e := e) hp hq).2 h
  rwa [(idxC_mod hp).1, (idxC_mod hq).1] at this
theorem ra_walk (hok : CO W H cs) {wet : Int → Bool} {p : Cell} (h : RA W H (wetC W wet) p) : ∃ l, isWalk (iniW W cs.length wet (W - 1)) (nbW W H cs.length wet) (idxU W p :: l) := by
  induction h with
  | @ini p ho hw hx =>
    have hi := idxU_in hok ho
    refine ⟨[], ?_⟩
    show iniW W cs.length wet (W - 1) (idxU W p) = true
    unfold iniW
    rw [dd_t ⟨hi.1, hi.2.1⟩, show wet (idxU W p) = true from hw, dd_t (by rw [hi.2.2.2]; exact hx)]; rfl
  | @step p q ho hw ha hq ih =>
    obtain ⟨l, hl⟩ := ih
    have hi := idxU_in hok ho
    exact ⟨idxU W q :: l, nbW_iff.2 ⟨⟨hi.1, hi.2.1⟩, hw, near_adj hq.on.1 ho (adj_symm ha), hq.on.2⟩, hl⟩
theorem idx_cellI (hok : CO W H cs) {i : Int} (h0 : 0 ≤ i) (h : i < cs.length) : onB W H (cellI W i).1 (cellI W i).2 = true ∧ idxU W (cellI W i) = i :=
  cellI_idx (by have := hok.w; omega) h0 (by have := hok.len; omega)
theorem adj_near (hok : CO W H cs) {e : Bool} {i k : Int} (hi : 0 ≤ i ∧ i < cs.length) (hk : 0 ≤ k ∧ k < cs.length) (h : k ∈ nearL W H e i) : adj e (cellI W k) (cellI W i) := by
  obtain ⟨a1, a2⟩ := idx_cellI hok hi.1 hi.2
  obtain ⟨b1, b2⟩ := idx_cellI hok hk.1 hk.2
  rw [← (near_iff b1 a1), (idxC_mod a1).1, (idxC_mod b1).1, a2, b2]; exact h
theorem walk_ra (hok : CO W H cs) {wet : Int → Bool} : ∀ {l : List Int} {i : Int}, isWalk (iniW W cs.length wet (W - 1)) (nbW W H cs.length wet) (i :: l) → RA W H (wetC W wet) (cellI W i)
  | [], i, h => by
    have h : iniW W cs.length wet (W - 1) i = true := h
    unfold iniW at h
    simp only [Bool.and_eq_true, decide_eq_true_eq] at h
    obtain ⟨h1, h2, h3⟩ := h
    obtain ⟨a1, a2⟩ := idx_cellI hok h1.1 h1.2
    exact .ini a1 (by unfold wetC; rw [a2]; exact h2) h3
  | k :: r, i, h => by
    obtain ⟨h1, h2, h3, h4⟩ := nbW_iff.1 h.1
    have hk := (nbW_in (by have := hok.w; omega) hok.len i k h.1).2
    obtain ⟨a1, a2⟩ := idx_cellI hok h1.1 h1.2
    exact .step a1 (by unfold wetC; rw [a2]; exact h2) (adj_symm (adj_near hok h1 hk h3)) (walk_ra hok h.2)
/-- There is a channel exactly if water leads from one shore to the other. -/
theorem chan_some {wet : Int → Bool} (hok : CO W H cs) : (∃ l, chanO W H cs.length wet = some l) ↔ ∃ p, RA W H (wetC W wet) p ∧ p.1 = 0 := by
  have hW : 0 < W := by have := hok.w; omega
  have hD := distO_is (iniW W cs.length wet (W - 1)) (nbW W H cs.length wet)
  obtain ⟨h0, rfl⟩ : ∃ h0 : Nat, H = h0 := ⟨H.toNat, by have := hok.h; omega⟩
  constructor
  · rintro ⟨l, h⟩
    unfold chanO chanD at h
    rw [Int.toNat_natCast] at h
    cases hd : distW W h0 cs.length wet (W - 1) (bestC W (distW W h0 cs.length wet (W - 1)) h0) with
    | none => rw [hd] at h; cases h
    | some m =>
      obtain ⟨l', h1, _⟩ := hD.sound _ _ hd
      rcases bestC_spec hW (distW W h0 cs.length wet (W - 1)) h0 with ⟨h2, _⟩ | ⟨b, n, h2, h3, h4⟩
      · rw [h2] at hd
        have := (distW_dom hW hok.len hd).1; omega
      · refine ⟨_, walk_ra hok h1, ?_⟩
        rw [h2]
        show (b : Int) * W % W = 0
        exact Int.mul_emod_left _ _
  · rintro ⟨p, h1, h2⟩
    obtain ⟨l, hl⟩ := ra_walk hok h1
    obtain ⟨n, hn, _⟩ := hD.comp _ _ hl
    have ho := onB_t h1.on.1
    have hi : idxU W p = (p.2.toNat : Int) * W := by unfold idxU; rw [h2, Int.toNat_of_nonneg ho.2.1]; omega
    have hn : distW W h0 cs.length wet (W - 1) ((p.2.toNat : Int) * W) = some n := by rw [← hi]; exact hn
    unfold chanO chanD
    rw [Int.toNat_natCast]
    rcases bestC_spec hW (distW W h0 cs.length wet (W - 1)) h0 with ⟨h3, h4⟩ | ⟨b, m, h3, h4, h5⟩
    · have := h4 p.2.toNat (by omega)
      rw [this] at hn; cases hn
    · rw [h3, h5]; exact ⟨_, rfl⟩
/-- What holds, cell by cell. -/
def dryC (W : Int) (cs : List Int) (p : Cell) : Bool := !hldI cs (idxU W p)
end
end Go.Proofs.Ytbhpnhcdjmcaoaa

/- Boom, the laws: the chart without other booms, and what booms cost. -/
namespace Go.Proofs.Ytbhpnhcdjmcaoaa
open Go.RowKit
set_option linter.unusedVariables false
set_option linter.unusedSimpArgs false
def kpB (W : Int) (bs : List Cell) (k : Int) (j : Nat) : Bool := (bs.take j).any fun p => decide (idxU W p = k)
def deadG (W : Int) (cs : List Int) (bs : List Cell) (i : Int) : Int := if (decide (cs.getD i.toNat 0 ≤ 0) || kpB W bs i bs.length) = true then cs.getD i.toNat 0 else 0
def totK (W : Int) (cs : List Int) (l : List Cell) (k : Nat) : Int := ((l.take k).map fun p => cs.getD (idxU W p).toNat 0).sum
def totC (W : Int) (cs : List Int) (l : List Cell) : Int := (l.map fun p => cs.getD (idxU W p).toNat 0).sum
end Go.Proofs.Ytbhpnhcdjmcaoaa

/- Boom, plain: sets of booms that block, and what they cost. -/
namespace Go.Proofs.Ytbhpnhcdjmcaoaa
open Go.RowKit
set_option linter.unusedVariables false
set_option linter.unusedSimpArgs false
section
variable {W H : Int} {cs : List Int}
theorem okB_mem (hW : 0 < W) {bs : List Cell} (h : okB W H cs bs = true) {p : Cell} (hp : p ∈ bs) : onB W H p.1 p.2 = true ∧ cs.getD (idxU W p).toNat 0 > 0 := by
  obtain ⟨k, hk, rfl⟩ := List.getElem_of_mem hp
  have hon := okB_on hW h k hk
  have e : bs.getD k (0, 0) = bs[k] := by rw [List.getD_eq_getElem?_getD, List.getElem?_eq_getElem hk]; rfl
  rw [e] at hon
  refine ⟨hon, ?_⟩
  unfold okB okBk at h
  have := List.all_eq_true.1 h k (List.mem_range.2 hk)
  unfold badK at this
  simp only [Bool.not_eq_true', Bool.or_eq_false_iff, decide_eq_false_iff_not] at this
  have h2 := this.2.1
  rw [e, (idxC_mod hon).1] at h2
  omega
theorem CO.dead (hok : CO W H cs) (bs : List Cell) : CO W H (chgL cs (deadG W cs bs)) := hok.chg fun i h0 h => by
  unfold deadG
  have := hok.get h0 h
  split <;> omega
theorem bm_mem (hok : CO W H cs) {bs : List Cell} (hon : ∀ p ∈ bs, onB W H p.1 p.2 = true) {p : Cell} (hp : onB W H p.1 p.2 = true) : boomF W H bs (idxU W p) = decide (p ∈ bs) := by
  rw [Bool.eq_iff_iff, boomF_mem hon hp, decide_eq_true_eq]
/-- More booms leave less water. -/
theorem ra_mono {w w' : Cell → Bool} (h : ∀ p, onB W H p.1 p.2 = true → w p = true → w' p = true) {p : Cell} (hr : RA W H w p) : RA W H w' p := by
  induction hr with
  | ini ho hw hx => exact .ini ho (h _ ho hw) hx
  | step ho hw ha hq ih => exact .step ho (h _ ho hw) ha ih
theorem chan_mono (hok : CO W H cs) {wet wet' : Int → Bool} (h : ∀ p : Cell, onB W H p.1 p.2 = true → wet (idxU W p) = true → wet' (idxU W p) = true) (hn : chanO W H cs.length wet' = none) : chanO W H cs.length wet = none := by
  cases hc : chanO W H cs.length wet with
  | none => rfl
  | some l =>
    obtain ⟨p, h1, h2⟩ := (chan_some hok).1 ⟨l, hc⟩
    obtain ⟨l', hl'⟩ := (chan_some hok).2 ⟨p, ra_mono (w' := wetC W wet') (fun q hq hw => h q hq hw) h1, h2⟩
    rw [hn] at hl'; cases hl'
theorem wet_mono (hok : CO W H cs) {fs bs : List Cell} (hA : okB W H cs fs = true) (hB : okB W H cs bs = true) (hsub : ∀ p ∈ fs, p ∈ bs) {p : Cell} (hp : onB W H p.1 p.2 = true) (h : wetB cs (boomF W H bs) (idxU W p) = true) : wetB cs (boomF W H fs) (idxU W p) = true := by
  have hW : 0 < W := by have := hok.w; omega
  unfold wetB at h ⊢
  rw [bm_mem hok (fun q hq => (okB_mem hW hB hq).1) hp] at h
  rw [bm_mem hok (fun q hq => (okB_mem hW hA hq).1) hp]
  rw [Bool.and_eq_true] at h ⊢
  refine ⟨h.1, ?_⟩
  have h2 := h.2
  simp only [Bool.not_eq_true', decide_eq_false_iff_not] at h2 ⊢
  exact fun hm => h2 (hsub p hm)
theorem blocks_mono (hok : CO W H cs) {fs bs : List Cell} (hA : okB W H cs fs = true) (hB : okB W H cs bs = true) (hsub : ∀ p ∈ fs, p ∈ bs) (hn : chanO W H cs.length (wetB cs (boomF W H fs)) = none) : chanO W H cs.length (wetB cs (boomF W H bs)) = none :=
  chan_mono hok (fun p hp h => wet_mono hok hA hB hsub hp h) hn
end
end Go.Proofs.Ytbhpnhcdjmcaoaa

/- Boom, plain: booms of which none can be left out. -/
namespace Go.Proofs.Ytbhpnhcdjmcaoaa
open Go.RowKit
set_option linter.unusedVariables false
set_option linter.unusedSimpArgs false
/-- From the last one on: leave it out if the rest still does. -/
def thinL (bl : List Cell → Bool) : Nat → List Cell → List Cell
  | 0, l => l
  | k + 1, l => thinL bl k (if bl (l.eraseIdx k) = true then l.eraseIdx k else l)
theorem thin_sub (bl : List Cell → Bool) : ∀ (k : Nat) (l : List Cell), (thinL bl k l).Sublist l
  | 0, l => List.Sublist.refl l
  | k + 1, l => by
    refine (thin_sub bl k _).trans ?_
    split
    · exact List.eraseIdx_sublist _ _
    · exact List.Sublist.refl l
theorem thin_bl {bl : List Cell → Bool} : ∀ {k : Nat} {l : List Cell}, bl l = true → bl (thinL bl k l) = true
  | 0, l, h => h
  | k + 1, l, h => by
    refine thin_bl (k := k) ?_
    split
    · rename_i h1; exact h1
    · exact h
theorem erase2 : ∀ (l : List Cell) {k j : Nat}, k ≤ j → (l.eraseIdx k).eraseIdx j = (l.eraseIdx (j + 1)).eraseIdx k
  | [], k, j, _ => by simp
  | x :: r, 0, j, _ => by simp
  | x :: r, k + 1, 0, h => absurd h (by omega)
  | x :: r, k + 1, j + 1, h => by simp only [List.eraseIdx_cons_succ]; rw [erase2 r (by omega)]
theorem thin_min {bl : List Cell → Bool} {bs : List Cell} (hm : ∀ s s' : List Cell, s.Sublist s' → s'.Sublist bs → bl s = true → bl s' = true) : ∀ {k : Nat} {l : List Cell}, l.Sublist bs → (∀ j, k ≤ j → j < l.length → bl (l.eraseIdx j) = false) →
    ∀ j, j < (thinL bl k l).length → bl ((thinL bl k l).eraseIdx j) = false
  | 0, l, hs, h, j, hj => h j (by omega) hj
  | k + 1, l, hs, h, j, hj => by
    refine thin_min hm (k := k) ?_ ?_ j hj
    · split
      · exact (List.eraseIdx_sublist _ _).trans hs
      · exact hs
    · intro i hi hil
      by_cases hb : bl (l.eraseIdx k) = true
      · rw [if_pos hb] at hil ⊢
        by_cases hk : k < l.length
        · rw [List.length_eraseIdx_of_lt hk] at hil
          rw [erase2 l hi]
          have := h (i + 1) (by omega) (by omega)
          cases hc : bl ((l.eraseIdx (i + 1)).eraseIdx k) with
          | false => rfl
          | true => rw [hm _ _ (List.eraseIdx_sublist _ _) ((List.eraseIdx_sublist _ _).trans hs) hc] at this; cases this
        · rw [List.eraseIdx_of_length_le (by omega)] at hil ⊢
          omega
      · rw [if_neg hb] at hil ⊢
        by_cases hik : i = k
        · subst hik; exact Bool.eq_false_iff.2 hb
        · exact h i (by omega) hil
theorem filter_one {α : Type} [DecidableEq α] : ∀ {l : List α} {k : Nat} (hd : l.Nodup) (hk : k < l.length), l.filter (fun p => decide (p ≠ l[k])) = l.eraseIdx k
  | x :: r, 0, hd, hk => by
    obtain ⟨h1, h2⟩ := List.nodup_cons.1 hd
    simp only [List.getElem_cons_zero, List.eraseIdx_cons_zero]
    rw [List.filter_cons_of_neg (by simp), List.filter_eq_self.2 fun p hp => by
      rw [decide_eq_true_eq]; intro e; exact h1 (e ▸ hp)]
  | x :: r, k + 1, hd, hk => by
    obtain ⟨h1, h2⟩ := List.nodup_cons.1 hd
    have hk' : k < r.length := by simpa using hk
    simp only [List.getElem_cons_succ, List.eraseIdx_cons_succ]
    rw [List.filter_cons_of_pos (by rw [decide_eq_true_eq]; intro e; exact h1 (e ▸ List.getElem_mem hk')), filter_one h2 hk']
section
variable {W H : Int} {cs : List Int}
theorem okB_sorted {bs : List Cell} (h : okB W H cs bs = true) : bs.Pairwise ltC := by
  have step : ∀ i, (hi : i + 1 < bs.length) → ltC bs[i] bs[i + 1] := by
    intro i hi
    unfold okB okBk at h
    have h1 := List.all_eq_true.1 h (i + 1) (List.mem_range.2 hi)
    unfold badK at h1
    simp only [Bool.not_eq_true', Bool.or_eq_false_iff, Bool.and_eq_false_iff, decide_eq_false_iff_not, Nat.add_sub_cancel] at h1
    have h2 := h1.2.2
    have e1 : bs.getD i (0, 0) = bs[i] := by rw [List.getD_eq_getElem?_getD, List.getElem?_eq_getElem (by omega)]; rfl
    have e2 : bs.getD (i + 1) (0, 0) = bs[i + 1] := by rw [List.getD_eq_getElem?_getD, List.getElem?_eq_getElem hi]; rfl
    rw [e1, e2, cmp_ge] at h2
    unfold ltC
    omega
  rw [List.pairwise_iff_getElem]
  have all : ∀ d i, (hi : i + d + 1 < bs.length) → ltC bs[i] bs[i + d + 1] := by
    intro d
    induction d with
    | zero => intro i hi; exact step i hi
    | succ d ih =>
      intro i hi
      have h1 := ih i (by omega)
      have h2 := step (i + d + 1) (by omega)
      unfold ltC at h1 h2 ⊢
      have e : bs[i + (d + 1) + 1] = bs[i + d + 1 + 1] := by congr 1
      rw [e]
      omega
  intro i j hi hj hij
  have := all (j - i - 1) i (by omega)
  have e : bs[i + (j - i - 1) + 1] = bs[j] := by congr 1; omega
  rw [e] at this; exact this
theorem sorted_nodup {bs : List Cell} (h : bs.Pairwise ltC) : bs.Nodup :=
  List.Pairwise.imp (fun {a b} hlt e => by subst e; unfold ltC at hlt; omega) h
theorem okB_sub (hok : CO W H cs) {bs s : List Cell} (h : okB W H cs bs = true) (hs : s.Sublist bs) : okB W H cs s = true :=
  okB_of hok (List.Pairwise.sublist hs (okB_sorted h)) fun p hp => okB_mem (by have := hok.w; omega) h (hs.subset hp)
/-- Booms but one. -/
theorem boomF_erase (hok : CO W H cs) {l : List Cell} (h : okB W H cs l = true) {k : Nat} (hk : k < l.length) : (fun j => boomF W H l j && !decide (j = idxC W H l[k])) = boomF W H (l.eraseIdx k) := by
  have hW : 0 < W := by have := hok.w; omega
  have hd := sorted_nodup (okB_sorted h)
  funext j
  rw [Bool.eq_iff_iff, ← filter_one hd hk]
  simp only [boomF, boomP, List.take_length, List.any_eq_true, Bool.and_eq_true, decide_eq_true_eq, Bool.not_eq_true', decide_eq_false_iff_not, List.mem_filter]
  constructor
  · rintro ⟨⟨p, hp, rfl⟩, hne⟩
    exact ⟨p, ⟨hp, fun e => hne (by rw [e])⟩, rfl⟩
  · rintro ⟨p, ⟨hp, hne⟩, rfl⟩
    exact ⟨⟨p, hp, rfl⟩, fun e => hne (idxC_inj (okB_mem hW h hp).1 (okB_mem hW h (List.getElem_mem hk)).1 e)⟩
theorem boomF_back {l : List Cell} {k : Nat} (hk : k < l.length) : (fun j => (boomF W H l j && !decide (j = idxC W H l[k])) || decide (j = idxC W H l[k])) = boomF W H l := by
  funext j
  have hm : boomF W H l (idxC W H l[k]) = true := by
    simp only [boomF, boomP, List.take_length, List.any_eq_true, decide_eq_true_eq]
    exact ⟨_, List.getElem_mem hk, rfl⟩
  by_cases hj : j = idxC W H l[k]
  · subst hj; rw [hm]; simp
  · simp [hj]
noncomputable def blkL (W H : Int) (cs : List Int) (l : List Cell) : Bool := (chanO W H cs.length (wetB cs (boomF W H l))).isNone
theorem blkL_mono (hok : CO W H cs) {bs : List Cell} (h : okB W H cs bs = true) : ∀ s s' : List Cell, s.Sublist s' → s'.Sublist bs → blkL W H cs s = true → blkL W H cs s' = true := by
  intro s s' h1 h2 h3
  unfold blkL at h3 ⊢
  rw [Option.isNone_iff_eq_none] at h3 ⊢
  exact blocks_mono hok (okB_sub hok h (h1.trans h2)) (okB_sub hok h h2) (fun p hp => h1.subset hp) h3
/-- Thin booms. -/
noncomputable def thinO (W H : Int) (cs : List Int) (bs : List Cell) : List Cell := thinL (blkL W H cs) bs.length bs
theorem thinO_sub (bs : List Cell) : (thinO W H cs bs).Sublist bs := thin_sub _ _ _
theorem thinO_bl {bs : List Cell} (h : blkL W H cs bs = true) : blkL W H cs (thinO W H cs bs) = true := thin_bl h
theorem thinO_min (hok : CO W H cs) {bs : List Cell} (h : okB W H cs bs = true) : ∀ j, j < (thinO W H cs bs).length → blkL W H cs ((thinO W H cs bs).eraseIdx j) = false :=
  thin_min (blkL_mono hok h) (List.Sublist.refl _) fun j h1 h2 => absurd h2 (by omega)
/-- One step from behind. -/
theorem thin_step {bs l : List Cell} {k : Nat} (ht : l.take (k + 1) = bs.take (k + 1)) (hk : k + 1 ≤ l.length) (hb : k < bs.length) : bs[k] = l[k] ∧ (l.eraseIdx k).take k = bs.take k ∧ l.take k = bs.take k ∧ k ≤ (l.eraseIdx k).length := by
  have h1 : l.take k = bs.take k := by
    have := congrArg (List.take k) ht
    rwa [List.take_take, List.take_take, Nat.min_eq_left (by omega)] at this
  refine ⟨?_, ?_, h1, ?_⟩
  · have := congrArg (fun x => x[k]?) ht
    simp only [List.getElem?_take, if_pos (show k < k + 1 by omega)] at this
    rw [List.getElem?_eq_getElem (by omega), List.getElem?_eq_getElem hb] at this
    exact (Option.some.inj this).symm
  · rw [List.eraseIdx_eq_take_drop_succ, List.take_append_of_le_length (by rw [List.length_take]; omega), List.take_take, Nat.min_self, h1]
  · rw [List.length_eraseIdx_of_lt (by omega)]; omega
end
end Go.Proofs.Ytbhpnhcdjmcaoaa

/- slices.Delete of one cell. -/
namespace Go.Proofs.Ytbhpnhcdjmcaoaa
open Go.RowKit
set_option linter.unusedVariables false
set_option linter.unusedSimpArgs false
section
variable {P : Program}
theorem run_app_in (w : World) (t ty e : TypeId) (i : TypeInfo) (ht : P.underlying t = some (.slice e)) (hi : P.info? e = some i) (hsz : i.size = 2) (g off n cap : Nat) (cur : Array Value) (hg : w.heap[g]? = some (.cells cur e (0, 0)))
    (a : Addr) (m c : Nat) (news : List Value) (hl : news.length = m * 2) (hnews : ∀ j u, news[j]? = some u → w.cell? (a.add j) = some u) (h1 : ∀ u ∈ news, u.oneCell' = true) (hroom : n + m ≤ cap) (hcs : off + cap * 2 ≤ cur.size) :
    (Builtin.append_ #[t, t] ty #[.slice (some ⟨g, off, none⟩) n cap, .slice (some a) m c]).run P w = .ok (.slice (some ⟨g, off, none⟩) (n + m) cap) (w.setRow g (cur.toList.take (off + n * 2) ++ news ++ cur.toList.drop (off + n * 2 + news.length)).toArray) := by
  have hf := run_firstCells_some (P := P) w i.size m a m c news (by rw [hsz]; exact hl) hnews
  have hst := run_storeCells_at P g (off + n * i.size) e news 0 cur w hg (by rw [hsz]; omega) h1
  simp only [Nat.add_zero] at hst
  have hadd : (⟨g, off, none⟩ : Addr).add (n * i.size) = ⟨g, off + n * i.size, none⟩ := by unfold Addr.add; split <;> simp_all
  rw [← hsz]
  simp [Builtin.append_, run_underlying ht, sizeOf, typeInfo, hi, Builtin.lenOf, hroom, hf, hadd, hst]
theorem run_clear_one (w : World) (t e ty : TypeId) (z : Value) (ht : P.underlying t = some (.slice e)) (hv : ∀ w, (zeroValue e).run P w = .ok z w) (x y : Value) (hz : z.cells = #[x, y]) (h1 : x.oneCell' = true) (h2 : y.oneCell' = true) (g o c : Nat) (cur : Array Value) (hg : w.heap[g]? = some (.cells cur e (0, 0))) (hcs : o + 2 ≤ cur.size) :
    (Builtin.clear_ #[t] ty #[.slice (some ⟨g, o, none⟩) 1 c]).run P w = .ok (.tuple #[]) (w.setRow g (cur.toList.take o ++ [x, y] ++ cur.toList.drop (o + 2)).toArray) := by
  have hst := run_storeCells_at P g o e [x, y] 0 cur w hg (by simpa using hcs) (by intro v hv; simp at hv; rcases hv with rfl | rfl; exact h1; exact h2)
  simp only [Nat.add_zero] at hst
  have hzc : (Builtin.zeroCells z.cells 1).toList = [x, y] := by rw [hz]; simp [Builtin.zeroCells, Array.toList_range, List.range_succ]
  simp [Builtin.clear_, run_underlying ht, hv, hzc, hst]
/-- An append in a region that draws its order, by its run. -/
theorem step_append_any {ops : Array Oper} {o : Oper} {a : Act} {w : World} {K : Act → World → Prop} {Q : Exit → Act → World → Prop} {E : Prop}
    (hg : o.guard = none) (s x : Operand) (t : TypeId) (hop : o.op = Op.call { callee := Callee.builtin Builtin.append, args := #[s, x], argTypes := #[t, t] })
    (vs vx v' : Value) (w' : World) (hs : a.eval s = vs) (hx : a.eval x = vx) (hrun : ∀ ty, (Builtin.append_ #[t, t] ty #[vs, vx]).run P w = .ok v' w') (hK : K (a.put o.dst v') w') :
    if Region.wanted o (yielded ops a.tmps) = true then Oper.wp P o a w K Q else E := by
  have hw : Region.wanted o (yielded ops a.tmps) = true := by simp [Region.wanted, hg]
  rw [if_pos hw]
  unfold Oper.wp
  simp [execOp, hop, resolve, invoke, builtin, hs, hx, hrun, Result.andThen]
  exact hK
end
theorem row_del {w : World} {n0 g off n cap i : Nat} {xs : List Value} {cur : Array Value} {x y : Value} (hg : w.heap[g]? = some (.cells cur 57 (0, 0))) (hx : xs.length = n * 2) (hb : n0 ≤ g) (hnc : n ≤ cap) (hcm : cap ≤ maxLen) (hcs : off + cap * 2 ≤ cur.size) (htake : (cur.toList.drop off).take (n * 2) = xs) (hi : i < n) (w1 w2 : World)
    (hw1 : w1 = w.drew.setRow g (cur.toList.take (off + i * 2) ++ xs.drop ((i + 1) * 2) ++ cur.toList.drop (off + i * 2 + (xs.drop ((i + 1) * 2)).length)).toArray)
    (hw2 : ∀ cur1, w1.heap[g]? = some (.cells cur1 57 (0, 0)) → w2 = w1.setRow g (cur1.toList.take (off + (i + (n - (i + 1))) * 2) ++ [x, y] ++ cur1.toList.drop (off + (i + (n - (i + 1))) * 2 + 2)).toArray) :
    w.grownBy w2 (some g) ∧ rowO w2 n0 57 2 (.slice (some ⟨g, off, none⟩) (i + (n - (i + 1))) cap) (i + (n - (i + 1))) (xs.take (i * 2) ++ xs.drop ((i + 1) * 2)) := by
  have hlx : (xs.drop ((i + 1) * 2)).length = (n - (i + 1)) * 2 := by rw [List.length_drop, hx]; omega
  have hg1 : w1.heap[g]? = some (.cells (cur.toList.take (off + i * 2) ++ xs.drop ((i + 1) * 2) ++ cur.toList.drop (off + i * 2 + (xs.drop ((i + 1) * 2)).length)).toArray 57 (0, 0)) := by
    rw [hw1]; exact setRow_heap w.drew g cur _ 57 _ hg
  have h2 := hw2 _ hg1
  have hcl : cur.toList.length = cur.size := Array.length_toList
  have ht1 : (cur.toList.take (off + i * 2)).length = off + i * 2 := by rw [List.length_take]; omega
  have hgg := setRow_heap w1 g _ (List.toArray (List.take (off + (i + (n - (i + 1))) * 2) (cur.toList.take (off + i * 2) ++ xs.drop ((i + 1) * 2) ++ cur.toList.drop (off + i * 2 + (xs.drop ((i + 1) * 2)).length)) ++ [x, y] ++ List.drop (off + (i + (n - (i + 1))) * 2 + 2) (cur.toList.take (off + i * 2) ++ xs.drop ((i + 1) * 2) ++ cur.toList.drop (off + i * 2 + (xs.drop ((i + 1) * 2)).length)))) 57 _ hg1
  simp only [List.toList_toArray] at h2
  rw [← h2] at hgg
  have e1 : (cur.toList.take (off + i * 2) ++ xs.drop ((i + 1) * 2) ++ cur.toList.drop (off + i * 2 + (xs.drop ((i + 1) * 2)).length)).take (off + (i + (n - (i + 1))) * 2) = cur.toList.take (off + i * 2) ++ xs.drop ((i + 1) * 2) := by
    rw [List.take_left' (by rw [List.length_append, ht1, hlx]; omega)]
  rw [e1] at hgg
  refine ⟨?_, ?_, .inr ⟨g, off, cap, _, rfl, hb, hgg, by omega, hcm, ?_, ?_⟩⟩
  · rw [h2, hw1]
    exact ⟨rfl, rfl, rfl, by simp, fun k hk hne => by rw [setRow_other _ g k _ (fun e => hne (by rw [e])), setRow_other _ g k _ (fun e => hne (by rw [e]))]; rfl⟩
  · rw [List.length_append, List.length_take, hlx, hx]; omega
  · simp only [List.size_toArray, List.length_append, List.length_drop, ht1, hlx, List.length_cons, List.length_nil]; omega
  · rw [List.append_assoc, List.append_assoc, List.drop_append_of_le_length (by rw [ht1]; omega), List.drop_take, show off + i * 2 - off = i * 2 by omega]
    have : (cur.toList.drop off).take (i * 2) = xs.take (i * 2) := by rw [← htake, List.take_take]; congr 1; omega
    rw [this, ← List.append_assoc, List.take_left' (by rw [List.length_append, List.length_take, hlx, hx]; omega)]
set_option maxRecDepth 1000000 in
set_option maxHeartbeats 4000000 in
theorem delete_any (g off n cap i j : Nat) (w : World) (n0 : Nat) (xs : List Value) (hown : rowO w n0 57 2 (.slice (some ⟨g, off, none⟩) n cap) n xs) (h1 : ∀ u ∈ xs, u.oneCell' = true) (hij : j = i + 1) (hj : j ≤ n) :
    Calls Try.prog 91 #[.slice (some ⟨g, off, none⟩) n cap, .int .i64 i, .int .i64 j] w fun e w' => e = .returned (.slice (some ⟨g, off, none⟩) (i + (n - j)) cap) ∧ w.grownBy w' (some g) ∧ rowO w' n0 57 2 (.slice (some ⟨g, off, none⟩) (i + (n - j)) cap) (i + (n - j)) (xs.take (i * 2) ++ xs.drop (j * 2)) := by
  obtain ⟨hx, ⟨h', _⟩ | ⟨g', off', cap', cur, h', hb, hg, hnc, hcm, hcs, htake⟩⟩ := hown
  · simp at h'
  simp only [Value.slice.injEq, Option.some.injEq, Addr.mk.injEq, and_true, true_and] at h'
  obtain ⟨⟨rfl, rfl⟩, rfl⟩ := h'
  obtain ⟨i0, hi0, hz0⟩ : ∃ i, Try.prog.info? 57 = some i ∧ i.size = 2 := ⟨(Try.prog.info? 57).getD default, by kernel_rfl, by kernel_rfl⟩
  have hcell : ∀ t u, xs[t]? = some u → w.drew.cell? ⟨g, off + t, none⟩ = some u := by
    intro t u hu
    have ht : t < n * 2 := by rw [← hx]; exact (List.getElem?_eq_some_iff.1 hu).1
    show w.cell? _ = _
    rw [cell_of_row w g (off + t) cur 57 (0, 0) hg, ← hu, ← htake, List.getElem?_take, if_pos ht, List.getElem?_drop]
    simp
  obtain ⟨news, hnews⟩ : ∃ news, news = xs.drop (j * 2) := ⟨_, rfl⟩
  have hlen : news.length = (n - j) * 2 := by rw [hnews, List.length_drop, hx]; omega
  obtain ⟨A, hA, hsrc⟩ : ∃ A : Addr, (if cap = j then some (⟨g, off, none⟩ : Addr) else some ⟨g, off + j * 2, none⟩) = some A ∧ (∀ t u, news[t]? = some u → w.drew.cell? (A.add t) = some u) := by
    by_cases h : cap = j
    · refine ⟨⟨g, off, none⟩, by simp [h], fun t u hu => ?_⟩
      have h0 : news.length = 0 := by rw [hlen]; omega
      rw [List.length_eq_zero_iff.1 h0] at hu
      simp at hu
    · refine ⟨⟨g, off + j * 2, none⟩, by simp [h], fun t u hu => ?_⟩
      rw [hnews, List.getElem?_drop] at hu
      rw [Addr.add_lit, Nat.add_assoc]
      exact hcell _ _ hu
  obtain ⟨W1, hW1⟩ : ∃ W1, W1 = w.drew.setRow g (cur.toList.take (off + i * 2) ++ news ++ cur.toList.drop (off + i * 2 + news.length)).toArray := ⟨_, rfl⟩
  have hrun : ∀ ty, (Builtin.append_ #[30, 30] ty #[.slice (some ⟨g, off, none⟩) i cap, .slice (some A) (n - j) (cap - j)]).run Try.prog w.drew = .ok (.slice (some ⟨g, off, none⟩) (i + (n - j)) cap) W1 := fun ty => by
    rw [hW1]
    exact run_app_in w.drew 30 ty 57 i0 Try.underlying30 hi0 hz0 g off i cap cur hg A (n - j) (cap - j) news hlen hsrc (fun u hu => h1 u (List.mem_of_mem_drop (hnews ▸ hu))) (by omega) hcs
  have hg1 : W1.heap[g]? = some (.cells (cur.toList.take (off + i * 2) ++ news ++ cur.toList.drop (off + i * 2 + news.length)).toArray 57 (0, 0)) := by
    rw [hW1]; exact setRow_heap w.drew g cur _ 57 _ hg
  have hsz1 : off + (i + (n - j)) * 2 + 2 ≤ (cur.toList.take (off + i * 2) ++ news ++ cur.toList.drop (off + i * 2 + news.length)).toArray.size := by
    simp only [List.size_toArray, List.length_append, List.length_take, List.length_drop, Array.length_toList, hlen]; omega
  obtain ⟨cur1, hcur1⟩ : ∃ c, c = (cur.toList.take (off + i * 2) ++ news ++ cur.toList.drop (off + i * 2 + news.length)).toArray := ⟨_, rfl⟩
  rw [← hcur1] at hg1 hsz1
  have hone : n - (i + (n - j)) = 1 := by omega
  obtain ⟨W2, hW2⟩ : ∃ W2, W2 = W1.setRow g (cur1.toList.take (off + (i + (n - j)) * 2) ++ [Value.int .i64 0, Value.int .i64 0] ++ cur1.toList.drop (off + (i + (n - j)) * 2 + 2)).toArray := ⟨_, rfl⟩
  have hcl : ∀ ty, (Builtin.clear_ #[30] ty #[.slice (some ⟨g, off + (i + (n - j)) * 2, none⟩) (n - (i + (n - j))) (cap - (i + (n - j)))]).run Try.prog W1 = .ok (.tuple #[]) W2 := fun ty => by
    rw [hone, hW2]
    exact run_clear_one W1 30 57 ty _ Try.underlying30 (fun w => Try.zeroValue57 w) _ _ rfl rfl rfl g _ _ cur1 hg1 hsz1
  have hfin := row_del (w := w) (n0 := n0) (x := .int .i64 0) (y := .int .i64 0) hg hx hb hnc hcm hcs htake (i := i) (by omega) W1 W2 (by rw [hW1, hnews, hij]) (fun c hc => by rw [hg1] at hc; cases hc; rw [hW2, hij])
  rw [← hij] at hfin
  have hic : i ≤ cap := by omega
  have hjc : j ≤ cap := by omega
  have hij' : i ≠ j := by omega
  have hle : i ≤ j := by omega
  have H1 : Hid (∀ ty, (Builtin.append_ #[30, 30] ty #[.slice (some ⟨g, off, none⟩) i cap, .slice (some A) (n - j) (cap - j)]).run Try.prog w.drew = .ok (.slice (some ⟨g, off, none⟩) (i + (n - j)) cap) W1) := hrun
  clear hij hrun hcell hsrc hW1 hW2 hg1 hsz1 hcur1 hg htake h1 hone hnews hlen
  go_enter Try.func91, Try.ntmps91
  go_wp2_with fail
  go_region_law (refine step_append_any rfl (.tmp 22) (.tmp 25) 30 rfl (.slice (some ⟨g, off, none⟩) i cap) (.slice (some A) (n - j) (cap - j)) (.slice (some ⟨g, off, none⟩) (i + (n - j)) cap) W1 (by simp [Act.eval, Act.put]) (by simp [Act.eval, Act.put, *]) H1.out ?_)
  go_wp2
  go_ret
  exact ⟨rfl, hfin⟩
end Go.Proofs.Ytbhpnhcdjmcaoaa

