/- Texts of the proof, part 6: X2, P15, X3, D1, D2, D3, X4. -/
import Derived.Test.YtbhpnhcdjmcaoaaI5
import Derived.WalkKit
import Derived.Below
import Derived.Laws.OwnMore
import Derived.Maps.AppendAt
import Derived.Laws.IdiomCopy
import Derived.Laws.CopyRow
import Derived.IntWalk
import Derived.StillTail
import Derived.Scope
import Derived.ChangeKeysEq
import Derived.Laws.Small
import Derived.OrdersIn
import Derived.TacticsIn
import Derived.OwnWalkIn
import Derived.RangeFuncNested
import Derived.RangeFuncLeaves
import Derived.RangeFuncRecord
import Derived.Maps.Keyed
import Derived.Maps.RangeRun
import Derived.DeepKeys4
import Derived.Test.YtbhpnhcdjmcaoaaRows
import Derived.KernelRfl
import Derived.ProofKit
import Derived.OpenShut
import Derived.Lib.SmallJoins
import Derived.Deep.Slices
/- Boom: the shortest channel that comes first, and whether booms block. -/
namespace Go.Proofs.Ytbhpnhcdjmcaoaa
open Go.RowKit
set_option linter.unusedVariables false
set_option linter.unusedSimpArgs false
/-- What channel gives back. -/
def chanR (o : Option (List Int)) (v : V) (L' : List E) : Prop :=
  match o with
  | none => v = V.tup [A.c .nil, A.c .ff]
  | some l => ∃ lab, v = V.tup [A.c (.sl lab l.length), A.c .tt] ∧ find L' lab = some ⟨lab, .vec 3 1, l.map C.i⟩
section
variable {P : Program} {n0 nx nac : Nat} {f : FuncId} {vs vs' : List V} {Lc L : List E} {R : Rn} {K : V → List E → Nat → Prop}
theorem CallK.chanN {o : Option (List Int)} (ho : o = none) (spec : Spec P f vs Lc nac (fun v L' _ => chanR o v L')) (hok : callB P f = true)
    (hv : renVs R vs = some vs') (hvw : ∀ v ∈ vs, v.wf nac) (hL : roL R nac L Lc) (hLc : injB [] Lc = true)
    (hK : K (V.tup [A.c .nil, A.c .ff]) [] nx) : CallK P n0 f vs' L nx K := by
  refine CallK.mk' hok spec hv hvw hL hLc ?_
  intro v L' nx' hw hq
  subst ho
  have hq : v = V.tup [A.c .nil, A.c .ff] := hq
  subst hq
  exact ⟨V.tup [A.c .nil, A.c .ff], [], nx, [], ⟨Nat.le_refl _, rfl, rfl, trivial, rfl, rfl⟩, hK⟩
theorem CallK.chanS {o : Option (List Int)} {l : List Int} (ho : o = some l) (spec : Spec P f vs Lc nac (fun v L' _ => chanR o v L')) (hok : callB P f = true)
    (hv : renVs R vs = some vs') (hvw : ∀ v ∈ vs, v.wf nac) (hL : roL R nac L Lc) (hLc : injB [] Lc = true)
    (hK : K (V.tup [A.c (.sl nx l.length), A.c .tt]) [⟨nx, .vec 3 1, l.map C.i⟩] (nx + 1)) : CallK P n0 f vs' L nx K := by
  refine CallK.mk' hok spec hv hvw hL hLc ?_
  intro v L' nx' hw hq
  subst ho
  obtain ⟨lab, rfl, hf⟩ := hq
  refine ⟨V.tup [A.c (.sl nx l.length), A.c .tt], [⟨nx, .vec 3 1, l.map C.i⟩], nx + 1, [(nx, some lab)], ⟨Nat.le_succ _, ?_, ?_, ⟨covE_some (renL_one _ _) (Nat.lt_succ_self nx) (wf_ints _ _) hf (ren_ints _ _), trivial⟩, rfl, ?_⟩, hK⟩
  · simp [V.ren, A.ren, C.ren, renL_one, seqO]
  · simp [V.chk, A.chk, C.chk, inLab_one]
  · simp only [List.all_cons, List.all_nil, Bool.and_true, inLab_one, Kd.isRo, Bool.not_false, Bool.true_and]
    exact chk_ints _ _
end
set_option maxRecDepth 10000 in
set_option maxHeartbeats 8000000 in
theorem channel_spec (W H : Int) (cs : List Int) (f : Int → Bool) (hok : CO W H cs) :
    Spec Try.prog 85 [chV W H cs.length] [⟨0, .ro 0, cs.map C.i⟩, ⟨1, .mp false .int (bmF f), []⟩] 2 (fun v L' _ => chanR (chanO W H cs.length (wetB cs f)) v L') := by
  have hlm : (cs.map C.i).length = cs.length := by simp
  obtain ⟨hW, hH, hcl, hcost⟩ := hok
  have hok : CO W H cs := ⟨hW, hH, hcl, hcost⟩
  have hn : (cs.length : Int) ≤ 100 := by have := Int.mul_le_mul hW.2 hH.2 (by omega) (by omega : (0:Int) ≤ 10); omega
  obtain ⟨h0, rfl⟩ : ∃ h0 : Nat, H = h0 := ⟨H.toNat, by omega⟩
  have hW0 : 0 < W := by omega
  have hfr := from_spec W h0 cs f (W - 1) hok (by omega)
  have hcho : chanO W h0 cs.length (wetB cs f) = chanD W h0 (distW W h0 cs.length (wetB cs f) (W - 1)) := rfl
  have hdom : ∀ {i m : Int}, distW W h0 cs.length (wetB cs f) (W - 1) i = some m → 0 ≤ i ∧ i < cs.length := fun h => (distW_dom hW0 hcl h).1
  have hbd : ∀ {i m : Int}, distW W h0 cs.length (wetB cs f) (W - 1) i = some m → 0 ≤ m ∧ m < cs.length := fun h => distW_bd hW0 hcl h
  have hnx : ∀ {i m : Int}, distW W h0 cs.length (wetB cs f) (W - 1) i = some m → 0 < m → ∃ k, nextC W h0 (distW W h0 cs.length (wetB cs f) (W - 1)) i (m - 1) = some k ∧ distW W h0 cs.length (wetB cs f) (W - 1) k = some (m - 1) ∧ k ∈ nearL W h0 false i := fun h h1 => nextC_some h h1
  obtain ⟨d, hd⟩ : ∃ d, d = distW W h0 cs.length (wetB cs f) (W - 1) := ⟨_, rfl⟩
  rw [← hd] at hcho hfr
  simp only [← hd] at hdom hbd hnx
  rw [hcho]
  unfold chanD
  rw [Int.toNat_natCast]
  clear hcho
  refine Spec.of tok Try.func85 rfl rfl rfl fun n0 cx => vc_ok tok ?_
  repeat ((conv => whnf); first | (refine And.intro (by first | omega | exact Nat.le_of_ble_eq_true rfl | (dsimp only [inK]; omega)) ?_) | refine Exists.intro _ (And.intro rfl ?_) | refine fun (K' : K3) hK' => ?_ | (refine hK' _ _ _ ?_; clear hK' K') | refine CallK.mapR (R := []) hfr (by kernel_rfl) rfl (by simp [V.wf, A.wf, C.wf, V.i]) ⟨roE_ints (l := 0) rfl (by omega) rfl (.inl rfl), roE_map (l := 1) rfl (by omega) rfl, trivial⟩ rfl ?_ | refine CallK.m ?_)
  refine Tri.loop (γ := Nat) (fun k => k ≤ h0) (fun k => [(1, V.c (.ptr 2 0)), (4, V.c (.ptr 4 0)), (5, V.i (bestC W d k)), (23, V.i h0), (24, V.i (k : Nat))])
    (fun k => [⟨4, .own 108, [.mp 3]⟩, ⟨3, .mp true .int (stepF d), []⟩, ⟨2, .own 65, [C.i W, C.i h0, .sl 0 cs.length, .mp 1]⟩, ⟨0, .ro 0, cs.map C.i⟩, ⟨1, .mp false .int (bmF f), []⟩]) 5 (fun k => h0 - k) 0 (R0 := []) ?_ ?_ ?_
  · omega
  · skip
    refine ⟨?_, ?_, rfl, rfl, by exact Nat.le_of_ble_eq_true rfl⟩
    · repeat (first | exact trivial | (refine And.intro (covS_syn (by rfl) rfl (by first | exact trivial | exact Nat.le_of_ble_eq_true rfl)) ?_))
    · repeat (first | exact trivial | refine And.intro (covE_mp rfl (Nat.le_of_ble_eq_true rfl) rfl rfl) ?_ | (refine And.intro (covE_id (Nat.le_of_ble_eq_true rfl) (by first | exact wf_ints _ _ | simp [C.wf]) rfl (by rfl)) ?_))
  · intro k hk
    refine vc_ok tok ?_
    by_cases hlt : k < h0
    · have hkw : 0 ≤ (k : Int) * W ∧ (k : Int) * W ≤ 100 := by
        have h1 : 0 ≤ (k : Int) * W := Int.mul_nonneg (by omega) (by omega)
        have h2 := Int.mul_le_mul (show (k : Int) ≤ 10 by omega) hW.2 (by omega) (by omega : (0:Int) ≤ 10)
        omega
      cases hdk : d ((k : Int) * W) with
      | none =>
        have hst : bestC W d (k + 1) = bestC W d k := by simp only [bestC, hdk]
        repeat ((conv => whnf); first | (refine And.intro (by first | omega | exact Nat.le_of_ble_eq_true rfl | (dsimp only [inK]; omega)) ?_) | with_reducible refine lkm (stepF_none hdk) ?_ | refine Exists.intro _ (And.intro rfl ?_) | refine br_t (by omega) ?_ | refine fun (K' : K3) hK' => ?_ | (refine hK' _ _ _ ?_; clear hK' K'))
        refine ⟨k + 1, [], by omega, by omega, ?_⟩
        refine ⟨?_, ?_, rfl, rfl, by exact Nat.le_of_ble_eq_true rfl⟩
        · repeat (first | exact trivial | (refine And.intro (covS_syn (by first | rfl | (refine congrArg some (congrArg V.i ?_); first | omega | exact hst.symm)) rfl (by first | exact trivial | exact Nat.le_of_ble_eq_true rfl)) ?_))
        · repeat (first | exact trivial | refine And.intro (covE_mp rfl (Nat.le_of_ble_eq_true rfl) rfl rfl) ?_ | (refine And.intro (covE_id (Nat.le_of_ble_eq_true rfl) (by first | exact wf_ints _ _ | simp [C.wf]) rfl (by rfl)) ?_))
      | some n =>
        have hb1 := hbd hdk
        rcases bestC_spec hW0 d k with ⟨h1, h2⟩ | ⟨b, n', h1, h2, h3⟩
        · have hst : bestC W d (k + 1) = k * W := by simp only [bestC, hdk, h1]; simp
          rw [h1]
          repeat ((conv => whnf); first | (refine And.intro (by first | omega | exact Nat.le_of_ble_eq_true rfl | (dsimp only [inK]; omega)) ?_) | with_reducible refine lkm (stepF_some hdk) ?_ | refine Exists.intro _ (And.intro rfl ?_) | refine br_t (by omega) ?_ | refine bs_t (by omega) ?_ | refine fun (K' : K3) hK' => ?_ | (refine hK' _ _ _ ?_; clear hK' K'))
          refine ⟨k + 1, [], by omega, by omega, ?_⟩
          refine ⟨?_, ?_, rfl, rfl, by exact Nat.le_of_ble_eq_true rfl⟩
          · repeat (first | exact trivial | (refine And.intro (covS_syn (by first | rfl | (refine congrArg some (congrArg V.i ?_); first | omega | exact hst.symm)) rfl (by first | exact trivial | exact Nat.le_of_ble_eq_true rfl)) ?_))
          · repeat (first | exact trivial | refine And.intro (covE_mp rfl (Nat.le_of_ble_eq_true rfl) rfl rfl) ?_ | (refine And.intro (covE_id (Nat.le_of_ble_eq_true rfl) (by first | exact wf_ints _ _ | simp [C.wf]) rfl (by rfl)) ?_))
        · have hb2 := hbd h3
          have hbw := hdom h3
          have hst : bestC W d (k + 1) = if n < n' then (k : Int) * W else (b : Int) * W := by
            simp only [bestC, hdk, h1, h3]; rw [if_neg (by omega)]
          rw [h1]
          by_cases hl : n < n'
          · rw [if_pos hl] at hst
            repeat ((conv => whnf); first | (refine And.intro (by first | omega | exact Nat.le_of_ble_eq_true rfl | (dsimp only [inK]; omega)) ?_) | with_reducible refine lkm (stepF_some hdk) ?_ | with_reducible refine lkm (stepF_some h3) ?_ | refine Exists.intro _ (And.intro rfl ?_) | refine br_t (by omega) ?_ | refine bs_f (by omega) ?_ | refine fun (K' : K3) hK' => ?_ | (refine hK' _ _ _ ?_; clear hK' K'))
            refine ⟨k + 1, [], by omega, by omega, ?_⟩
            refine ⟨?_, ?_, rfl, rfl, by exact Nat.le_of_ble_eq_true rfl⟩
            · repeat (first | exact trivial | (refine And.intro (covS_syn (by first | rfl | (refine congrArg some (congrArg V.i ?_); first | omega | exact hst.symm)) rfl (by first | exact trivial | exact Nat.le_of_ble_eq_true rfl)) ?_))
            · repeat (first | exact trivial | refine And.intro (covE_mp rfl (Nat.le_of_ble_eq_true rfl) rfl rfl) ?_ | (refine And.intro (covE_id (Nat.le_of_ble_eq_true rfl) (by first | exact wf_ints _ _ | simp [C.wf]) rfl (by rfl)) ?_))
          · rw [if_neg hl] at hst
            repeat ((conv => whnf); first | (refine And.intro (by first | omega | exact Nat.le_of_ble_eq_true rfl | (dsimp only [inK]; omega)) ?_) | with_reducible refine lkm (stepF_some hdk) ?_ | with_reducible refine lkm (stepF_some h3) ?_ | refine Exists.intro _ (And.intro rfl ?_) | refine br_t (by omega) ?_ | refine br_f (by omega) ?_ | refine bs_f (by omega) ?_ | refine fun (K' : K3) hK' => ?_ | (refine hK' _ _ _ ?_; clear hK' K'))
            refine ⟨k + 1, [], by omega, by omega, ?_⟩
            refine ⟨?_, ?_, rfl, rfl, by exact Nat.le_of_ble_eq_true rfl⟩
            · repeat (first | exact trivial | (refine And.intro (covS_syn (by first | rfl | (refine congrArg some (congrArg V.i ?_); first | omega | exact hst.symm)) rfl (by first | exact trivial | exact Nat.le_of_ble_eq_true rfl)) ?_))
            · repeat (first | exact trivial | refine And.intro (covE_mp rfl (Nat.le_of_ble_eq_true rfl) rfl rfl) ?_ | (refine And.intro (covE_id (Nat.le_of_ble_eq_true rfl) (by first | exact wf_ints _ _ | simp [C.wf]) rfl (by rfl)) ?_))
    · have hkw : k = h0 := by omega
      subst hkw
      rcases bestC_spec hW0 d k with ⟨h1, h2⟩ | ⟨b, nb, h1, h2, h3⟩
      · have hno : d (-1) = none := by
          cases hh : d (-1) with
          | none => rfl
          | some w => have := hdom hh; omega
        rw [h1, hno]
        repeat ((conv => whnf); first | refine br_t (by omega) ?_ | refine br_f (by omega) ?_ | refine fun (K' : K3) hK' => ?_ | (refine hK' _ _ _ ?_; clear hK' K'))
        rfl
      · have hb2 := hbd h3
        have hbw := hdom h3
        rw [h1, h3]
        repeat ((conv => whnf); first | (refine And.intro (by first | omega | exact Nat.le_of_ble_eq_true rfl | (dsimp only [inK]; omega)) ?_) | refine br_f (by omega) ?_ | refine fun (K' : K3) hK' => ?_ | (refine hK' _ _ _ ?_; clear hK' K'))
        refine Tri.loop (γ := List Int × Int × Nat) (fun g => ∃ n, d g.2.1 = some n ∧ g.1 ++ pathC W k d n.toNat g.2.1 = pathC W k d nb.toNat ((b : Int) * W) ∧ g.1.length = g.2.2 ∧ g.2.2 + n.toNat = nb.toNat) (fun g => [(1, V.c (.ptr 2 0)), (4, V.c (.ptr 4 0)), (10, V.c (.sl 5 (g.2.2 + 1))), (11, V.c (.ptr 6 0))])
          (fun g => [⟨5, .vec 3 1, (g.1 ++ [g.2.1]).map C.i⟩, ⟨6, .own 3, [C.i g.2.1]⟩, ⟨4, .own 108, [.mp 3]⟩, ⟨3, .mp true .int (stepF d), []⟩, ⟨2, .own 65, [C.i W, C.i k, .sl 0 cs.length, .mp 1]⟩, ⟨0, .ro 0, cs.map C.i⟩, ⟨1, .mp false .int (bmF f), []⟩]) 13 (fun g => match d g.2.1 with | some n => n.toNat | none => 0) ([], (b : Int) * W, 0) (R0 := []) ?_ ?_ ?_
        · exact ⟨nb, h3, rfl, rfl, by simp⟩
        · skip
          refine ⟨?_, ?_, rfl, rfl, by exact Nat.le_of_ble_eq_true rfl⟩
          · repeat (first | exact trivial | refine And.intro (covS_syn (by rfl) rfl (by exact Nat.le_of_ble_eq_true rfl)) ?_)
          · repeat (first | exact trivial | refine And.intro (covE_mp rfl (Nat.le_of_ble_eq_true rfl) rfl rfl) ?_ | (refine And.intro (covE_id (Nat.le_of_ble_eq_true rfl) (by first | exact wf_ints _ _ | simp [C.wf]) rfl (by rfl)) ?_))
        · rintro ⟨pre, at_, m⟩ ⟨n, hw, hp, hlen, hlen2⟩
          simp only at hw hp hlen hlen2 ⊢
          have hwd := hbd hw
          have hat := hdom hw
          refine vc_ok tok ?_
          by_cases h1w : 0 < n
          · obtain ⟨kn, hkn, hdn, hknm⟩ := hnx hw h1w
            obtain ⟨a, rfl⟩ : ∃ a : Nat, at_ = a := ⟨at_.toNat, by omega⟩
            have hfu : n.toNat = (n - 1).toNat + 1 := by omega
            have hstep : pathC W k d n.toNat a = (a : Int) :: pathC W k d (n - 1).toNat kn := by
              rw [hfu]; simp only [pathC, hw, hkn]; rw [if_pos (by omega)]
            repeat ((conv => whnf); first | refine And.intro (by omega) ?_ | with_reducible refine lkm (stepF_some hw) ?_ | refine Exists.intro _ (And.intro rfl ?_) | refine br_t (by omega) ?_ | refine fun (K' : K3) hK' => ?_ | (refine hK' _ _ _ ?_; clear hK' K') | refine CallK.fresh (by kernel_rfl) (near_spec _ _ _ _) rfl ?_ | refine CallK.m ?_)
            refine Tri.opq fun K' hK' => ?_
            refine Tri.near (R0 := []) (W := W) (H := k) (n := cs.length) (i := (a : Int)) (e := false) (fun pre0 => ∀ x ∈ pre0, (decide (d x = some (n - 1))) = false)
              (fun _ => [⟨5, .vec 3 1, (pre ++ [(a : Int)]).map C.i⟩, ⟨6, .own 3, [C.i (a : Int)]⟩, ⟨4, .own 108, [.mp 3]⟩, ⟨3, .mp true .int (stepF d), []⟩, ⟨2, .own 65, [C.i W, C.i k, .sl 0 cs.length, .mp 1]⟩, ⟨0, .ro 0, cs.map C.i⟩, ⟨1, .mp false .int (bmF f), []⟩])
              (fun x hx => by cases hx) (by omega) (by omega) (by omega) (by exact rfl) (by exact rfl) (by exact rfl) ?_ ?_ ?_
            · intro oo
              refine ⟨?_, ?_, rfl, rfl, by exact Nat.le_of_ble_eq_true rfl⟩
              · repeat (exact trivial)
              · repeat (first | exact trivial | refine And.intro (covE_b1 (b := false) (Nat.le_of_ble_eq_true rfl) rfl rfl rfl) ?_ | refine And.intro (covE_mp rfl (Nat.le_of_ble_eq_true rfl) rfl rfl) ?_ | (refine And.intro (covE_id (Nat.le_of_ble_eq_true rfl) (by first | exact wf_ints _ _ | simp [C.wf]) rfl (by rfl)) ?_))
            · intro oo ob od pre0 post kk hsp hk0 hk1 hI cxb hcx
              have next : decide (d kk = some (n - 1)) = false → ∀ x ∈ pre0 ++ [kk], decide (d x = some (n - 1)) = false := fun h x hx => by
                rcases List.mem_append.1 hx with hx | hx
                · exact hI x hx
                · rw [List.mem_singleton.1 hx]; exact h
              refine vc_ok tok ?_
              repeat ((conv => whnf); first | refine fun (K' : K3) hK' => ?_ | (refine hK' _ _ _ ?_; clear hK' K') | refine And.intro (Eq.refl oo) ?_)
              refine vc_ok tok ?_
              cases hdk : d kk with
              | none =>
                repeat ((conv => whnf); first | refine And.intro (by omega) ?_ | with_reducible refine lkm (stepF_none hdk) ?_ | refine Exists.intro _ (And.intro rfl ?_) | refine fun (K' : K3) hK' => ?_ | (refine hK' _ _ _ ?_; clear hK' K') | refine And.intro (Eq.refl ob) ?_)
                refine .inl ⟨rfl, next (by rw [hdk]; simp), [], rfl, ?_⟩
                refine ⟨?_, ?_, rfl, rfl, by exact Nat.le_of_ble_eq_true rfl⟩
                · repeat (exact trivial)
                · repeat (first | exact trivial | refine And.intro (covE_mp rfl (Nat.le_of_ble_eq_true rfl) rfl rfl) ?_ | (refine And.intro (covE_id (Nat.le_of_ble_eq_true rfl) (by first | exact wf_ints _ _ | simp [C.wf]) rfl (by rfl)) ?_))
              | some wk =>
                have hwk := hbd hdk
                by_cases heq : wk = n - 1
                · have hkk : kn = kk := by
                    have := find_first (p := fun x => decide (d x = some (n - 1))) hsp hI (by simp [hdk, heq])
                    unfold nextC at hkn
                    rw [this] at hkn; cases hkn; rfl
                  repeat ((conv => whnf); first | (refine And.intro (by first | omega | exact Nat.le_of_ble_eq_true rfl | (dsimp only [inK]; omega)) ?_) | with_reducible refine lkm (stepF_some hdk) ?_ | with_reducible refine lkm (stepF_some hw) ?_ | refine Exists.intro _ (And.intro rfl ?_) | refine br_t (by omega) ?_ | refine fun (K' : K3) hK' => ?_ | (refine hK' _ _ _ ?_; clear hK' K') | refine And.intro (Eq.refl ob) ?_)
                  refine .inr ⟨rfl, .inr (.inr ⟨4, ?_⟩)⟩
                  refine And.intro (Eq.refl (od (Code.exit 4))) ?_
                  conv => whnf
                  refine hK' _ _ _ _ ?_
                  repeat ((conv => whnf); first | (refine And.intro (by first | omega | exact Nat.le_of_ble_eq_true rfl | (dsimp only [inK]; omega) | (exact ⟨rfl, rfl, rfl, Nat.le_of_ble_eq_true rfl, by simp; omega, by exact Nat.le_of_ble_eq_true rfl, by omega, Nat.le_of_ble_eq_true rfl⟩)) ?_) | refine Exists.intro _ (And.intro rfl ?_) | refine fun (K' : K3) hK' => ?_ | (refine hK' _ _ _ ?_; clear hK' K'))
                  subst hkk
                  refine ⟨(pre ++ [(a : Int)], kn, m + 1), [(5, some 42), (6, some 43)], ⟨_, hdn, ?_, by simp [hlen], by simp only; omega⟩, ?_, ?_⟩
                  · rw [← hp, hstep]; simp
                  · simp only [hdn, hw]; omega
                  · skip
                    refine ⟨?_, ?_, rfl, rfl, by exact Nat.le_of_ble_eq_true rfl⟩
                    · repeat (first | exact trivial | refine And.intro (covS_syn (by rfl) rfl (by exact Nat.le_of_ble_eq_true rfl)) ?_)
                    · repeat (first | exact trivial | refine And.intro (covE_mp rfl (Nat.le_of_ble_eq_true rfl) rfl rfl) ?_ | (refine And.intro (covE_some rfl (Nat.le_of_ble_eq_true rfl) (by first | exact wf_ints _ _ | simp [C.wf]) rfl (by first | exact ren_ints _ _ | (refine (ren_ints _ _).trans (congrArg some ?_); rw [List.map_append]; rfl) | rfl)) ?_))
                · repeat ((conv => whnf); first | (refine And.intro (by first | omega | (dsimp only [inK]; omega)) ?_) | with_reducible refine lkm (stepF_some hdk) ?_ | with_reducible refine lkm (stepF_some hw) ?_ | refine Exists.intro _ (And.intro rfl ?_) | refine br_f (by omega) ?_ | refine fun (K' : K3) hK' => ?_ | (refine hK' _ _ _ ?_; clear hK' K') | refine And.intro (Eq.refl ob) ?_)
                  refine .inl ⟨rfl, next ?_, [], rfl, ?_⟩
                  · rw [hdk]; simp [heq]
                  · skip
                    refine ⟨?_, ?_, rfl, rfl, by exact Nat.le_of_ble_eq_true rfl⟩
                    · repeat (exact trivial)
                    · repeat (first | exact trivial | refine And.intro (covE_mp rfl (Nat.le_of_ble_eq_true rfl) rfl rfl) ?_ | (refine And.intro (covE_id (Nat.le_of_ble_eq_true rfl) (by first | exact wf_ints _ _ | simp [C.wf]) rfl (by rfl)) ?_))
            · intro oo od hI
              have := hI kn hknm
              rw [hdn] at this; simp at this
          · have hone : pathC W k d n.toNat at_ = [at_] := by
              rw [show n.toNat = 0 by omega]; rfl
            rw [hone] at hp
            repeat ((conv => whnf); first | refine And.intro (by omega) ?_ | with_reducible refine lkm (stepF_some hw) ?_ | refine Exists.intro _ (And.intro rfl ?_) | refine br_f (by omega) ?_ | refine fun (K' : K3) hK' => ?_ | (refine hK' _ _ _ ?_; clear hK' K'))
            refine ⟨5, ?_, ?_⟩
            · rw [← hp, List.length_append, hlen]; rfl
            · rw [← hp]; rfl
theorem blocks_spec (W H : Int) (cs : List Int) (f : Int → Bool) (hok : CO W H cs) :
    Spec Try.prog 83 [chV W H cs.length] [⟨0, .ro 0, cs.map C.i⟩, ⟨1, .mp false .int (bmF f), []⟩] 2 (Is (V.c (.bool (chanO W H cs.length (wetB cs f)).isNone))) := by
  have hch := channel_spec W H cs f hok
  refine Spec.of tok Try.func83 rfl rfl rfl fun n0 cx => vc_ok tok ?_
  cases ho : chanO W H cs.length (wetB cs f) with
  | none =>
    repeat ((conv => whnf); first | refine Exists.intro _ (And.intro rfl ?_) | refine fun (K' : K3) hK' => ?_ | (refine hK' _ _ _ ?_; clear hK' K') | refine CallK.chanN (R := []) ho hch (by kernel_rfl) rfl (by simp [V.wf, A.wf, C.wf]) ⟨roE_ints (l := 0) rfl (by omega) rfl (.inl rfl), roE_map (l := 1) rfl (by omega) rfl, trivial⟩ rfl ?_ | refine CallK.m ?_)
    intro ρ; rfl
  | some l =>
    repeat ((conv => whnf); first | refine Exists.intro _ (And.intro rfl ?_) | refine fun (K' : K3) hK' => ?_ | (refine hK' _ _ _ ?_; clear hK' K') | refine CallK.chanS (R := []) ho hch (by kernel_rfl) rfl (by simp [V.wf, A.wf, C.wf]) ⟨roE_ints (l := 0) rfl (by omega) rfl (.inl rfl), roE_map (l := 1) rfl (by omega) rfl, trivial⟩ rfl ?_ | refine CallK.m ?_)
    intro ρ; rfl
noncomputable def chC (W H : Int) (cs : List Int) (bs : List Cell) : List Cell := if okC W H cs && okB W H cs bs then (match chanO W H cs.length (wetB cs (boomF W H bs)) with | none => [] | some l => cellsL W l) else []
noncomputable def chE (W H : Int) (cs : List Int) (bs : List Cell) : Int := if okC W H cs then (if okB W H cs bs then (match chanO W H cs.length (wetB cs (boomF W H bs)) with | none => 5 | some _ => 0) else 2) else 30
noncomputable def blB (W H : Int) (cs : List Int) (bs : List Cell) : Bool := (okC W H cs && okB W H cs bs) && (chanO W H cs.length (wetB cs (boomF W H bs))).isNone
def blE (W H : Int) (cs : List Int) (bs : List Cell) : Int := if okC W H cs then (if okB W H cs bs then 0 else 2) else 30
theorem pBlocks_spec (W H : Int) (cs : List Int) (bs : List Cell) (hl : cs.length ≤ 300) (hb : bs.length ≤ 300) :
    Spec Try.prog 42 [chR W H cs.length, V.c (.sl 1 bs.length)] [⟨0, .ro 0, cs.map C.i⟩, ⟨1, .ro 0, cellC bs⟩] 2 (Is (V.tup [A.c (.bool (blB W H cs bs)), A.c (C.i (blE W H cs bs))])) := by
  unfold blB blE
  refine Spec.of tok Try.func42 rfl rfl rfl fun n0 cx => vc_ok tok ?_
  cases hv : okC W H cs with
  | false =>
    repeat ((conv => whnf); first | (refine And.intro (by first | omega | exact Nat.le_of_ble_eq_true rfl) ?_) | refine Exists.intro _ (And.intro rfl ?_) | refine br_t (by omega) ?_ | refine fun (K' : K3) hK' => ?_ | (refine hK' _ _ _ ?_; clear hK' K') | refine CallK.newNo (a := 0) (bs := bs) (R := []) 30 hl hb (.inl ⟨hv, rfl⟩) rfl rfl ⟨roE_ints (l := 0) rfl (by omega) rfl (.inl rfl), roE_cells (l := 1) rfl (by omega) rfl (.inl rfl), trivial⟩ ?_ | refine CallK.m ?_)
    intro ρ; rfl
  | true =>
    cases hB : okB W H cs bs with
    | false =>
      repeat ((conv => whnf); first | (refine And.intro (by first | omega | exact Nat.le_of_ble_eq_true rfl) ?_) | refine Exists.intro _ (And.intro rfl ?_) | refine br_t (by omega) ?_ | refine fun (K' : K3) hK' => ?_ | (refine hK' _ _ _ ?_; clear hK' K') | refine CallK.newNo (a := 0) (bs := bs) (R := []) 2 hl hb (.inr ⟨hv, hB, rfl⟩) rfl rfl ⟨roE_ints (l := 0) rfl (by omega) rfl (.inl rfl), roE_cells (l := 1) rfl (by omega) rfl (.inl rfl), trivial⟩ ?_ | refine CallK.m ?_)
      intro ρ; rfl
    | true =>
      have hbl := blocks_spec W H cs (boomF W H bs) (okC_iff.1 hv)
      repeat ((conv => whnf); first | (refine And.intro (by first | omega | exact Nat.le_of_ble_eq_true rfl) ?_) | refine Exists.intro _ (And.intro rfl ?_) | refine br_f (by omega) ?_ | refine fun (K' : K3) hK' => ?_ | (refine hK' _ _ _ ?_; clear hK' K') | refine CallK.newOk (a := 0) (bs := bs) (R := []) hl hb hv hB rfl rfl (by omega) ⟨roE_ints (l := 0) rfl (by omega) rfl (.inl rfl), roE_cells (l := 1) rfl (by omega) rfl (.inl rfl), trivial⟩ ?_ | refine CallK.val (R := [(1, some 3)]) hbl (by kernel_rfl) rfl (by simp [V.wf, A.wf, C.wf]) ⟨roE_ints (l := 0) rfl (by omega) rfl (.inl rfl), roE_map (l := 3) rfl (by omega) rfl, trivial⟩ rfl rfl trivial ?_ | refine CallK.m ?_)
      intro ρ; rfl
/-- The channel's cells are of the chart. -/
theorem pathC_in {W H : Int} {n : Nat} {wet : Int → Bool} {col : Int} (hW : 0 < W) (hn : (n : Int) = W * H) : ∀ (f : Nat) {i m : Int}, distW W H n wet col i = some m → m.toNat ≤ f → (∀ x ∈ pathC W H (distW W H n wet col) f i, ∃ u, distW W H n wet col x = some u) ∧ (pathC W H (distW W H n wet col) f i).length = m.toNat + 1
  | 0, i, m, h, hf => by
    refine ⟨fun x hx => ?_, by simp [pathC]; omega⟩
    simp only [pathC, List.mem_singleton] at hx
    exact ⟨m, hx ▸ h⟩
  | f + 1, i, m, h, hf => by
    by_cases h0 : 0 < m
    · obtain ⟨k, hk, hd, _⟩ := nextC_some h h0
      obtain ⟨i1, i2⟩ := pathC_in hW hn f hd (by omega)
      have hp : pathC W H (distW W H n wet col) (f + 1) i = i :: pathC W H (distW W H n wet col) f k := by simp only [pathC, h, hk]; rw [if_pos (by omega)]
      rw [hp]
      refine ⟨fun x hx => ?_, by simp [i2]; omega⟩
      rcases List.mem_cons.1 hx with rfl | hx
      · exact ⟨m, h⟩
      · exact i1 x hx
    · have hp : pathC W H (distW W H n wet col) (f + 1) i = [i] := by simp only [pathC, h]; rw [if_neg (by omega)]
      rw [hp]
      refine ⟨fun x hx => ?_, by simp; omega⟩
      rw [List.mem_singleton.1 hx]; exact ⟨m, h⟩
theorem chan_in {W H : Int} {n : Nat} {wet : Int → Bool} (hW : 0 < W) (hn : (n : Int) = W * H) {l : List Int} (h : chanO W H n wet = some l) : (∀ x ∈ l, 0 ≤ x ∧ x < n) ∧ l.length ≤ n := by
  unfold chanO chanD at h
  cases hd : distW W H n wet (W - 1) (bestC W (distW W H n wet (W - 1)) H.toNat) with
  | none => rw [hd] at h; cases h
  | some m =>
    rw [hd] at h
    cases h
    obtain ⟨h1, h2⟩ := pathC_in hW hn m.toNat hd (Nat.le_refl _)
    refine ⟨fun x hx => ?_, ?_⟩
    · obtain ⟨u, hu⟩ := h1 x hx
      exact (distW_dom hW hn hu).1
    · have := distW_bd hW hn hd
      rw [h2]; omega
theorem pChannel_spec (W H : Int) (cs : List Int) (bs : List Cell) (hl : cs.length ≤ 300) (hb : bs.length ≤ 300) :
    Spec Try.prog 45 [chR W H cs.length, V.c (.sl 1 bs.length)] [⟨0, .ro 0, cs.map C.i⟩, ⟨1, .ro 0, cellC bs⟩] 2 (fun v L' _ => cellsE (chC W H cs bs) (chE W H cs bs) v L') := by
  unfold chC chE
  refine Spec.of tok Try.func45 rfl rfl rfl fun n0 cx => vc_ok tok ?_
  cases hv : okC W H cs with
  | false =>
    repeat ((conv => whnf); first | (refine And.intro (by first | omega | exact Nat.le_of_ble_eq_true rfl) ?_) | refine Exists.intro _ (And.intro rfl ?_) | refine br_t (by omega) ?_ | refine fun (K' : K3) hK' => ?_ | (refine hK' _ _ _ ?_; clear hK' K') | refine CallK.newNo (a := 0) (bs := bs) (R := []) 30 hl hb (.inl ⟨hv, rfl⟩) rfl rfl ⟨roE_ints (l := 0) rfl (by omega) rfl (.inl rfl), roE_cells (l := 1) rfl (by omega) rfl (.inl rfl), trivial⟩ ?_ | refine CallK.m ?_)
    exact .inl ⟨rfl, rfl⟩
  | true =>
    cases hB : okB W H cs bs with
    | false =>
      repeat ((conv => whnf); first | (refine And.intro (by first | omega | exact Nat.le_of_ble_eq_true rfl) ?_) | refine Exists.intro _ (And.intro rfl ?_) | refine br_t (by omega) ?_ | refine fun (K' : K3) hK' => ?_ | (refine hK' _ _ _ ?_; clear hK' K') | refine CallK.newNo (a := 0) (bs := bs) (R := []) 2 hl hb (.inr ⟨hv, hB, rfl⟩) rfl rfl ⟨roE_ints (l := 0) rfl (by omega) rfl (.inl rfl), roE_cells (l := 1) rfl (by omega) rfl (.inl rfl), trivial⟩ ?_ | refine CallK.m ?_)
      exact .inl ⟨rfl, rfl⟩
    | true =>
      have hok := okC_iff.1 hv
      have hch := channel_spec W H cs (boomF W H bs) hok
      cases ho : chanO W H cs.length (wetB cs (boomF W H bs)) with
      | none =>
        repeat ((conv => whnf); first | (refine And.intro (by first | omega | exact Nat.le_of_ble_eq_true rfl) ?_) | refine Exists.intro _ (And.intro rfl ?_) | refine br_f (by omega) ?_ | refine fun (K' : K3) hK' => ?_ | (refine hK' _ _ _ ?_; clear hK' K') | refine CallK.newOk (a := 0) (bs := bs) (R := []) hl hb hv hB rfl rfl (by omega) ⟨roE_ints (l := 0) rfl (by omega) rfl (.inl rfl), roE_cells (l := 1) rfl (by omega) rfl (.inl rfl), trivial⟩ ?_ | refine CallK.chanN (R := [(1, some 3)]) ho hch (by kernel_rfl) rfl (by simp [V.wf, A.wf, C.wf]) ⟨roE_ints (l := 0) rfl (by omega) rfl (.inl rfl), roE_map (l := 3) rfl (by omega) rfl, trivial⟩ rfl ?_ | refine CallK.m ?_)
        exact .inl ⟨rfl, rfl⟩
      | some l =>
        have hW := hok.w
        have hlen := hok.len
        obtain ⟨hin, hln⟩ := chan_in (by omega) hlen ho
        have hce := cells_spec W H cs.length l (by omega) (by omega) (fun k hk => by have := hin _ (getD_mem hk); omega)
        repeat ((conv => whnf); first | (refine And.intro (by first | omega | exact Nat.le_of_ble_eq_true rfl) ?_) | refine Exists.intro _ (And.intro rfl ?_) | refine br_f (by omega) ?_ | refine fun (K' : K3) hK' => ?_ | (refine hK' _ _ _ ?_; clear hK' K') | refine CallK.newOk (a := 0) (bs := bs) (R := []) hl hb hv hB rfl rfl (by omega) ⟨roE_ints (l := 0) rfl (by omega) rfl (.inl rfl), roE_cells (l := 1) rfl (by omega) rfl (.inl rfl), trivial⟩ ?_ | refine CallK.chanS (R := [(1, some 3)]) ho hch (by kernel_rfl) rfl (by simp [V.wf, A.wf, C.wf]) ⟨roE_ints (l := 0) rfl (by omega) rfl (.inl rfl), roE_map (l := 3) rfl (by omega) rfl, trivial⟩ rfl ?_ | refine CallK.cellsR (R := [(1, some 3), (2, some 5)]) hce (by kernel_rfl) rfl (by simp [V.wf, A.wf, C.wf]) ⟨roE_ints (l := 5) rfl (by omega) rfl (.inl rfl), trivial⟩ rfl ?_ | refine CallK.m ?_)
        exact .inr ⟨_, rfl, rfl⟩
end Go.Proofs.Ytbhpnhcdjmcaoaa

/- Boom, plain: rows of bools, and the steps level by level. -/
namespace Go.Proofs.Ytbhpnhcdjmcaoaa
open Go.RowKit
set_option linter.unusedVariables false
set_option linter.unusedSimpArgs false
def bL (n : Nat) (g : Int → Bool) : List Bool := (List.range n).map fun i : Nat => g (i : Int)
theorem bL_len (n : Nat) (g : Int → Bool) : (bL n g).length = n := by simp [bL]
theorem bL_get {n : Nat} {g : Int → Bool} {k : Nat} (h : k < n) : (bL n g).getD k false = g k := by
  rw [List.getD_eq_getElem?_getD]; simp [bL, h]
theorem bL_congr {n : Nat} {g g' : Int → Bool} (h : ∀ i : Nat, i < n → g i = g' i) : bL n g = bL n g' := by
  unfold bL; exact List.map_congr_left fun i hi => h i (List.mem_range.1 hi)
def updG (g : Int → Bool) (k : Int) (b : Bool) : Int → Bool := fun i => if i = k then b else g i
theorem bL_set {n : Nat} {g : Int → Bool} {k : Nat} (b : Bool) : (bL n g).set k b = bL n (updG g k b) := by
  apply List.ext_getElem
  · simp [bL]
  · intro j h1 h2
    rw [List.getElem_set]
    simp only [bL, List.length_map, List.length_range, List.length_set] at h1 h2
    simp only [bL, List.getElem_map, List.getElem_range, updG]
    by_cases hj : k = j
    · subst hj; simp
    · have : ¬ ((j : Int) = k) := by omega
      simp [hj, this]
theorem toB_bools (l : List Bool) : (l.map C.bool).map C.toB = l.map some := by
  rw [List.map_map]; rfl
theorem toB_set {n : Nat} {g : Int → Bool} {k : Nat} {z : Int} {c : C} {b : Bool} (hz : z = k) (hc : c.toB = some b) : (setL ((bL n g).map C.bool) (mulS z.toNat 1) [c]).map C.toB = (bL n (updG g k b)).map some := by
  subst hz
  rw [mulS_eq, Int.toNat_natCast, Nat.mul_one, ← bL_set]
  show (((bL n g).map C.bool).set k c).map C.toB = _
  rw [List.map_set, toB_bools, hc, List.map_set]
theorem toB_zero (n : Nat) : (repC n [C.ff]).map C.toB = (bL n (fun _ => false)).map some := by
  induction n with
  | zero => rfl
  | succ n ih =>
    have h1 : repC (n + 1) [C.ff] = C.ff :: repC n [C.ff] := rfl
    have h2 : bL (n + 1) (fun _ => false) = false :: bL n (fun _ => false) := by
      unfold bL; rw [List.range_succ_eq_map, List.map_cons, List.map_map]; rfl
    rw [h1, h2, List.map_cons, List.map_cons, ih]; rfl
theorem covE_bools {R : Rn} {nx l l' : Nat} {L : List E} {cs' : List C} {bs : List Bool} (hr : renL R l = some l') (h1 : l < nx) (h3 : find L l' = some ⟨l', .vec 4 1, cs'⟩) (h : cs'.map C.toB = bs.map some) : covE R nx L ⟨l, .vec 4 1, bs.map C.bool⟩ :=
  covE_sem hr h1 (wf_bools _ _) h3 (.inl rfl) (fun ρ => den_toB h)
/-- What is open: the first k cells told; then the booms told. -/
def opA (cs : List Int) (k : Nat) (i : Int) : Bool := decide (i < k) && decide (cs.getD i.toNat 0 ≥ 0)
def opB (W H : Int) (cs : List Int) (bs : List Cell) (j : Nat) (i : Int) : Bool := decide (cs.getD i.toNat 0 ≥ 0) && !boomP W H bs j i
theorem opA_zero (cs : List Int) (n : Nat) : bL n (opA cs 0) = bL n (fun _ => false) := bL_congr fun i _ => by
  unfold opA; rw [dd_f (by omega)]; rfl
theorem opA_succ (cs : List Int) (k : Nat) : updG (opA cs k) k (decide (cs.getD k 0 ≥ 0)) = opA cs (k + 1) := by
  funext i
  unfold updG opA
  by_cases h : i = k
  · subst h; rw [if_pos rfl, dd_t (show (k : Int) < ((k + 1 : Nat) : Int) by omega), Int.toNat_natCast, Bool.true_and]
  · rw [if_neg h]
    have : decide (i < ((k + 1 : Nat) : Int)) = decide (i < (k : Int)) := by rw [decide_eq_decide]; omega
    rw [this]
theorem opA_end (W H : Int) (cs : List Int) (bs : List Cell) : bL cs.length (opA cs cs.length) = bL cs.length (opB W H cs bs 0) := bL_congr fun i hi => by
  unfold opA opB
  rw [dd_t (by omega), Bool.true_and]
  simp [boomP]
theorem opB_succ {W H : Int} {cs : List Int} {bs : List Cell} {j : Nat} (hj : j < bs.length) : updG (opB W H cs bs j) (idxC W H (bs.getD j (0, 0))) false = opB W H cs bs (j + 1) := by
  funext i
  unfold updG opB
  rw [boomP_succ hj]
  show _ = (decide (cs.getD i.toNat 0 ≥ 0) && !(boomP W H bs j i || decide (i = idxC W H (bs.getD j (0, 0)))))
  by_cases h : i = idxC W H (bs.getD j (0, 0))
  · rw [if_pos h, dd_t h]; simp
  · rw [if_neg h, dd_f h]; simp
theorem opB_end {W H : Int} {cs : List Int} (hok : CO W H cs) (bs : List Cell) : bL cs.length (opB W H cs bs bs.length) = bL cs.length (wetB cs (boomF W H bs)) := bL_congr fun i hi => by
  unfold opB wetB boomF
  have h1 : -1 ≤ cs.getD i 0 := by
    rw [List.getD_eq_getElem?_getD, List.getElem?_eq_getElem hi]
    exact (hok.cost _ (List.getElem_mem hi)).1
  rw [Int.toNat_natCast]
  have : decide (cs.getD i 0 ≥ 0) = decide (cs.getD i 0 ≠ -1) := by rw [decide_eq_decide]; omega
  rw [this]
/-- Booms that are in order are of the chart. -/
theorem okB_on {W H : Int} {cs : List Int} {bs : List Cell} (hW : 0 < W) (h : okB W H cs bs = true) : ∀ k, k < bs.length → onB W H (bs.getD k (0, 0)).1 (bs.getD k (0, 0)).2 = true := fun k hk => by
  unfold okB okBk at h
  have := List.all_eq_true.1 h k (List.mem_range.2 hk)
  unfold badK at this
  simp only [Bool.not_eq_true', Bool.or_eq_false_iff, decide_eq_false_iff_not] at this
  exact idx_on (by omega) hW
/-- The steps that are at most so many, and one more of each. -/
def lvl (d : Int → Option Int) (t i : Int) : Int := match d i with
  | some m => if m + 1 ≤ t then m + 1 else 0
  | none => 0
def lef (d : Int → Option Int) (i : Int) : Int := match d i with
  | some m => m + 1
  | none => 0
def iL (n : Nat) (g : Int → Int) : List Int := (List.range n).map fun i : Nat => g (i : Int)
theorem iL_len (n : Nat) (g : Int → Int) : (iL n g).length = n := by simp [iL]
theorem iL_get {n : Nat} {g : Int → Int} {k : Nat} (h : k < n) : (iL n g).getD k 0 = g k := by
  rw [List.getD_eq_getElem?_getD]; simp [iL, h]
theorem iL_congr {n : Nat} {g g' : Int → Int} (h : ∀ i : Nat, i < n → g i = g' i) : iL n g = iL n g' := by
  unfold iL; exact List.map_congr_left fun i hi => h i (List.mem_range.1 hi)
theorem iL_of {L : List Int} {n : Nat} {g : Int → Int} (hl : L.length = n) (h : ∀ i : Nat, i < n → hL L i = g i) : L = iL n g := by
  apply List.ext_getElem
  · rw [hl, iL_len]
  · intro j h1 h2
    have := h j (by omega)
    unfold hL at this
    rw [Int.toNat_natCast, List.getD_eq_getElem?_getD, List.getElem?_eq_getElem h1] at this
    simp only [iL, List.getElem_map, List.getElem_range]
    exact this
theorem hL_iL {n : Nat} {g : Int → Int} {i : Int} (h0 : 0 ≤ i) (h : i < n) : hL (iL n g) i = g i := by
  unfold hL
  rw [iL_get (by omega), Int.toNat_of_nonneg h0]
theorem iL_set {n : Nat} {g : Int → Int} {k : Nat} (x : Int) : (iL n g).set k x = iL n (fun i => if i = k then x else g i) := by
  apply List.ext_getElem
  · simp [iL]
  · intro j h1 h2
    rw [List.getElem_set]
    simp only [iL, List.length_map, List.length_range, List.length_set] at h1 h2
    simp only [iL, List.getElem_map, List.getElem_range]
    by_cases hj : k = j
    · subst hj; simp
    · have : ¬ ((j : Int) = k) := by omega
      simp [hj, this]
section
variable {W H : Int} {n : Nat} {wet : Int → Bool} {col : Int}
/-- A level under way: the cells in front of j have told theirs, j has told those of pre. -/
structure LI (W H : Int) (n : Nat) (wet : Int → Bool) (d : Int → Option Int) (t : Int) (j : Int) (pre : List Int) (L : List Int) : Prop where
  len : L.length = n
  val : ∀ i : Int, 0 ≤ i → i < n → hL L i = lvl d t i ∨ (hL L i = t + 1 ∧ d i = some t)
  done : ∀ i : Int, 0 ≤ i → i ≤ j → d i = some (t - 1) → ∀ k ∈ nbW W H n wet i, (i = j → k ∈ pre) → hL L k ≠ 0
theorem LI.start (d : Int → Option Int) (t : Int) : LI W H n wet d t 0 [] (iL n (lvl d t)) :=
  ⟨iL_len _ _, fun i h0 h => .inl (hL_iL h0 h), fun i h0 h1 _ k _ hp => by have := hp (by omega); cases this⟩
theorem LI.told {d : Int → Option Int} {t j : Int} {pre L : List Int} (h : LI W H n wet d t j pre L) (ht : 1 ≤ t) (h0 : 0 ≤ j) (hj : j < n) : hL L j = t ↔ d j = some (t - 1) := by
  rcases h.val j h0 hj with h1 | ⟨h1, h2⟩
  · rw [h1]
    unfold lvl
    cases hd : d j with
    | none => simp only; exact ⟨fun e => by omega, fun e => by cases e⟩
    | some m =>
      simp only [Option.some.injEq]
      split <;> omega
  · rw [h1, h2, Option.some.injEq]; omega
theorem LI.row {d : Int → Option Int} {t j : Int} {pre L : List Int} (h : LI W H n wet d t j pre L) (hj : -1 ≤ j) (hall : d j = some (t - 1) → ∀ k ∈ nbW W H n wet j, k ∈ pre) : LI W H n wet d t (j + 1) [] L := by
  refine ⟨h.len, h.val, fun i h0 h1 hd k hk hp => ?_⟩
  by_cases he : i = j + 1
  · have := hp he; cases this
  · exact h.done i h0 (by omega) hd k hk (fun e => hall (e ▸ hd) k (e ▸ hk))
theorem LI.skip {d : Int → Option Int} {t j k : Int} {pre L : List Int} (h : LI W H n wet d t j pre L) (hk : k ∈ nbW W H n wet j → hL L k ≠ 0) : LI W H n wet d t j (pre ++ [k]) L := by
  refine ⟨h.len, h.val, fun i h0 h1 hd k' hk' hp => ?_⟩
  by_cases he : i = j ∧ k' = k
  · obtain ⟨rfl, rfl⟩ := he; exact hk hk'
  · exact h.done i h0 h1 hd k' hk' (fun e => by
      rcases List.mem_append.1 (hp e) with hh | hh
      · exact hh
      · exact absurd ⟨e, List.mem_singleton.1 hh⟩ he)
theorem lvl_pos {d : Int → Option Int} {t i m : Int} (hd : d i = some m) (h0 : 0 ≤ m) : lvl d t i = 0 → t < m + 1 := by
  unfold lvl; rw [hd]; simp only; split <;> omega
theorem LI.put (hW : 0 < W) (hn : (n : Int) = W * H) {t j k : Int} {pre L : List Int} (h : LI W H n wet (distW W H n wet col) t j pre L) (ht : 1 ≤ t) (hj : distW W H n wet col j = some (t - 1)) (hk : k ∈ nbW W H n wet j) (h0 : hL L k = 0) :
    LI W H n wet (distW W H n wet col) t j (pre ++ [k]) (L.set k.toNat (t + 1)) := by
  have hD := distO_is (iniW W n wet col) (nbW W H n wet)
  have hin := nbW_in hW hn j k hk
  have hdk : distW W H n wet col k = some t := by
    obtain ⟨l, h1, h2⟩ := hD.sound j (t - 1) hj
    obtain ⟨m, h3, h4⟩ := hD.comp k (j :: l) ⟨nbW_sym hW hn j k hk, h1⟩
    have h3' : distW W H n wet col k = some m := h3
    have hp := hD.pos h3
    rcases h.val k hin.2.1 hin.2.2 with h5 | ⟨h5, _⟩
    · have := lvl_pos h3' hp (by rw [← h5]; exact h0)
      rw [h3']; congr 1; simp at h4; omega
    · omega
  have hset := fun i (hi : 0 ≤ i) => hL_set (hs := L) (b := k) (j := i) (x := t + 1) hin.2.1 hi (by rw [h.len]; exact hin.2.2)
  refine ⟨by rw [List.length_set, h.len], fun i i0 i1 => ?_, fun i i0 i1 hd k' hk' hp => ?_⟩
  · rw [hset i i0]
    by_cases he : i = k
    · subst he; rw [if_pos rfl]; exact .inr ⟨rfl, hdk⟩
    · rw [if_neg he]; exact h.val i i0 i1
  · have hin' := nbW_in hW hn i k' hk'
    rw [hset k' hin'.2.1]
    by_cases he : k' = k
    · rw [if_pos he]; omega
    · rw [if_neg he]
      exact h.done i i0 i1 hd k' hk' (fun e => by
        rcases List.mem_append.1 (hp e) with hh | hh
        · exact hh
        · exact absurd (List.mem_singleton.1 hh) he)
theorem LI.last (hW : 0 < W) (hn : (n : Int) = W * H) {t : Int} {L : List Int} {pre : List Int} (h : LI W H n wet (distW W H n wet col) t n pre L) (ht : 1 ≤ t) : L = iL n (lvl (distW W H n wet col) (t + 1)) := by
  have hD := distO_is (iniW W n wet col) (nbW W H n wet)
  refine iL_of h.len fun i hi => ?_
  rcases h.val i (by omega) (by omega) with h1 | ⟨h1, h2⟩
  · rw [h1]
    unfold lvl
    cases hd : distW W H n wet col i with
    | none => rfl
    | some m =>
      have hp := hD.pos (show distO (iniW W n wet col) (nbW W H n wet) i = some m from hd)
      simp only
      by_cases hm : m + 1 ≤ t
      · rw [if_pos hm, if_pos (by omega)]
      · rw [if_neg hm]
        by_cases hm2 : m = t
        · exfalso
          obtain ⟨k, hk, hdk⟩ := hD.next (show distO (iniW W n wet col) (nbW W H n wet) i = some m from hd) (by omega)
          have hin := nbW_in hW hn i k hk
          have hz := h.done k hin.2.1 (by omega) (by rw [← hm2]; exact hdk) i (nbW_sym hW hn i k hk) (fun e => by omega)
          apply hz
          rw [h1]; unfold lvl; rw [hd]; simp only; rw [if_neg hm]
        · rw [if_neg (by omega)]
  · rw [h1]
    unfold lvl
    rw [h2]; simp only; rw [if_pos (by omega)]
theorem lvl_all (hW : 0 < W) (hn : (n : Int) = W * H) : iL n (lvl (distW W H n wet col) (n + 1)) = iL n (lef (distW W H n wet col)) := iL_congr fun i hi => by
  unfold lvl lef
  cases hd : distW W H n wet col i with
  | none => rfl
  | some m =>
    have := distW_bd hW hn hd
    simp only; rw [if_pos (by omega)]
/-- The last column, the first k rows of it. -/
def colK (W : Int) (n : Nat) (wet : Int → Bool) (col : Int) (k : Nat) (i : Int) : Int := if iniW W n wet col i = true ∧ i / W < k then 1 else 0
theorem colK_zero (hW : 0 < W) : iL n (colK W n wet col 0) = iL n (fun _ => 0) := iL_congr fun i hi => by
  unfold colK
  rw [if_neg]
  rintro ⟨_, h2⟩
  have : 0 ≤ (i : Int) / W := Int.ediv_nonneg (by omega) (by omega)
  omega
theorem colK_end (hW : 0 < W) (hn : (n : Int) = W * H) {h0 : Nat} (hh : (h0 : Int) = H) : iL n (colK W n wet col h0) = iL n (lvl (distW W H n wet col) 1) := iL_congr fun i hi => by
  have hD := distO_is (iniW W n wet col) (nbW W H n wet)
  have hlt : (i : Int) / W < h0 := Int.ediv_lt_of_lt_mul hW (by rw [hh, Int.mul_comm, ← hn]; omega)
  unfold colK lvl
  cases hd : distW W H n wet col i with
  | none =>
    rw [if_neg]
    rintro ⟨h1, _⟩
    obtain ⟨m, h3, _⟩ := hD.comp i [] h1
    have h3 : distW W H n wet col i = some m := h3
    rw [hd] at h3; cases h3
  | some m =>
    have hp := hD.pos (show distO (iniW W n wet col) (nbW W H n wet) i = some m from hd)
    simp only
    by_cases hm : m + 1 ≤ 1
    · obtain ⟨l, h1, h2⟩ := hD.sound i m hd
      have : l = [] := List.length_eq_zero_iff.1 (by omega)
      subst this
      rw [if_pos ⟨h1, hlt⟩, if_pos hm]; omega
    · rw [if_neg hm, if_neg]
      rintro ⟨h1, _⟩
      obtain ⟨m', h3, h4⟩ := hD.comp i [] h1
      have h3 : distW W H n wet col i = some m' := h3
      rw [hd] at h3; cases h3
      simp at h4; omega
theorem colK_t (hW : 0 < W) {y i : Nat} (hi : (i : Int) = y * W + (W - 1)) (hin : i < n) (hw : wet i = true) : iL n (fun j => if j = i then 1 else colK W n wet (W - 1) y j) = iL n (colK W n wet (W - 1) (y + 1)) := iL_congr fun j hj => by
  have hd : (i : Int) / W = y := by
    rw [hi, Int.add_comm, Int.add_mul_ediv_right _ _ (by omega), Int.ediv_eq_zero_of_lt (by omega) (by omega)]; omega
  have hm : (i : Int) % W = W - 1 := by
    rw [hi, Int.add_comm, Int.add_mul_emod_self_right, Int.emod_eq_of_lt (by omega) (by omega)]
  by_cases he : (j : Int) = i
  · rw [if_pos he]
    unfold colK
    rw [he, if_pos]
    refine ⟨?_, by omega⟩
    unfold iniW; rw [hw, dd_t hm, dd_t (by omega)]; rfl
  · rw [if_neg he]
    unfold colK
    by_cases hc : iniW W n wet (W - 1) (j : Int) = true ∧ (j : Int) / W < y
    · rw [if_pos hc, if_pos ⟨hc.1, by omega⟩]
    · rw [if_neg hc, if_neg]
      rintro ⟨h1, h2⟩
      have h3 : ¬ (j : Int) / W < y := fun h => hc ⟨h1, h⟩
      have h4 : (j : Int) % W = W - 1 := by
        unfold iniW at h1; simp only [Bool.and_eq_true, decide_eq_true_eq] at h1; exact h1.2.2
      have h5 := Int.mul_ediv_add_emod (j : Int) W
      have h6 : (j : Int) / W = y := by omega
      rw [h6, h4] at h5
      rw [Int.mul_comm] at h5; omega
theorem colK_f (hW : 0 < W) {y i : Nat} (hi : (i : Int) = y * W + (W - 1)) (hw : wet i = false) : iL n (colK W n wet (W - 1) (y + 1)) = iL n (colK W n wet (W - 1) y) := iL_congr fun j hj => by
  unfold colK
  by_cases hc : iniW W n wet (W - 1) (j : Int) = true ∧ (j : Int) / W < y
  · rw [if_pos hc, if_pos ⟨hc.1, by omega⟩]
  · rw [if_neg hc, if_neg]
    rintro ⟨h1, h2⟩
    have h3 : ¬ (j : Int) / W < y := fun h => hc ⟨h1, h⟩
    have h4 : wet j = true ∧ (j : Int) % W = W - 1 := by
      unfold iniW at h1; simp only [Bool.and_eq_true, decide_eq_true_eq] at h1; exact h1.2
    have h5 := Int.mul_ediv_add_emod (j : Int) W
    have h6 : (j : Int) / W = y := by omega
    rw [h6, h4.2] at h5
    rw [Int.mul_comm] at h5
    have h7 : (j : Int) = i := by omega
    rw [h7, hw] at h4; cases h4.1
theorem repC_iL (n : Nat) : repC n [C.i 0] = (iL n (fun _ => 0)).map C.i := by
  induction n with
  | zero => rfl
  | succ n ih =>
    have h1 : repC (n + 1) [C.i 0] = C.i 0 :: repC n [C.i 0] := rfl
    have h2 : iL (n + 1) (fun _ => 0) = 0 :: iL n (fun _ => 0) := by
      unfold iL; rw [List.range_succ_eq_map, List.map_cons, List.map_map]; rfl
    rw [h1, h2, List.map_cons, ih]
end
end Go.Proofs.Ytbhpnhcdjmcaoaa

/- Boom, the reference: what is open, and how many cells are left. -/
namespace Go.Proofs.Ytbhpnhcdjmcaoaa
open Go.RowKit
set_option linter.unusedVariables false
set_option linter.unusedSimpArgs false
def boolsR (l : List Bool) (v : V) (L' : List E) : Prop := ∃ lab, v = V.c (.sl lab l.length) ∧ find L' lab = some ⟨lab, .vec 4 1, l.map C.bool⟩
theorem chk_bools (p : Nat → Bool) (l : List Bool) : (l.map C.bool).all (C.chk p) = true := List.all_eq_true.2 fun c hc => by
  obtain ⟨b, _, rfl⟩ := List.mem_map.1 hc; rfl
theorem CallK.boolsR {P : Program} {n0 nx nac : Nat} {f : FuncId} {vs vs' : List V} {Lc L : List E} {R : Rn} {K : V → List E → Nat → Prop} {l : List Bool} (spec : Spec P f vs Lc nac (fun v L' _ => boolsR l v L')) (hok : callB P f = true)
    (hv : renVs R vs = some vs') (hvw : ∀ v ∈ vs, v.wf nac) (hL : roL R nac L Lc) (hLc : injB [] Lc = true)
    (hK : K (V.c (.sl nx l.length)) [⟨nx, .vec 4 1, l.map C.bool⟩] (nx + 1)) : CallK P n0 f vs' L nx K := by
  refine CallK.mk' hok spec hv hvw hL hLc ?_
  rintro v L' nx' hw ⟨lab, rfl, hf⟩
  refine ⟨V.c (.sl nx l.length), [⟨nx, .vec 4 1, l.map C.bool⟩], nx + 1, [(nx, some lab)], ⟨Nat.le_succ _, ?_, ?_, ⟨covE_some (renL_one _ _) (Nat.lt_succ_self nx) (wf_bools _ _) hf (ren_bools _ _), trivial⟩, rfl, ?_⟩, hK⟩
  · simp only [V.ren, A.ren, C.ren, renL_one]
  · simp only [V.chk, A.chk, C.chk]; exact inLab_one nx
  · simp only [List.all_cons, List.all_nil, Bool.and_true, inLab_one, Kd.isRo, Bool.not_false, Bool.true_and]
    exact chk_bools _ _
set_option maxRecDepth 10000 in
set_option maxHeartbeats 8000000 in
theorem open_spec (W H : Int) (cs : List Int) (bs : List Cell) (hok : CO W H cs) (hB : okB W H cs bs = true) (hb : bs.length ≤ 300) :
    Spec Try.prog 87 [chR W H cs.length, V.c (.sl 1 bs.length)] [⟨0, .ro 0, cs.map C.i⟩, ⟨1, .ro 0, cellC bs⟩] 2 (fun v L' _ => boolsR (bL cs.length (wetB cs (boomF W H bs))) v L') := by
  have hlm : (cs.map C.i).length = cs.length := by simp
  have hlb : ∀ g, ((bL cs.length g).map C.bool).length = cs.length := fun g => by simp [bL]
  have hcb : (cellC bs).length = 2 * bs.length := cellC_len bs
  obtain ⟨hW, hH, hcl, hcost⟩ := hok
  have hok : CO W H cs := ⟨hW, hH, hcl, hcost⟩
  have hn : (cs.length : Int) ≤ 100 := by have := Int.mul_le_mul hW.2 hH.2 (by omega) (by omega : (0:Int) ≤ 10); omega
  have hon := okB_on (by omega) hB
  refine Spec.of tok Try.func87 rfl rfl rfl fun n0 cx => vc_ok tok ?_
  repeat ((conv => whnf); first | (refine And.intro (by first | omega | exact Nat.le_of_ble_eq_true rfl | (dsimp only [inK]; omega)) ?_) | refine Exists.intro _ (And.intro rfl ?_) | refine fun (K' : K3) hK' => ?_ | (refine hK' _ _ _ ?_; clear hK' K'))
  refine Tri.loop (γ := Nat) (fun k => k ≤ cs.length) (fun k => [(1, V.c (.sl 1 bs.length)), (2, V.c (.ptr 2 0)), (5, V.c (.sl 3 cs.length)), (15, V.c (.sl 0 cs.length)), (16, V.i cs.length), (17, V.i (k : Nat))])
    (fun k => [⟨3, .vec 4 1, (bL cs.length (opA cs k)).map C.bool⟩, ⟨2, .own 24, [C.i W, C.i H, .sl 0 cs.length]⟩, ⟨0, .ro 0, cs.map C.i⟩, ⟨1, .ro 0, cellC bs⟩]) 4 (fun k => cs.length - k) 0 (R0 := []) ?_ ?_ ?_
  · omega
  · skip
    refine ⟨?_, ?_, rfl, rfl, by exact Nat.le_of_ble_eq_true rfl⟩
    · repeat (first | exact trivial | (refine And.intro (covS_syn (by rfl) rfl (by first | exact trivial | exact Nat.le_of_ble_eq_true rfl)) ?_))
    · repeat (first | exact trivial | (refine And.intro (covE_bools rfl (Nat.le_of_ble_eq_true rfl) rfl (by rw [opA_zero]; exact toB_zero _)) ?_) | (refine And.intro (covE_id (Nat.le_of_ble_eq_true rfl) (by first | exact wf_ints _ _ | first | exact wf_cells _ _ | simp [C.wf]) rfl (by rfl)) ?_))
  · intro k hk
    refine vc_ok tok ?_
    by_cases hlt : k < cs.length
    · have hld := intL hlt
      obtain ⟨x, hx⟩ : ∃ x, x = cs.getD k 0 := ⟨_, rfl⟩
      have hsu := opA_succ cs k
      rw [← hx] at hld hsu
      repeat ((conv => whnf); first | (refine And.intro (by first | omega | (dsimp only [inK]; omega)) ?_) | with_reducible refine ld (hld) ?_ | refine br_t (by omega) ?_ | refine fun (K' : K3) hK' => ?_ | (refine hK' _ _ _ ?_; clear hK' K') | (refine And.intro (by refine ⟨by omega, by omega, ?_⟩; (try dsimp only); rw [hlb]; omega) ?_) | (refine And.intro (by (try dsimp only); rw [hlb, mulS_eq]; simp only [Int.toNat_natCast]; omega) ?_))
      refine ⟨k + 1, [], by omega, by omega, ?_⟩
      refine ⟨?_, ?_, rfl, rfl, by exact Nat.le_of_ble_eq_true rfl⟩
      · repeat (first | exact trivial | (refine And.intro (covS_syn (by rfl) rfl (by first | exact trivial | exact Nat.le_of_ble_eq_true rfl)) ?_))
      · repeat (first | exact trivial | refine And.intro (covE_bools rfl (Nat.le_of_ble_eq_true rfl) rfl ((toB_set rfl rfl).trans (by rw [hsu]))) ?_ | (refine And.intro (covE_id (Nat.le_of_ble_eq_true rfl) (by first | exact wf_ints _ _ | first | exact wf_cells _ _ | simp [C.wf]) rfl (by rfl)) ?_))
    · have hkn : k = cs.length := by omega
      subst hkn
      repeat ((conv => whnf); first | refine br_f (by omega) ?_ | refine fun (K' : K3) hK' => ?_ | (refine hK' _ _ _ ?_; clear hK' K'))
      refine Tri.loop (γ := Nat) (fun j => j ≤ bs.length) (fun j => [(2, V.c (.ptr 2 0)), (5, V.c (.sl 3 cs.length)), (28, V.c (.sl 1 bs.length)), (29, V.i bs.length), (30, V.i (j : Nat))])
        (fun j => [⟨3, .vec 4 1, (bL cs.length (opB W H cs bs j)).map C.bool⟩, ⟨2, .own 24, [C.i W, C.i H, .sl 0 cs.length]⟩, ⟨0, .ro 0, cs.map C.i⟩, ⟨1, .ro 0, cellC bs⟩]) 4 (fun j => bs.length - j) 0 (R0 := []) ?_ ?_ ?_
      · omega
      · skip
        refine ⟨?_, ?_, rfl, rfl, by exact Nat.le_of_ble_eq_true rfl⟩
        · repeat (first | exact trivial | (refine And.intro (covS_syn (by rfl) rfl (by first | exact trivial | exact Nat.le_of_ble_eq_true rfl)) ?_))
        · repeat (first | exact trivial | (refine And.intro (covE_bools rfl (Nat.le_of_ble_eq_true rfl) rfl (by rw [opA_end W H cs bs]; exact toB_bools _)) ?_) | (refine And.intro (covE_id (Nat.le_of_ble_eq_true rfl) (by first | exact wf_ints _ _ | first | exact wf_cells _ _ | simp [C.wf]) rfl (by rfl)) ?_))
      · intro j hj
        refine vc_ok tok ?_
        by_cases hlj : j < bs.length
        · have hld := cellT (l := bs) (k := j) rfl hlj
          have ho := hon j hlj
          have hxy := onB_t ho
          have hsu := opB_succ (W := W) (H := H) (cs := cs) hlj
          have hid := idxC_mod ho
          have hidx := idxU_in hok ho
          have hix := rindex_spec W H cs.length (bs.getD j (0, 0)).1 (bs.getD j (0, 0)).2 (by omega) (by omega) (by omega)
          rw [hid.1] at hsu
          have he : (bs.getD j (0, 0)).2 * W + (bs.getD j (0, 0)).1 = idxU W (bs.getD j (0, 0)) := rfl
          rw [he] at hix
          obtain ⟨i, hi⟩ : ∃ i : Nat, (i : Int) = idxU W (bs.getD j (0, 0)) := ⟨(idxU W (bs.getD j (0, 0))).toNat, by omega⟩
          rw [← hi] at hix hsu hidx
          obtain ⟨p, hp⟩ : ∃ p, p = bs.getD j (0, 0) := ⟨_, rfl⟩
          rw [← hp] at hld hix
          have hil : i < cs.length := by omega
          repeat ((conv => whnf); first | (refine And.intro (by first | omega | exact Nat.le_of_ble_eq_true rfl | (dsimp only [inK]; omega)) ?_) | with_reducible refine ld (hld) ?_ | refine Exists.intro _ (And.intro rfl ?_) | refine br_t (by omega) ?_ | refine fun (K' : K3) hK' => ?_ | (refine hK' _ _ _ ?_; clear hK' K') | refine CallK.val (R := []) hix (by kernel_rfl) rfl (by simp [V.wf, A.wf, C.wf]) trivial rfl rfl trivial ?_ | (refine And.intro (by refine ⟨by omega, by omega, ?_⟩; (try dsimp only); rw [hlb]; omega) ?_) | (refine And.intro (by (try dsimp only); rw [hlb, mulS_eq]; simp only [Int.toNat_natCast]; omega) ?_) | refine CallK.m ?_)
          refine ⟨j + 1, [], by omega, by omega, ?_⟩
          refine ⟨?_, ?_, rfl, rfl, by exact Nat.le_of_ble_eq_true rfl⟩
          · repeat (first | exact trivial | (refine And.intro (covS_syn (by rfl) rfl (by first | exact trivial | exact Nat.le_of_ble_eq_true rfl)) ?_))
          · repeat (first | exact trivial | refine And.intro (covE_bools rfl (Nat.le_of_ble_eq_true rfl) rfl ((toB_set rfl rfl).trans (by rw [hsu]))) ?_ | (refine And.intro (covE_id (Nat.le_of_ble_eq_true rfl) (by first | exact wf_ints _ _ | first | exact wf_cells _ _ | simp [C.wf]) rfl (by rfl)) ?_))
        · have hjl : j = bs.length := by omega
          subst hjl
          rw [opB_end hok]
          repeat ((conv => whnf); first | refine br_f (by omega) ?_ | refine fun (K' : K3) hK' => ?_ | (refine hK' _ _ _ ?_; clear hK' K'))
          exact ⟨3, by rw [bL_len]; rfl, rfl⟩
set_option maxRecDepth 10000 in
set_option maxHeartbeats 8000000 in
theorem left_spec (W H : Int) (cs : List Int) (bs : List Cell) (hok : CO W H cs) (hB : okB W H cs bs = true) (hb : bs.length ≤ 300) :
    Spec Try.prog 95 [chR W H cs.length, V.c (.sl 1 bs.length)] [⟨0, .ro 0, cs.map C.i⟩, ⟨1, .ro 0, cellC bs⟩] 2 (fun v L' _ => intsR (iL cs.length (lef (distW W H cs.length (wetB cs (boomF W H bs)) (W - 1)))) v L') := by
  have hlm : (cs.map C.i).length = cs.length := by simp
  have hop := open_spec W H cs bs hok hB hb
  obtain ⟨hW, hH, hcl, hcost⟩ := hok
  have hok : CO W H cs := ⟨hW, hH, hcl, hcost⟩
  have hn : (cs.length : Int) ≤ 100 := by have := Int.mul_le_mul hW.2 hH.2 (by omega) (by omega : (0:Int) ≤ 10); omega
  have hW0 : 0 < W := by omega
  obtain ⟨wet, hwet⟩ : ∃ wet, wet = wetB cs (boomF W H bs) := ⟨_, rfl⟩
  rw [← hwet] at hop ⊢
  obtain ⟨h0, rfl⟩ : ∃ h0 : Nat, H = h0 := ⟨H.toNat, by omega⟩
  obtain ⟨N, hN⟩ : ∃ N, N = cs.length := ⟨_, rfl⟩
  rw [← hN] at hop hcl hn ⊢
  have hlb : ((bL N wet).map C.bool).length = N := by simp [bL]
  have hli : ∀ g, ((iL N g).map C.i).length = N := fun g => by simp [iL]
  have hbl : (bL N wet).length = N := bL_len _ _
  rw [← hN] at hlm
  refine Spec.of tok Try.func95 rfl rfl rfl fun n0 cx => vc_ok tok ?_
  repeat ((conv => whnf); first | (refine And.intro (by first | omega | exact Nat.le_of_ble_eq_true rfl | (dsimp only [inK]; omega)) ?_) | refine Exists.intro _ (And.intro rfl ?_) | refine fun (K' : K3) hK' => ?_ | (refine hK' _ _ _ ?_; clear hK' K') | refine CallK.boolsR (R := []) hop (by kernel_rfl) rfl (by simp [V.wf, A.wf, C.wf]) ⟨roE_ints (l := 0) rfl (by omega) rfl (.inl rfl), roE_cells (l := 1) rfl (by omega) rfl (.inl rfl), trivial⟩ rfl ?_ | refine CallK.m ?_)
  rw [hbl]
  refine Tri.loop (γ := Nat) (fun y => y ≤ h0) (fun y => [(2, V.c (.ptr 2 0)), (5, V.c (.sl 3 N)), (6, V.c (.sl 4 N)), (22, V.i h0), (23, V.i (y : Nat))])
    (fun y => [⟨4, .vec 3 1, (iL N (colK W N wet (W - 1) y)).map C.i⟩, ⟨3, .vec 4 1, (bL N wet).map C.bool⟩, ⟨2, .own 24, [C.i W, C.i h0, .sl 0 N]⟩, ⟨0, .ro 0, cs.map C.i⟩, ⟨1, .ro 0, cellC bs⟩]) 5 (fun y => h0 - y) 0 (R0 := []) ?_ ?_ ?_
  · omega
  · skip
    refine ⟨?_, ?_, rfl, rfl, by exact Nat.le_of_ble_eq_true rfl⟩
    · repeat (first | exact trivial | (refine And.intro (covS_syn (by rfl) rfl (by first | exact trivial | exact Nat.le_of_ble_eq_true rfl)) ?_))
    · repeat (first | exact trivial | (refine And.intro (covE_id (Nat.le_of_ble_eq_true rfl) (by first | exact wf_ints _ _ | exact wf_bools _ _ | first | exact wf_cells _ _ | simp [C.wf]) rfl (by first | rfl | ((rw [colK_zero hW0]; exact repC_iL _)))) ?_))
  · intro y hy
    refine vc_ok tok ?_
    by_cases hlt : y < h0
    · have hyw : 0 ≤ (y : Int) * W ∧ (y : Int) * W + W ≤ N := by
        have h1 : 0 ≤ (y : Int) * W := Int.mul_nonneg (by omega) (by omega)
        have h2 := Int.mul_le_mul_of_nonneg_right (show (y : Int) + 1 ≤ h0 by omega) (show 0 ≤ W by omega)
        rw [Int.add_mul] at h2
        have : (h0 : Int) * W = W * h0 := Int.mul_comm _ _
        omega
      obtain ⟨i, hi⟩ : ∃ i : Nat, (i : Int) = (y : Int) * W + (W - 1) := ⟨((y : Int) * W + (W - 1)).toNat, by omega⟩
      have hil : i < N := by omega
      have hix := rindex_spec W h0 N (W - 1) (y : Int) (by omega) (by omega) (by omega)
      rw [← hi] at hix
      have hld := boolL (l := bL N wet) (k := i) (by omega)
      rw [bL_get hil] at hld
      have hsetc := iL_set (n := N) (g := colK W N wet (W - 1) y) (k := i) 1
      cases hw : wet (i : Int) with
      | true =>
        rw [hw] at hld
        rw [colK_t hW0 hi hil hw] at hsetc
        repeat ((conv => whnf); first | (refine And.intro (by first | omega | exact Nat.le_of_ble_eq_true rfl | (dsimp only [inK]; omega)) ?_) | with_reducible refine ld (hld) ?_ | refine Exists.intro _ (And.intro rfl ?_) | refine br_t (by omega) ?_ | refine fun (K' : K3) hK' => ?_ | (refine hK' _ _ _ ?_; clear hK' K') | refine CallK.val (R := []) hix (by kernel_rfl) rfl (by simp [V.wf, A.wf, C.wf]) trivial rfl rfl trivial ?_ | refine br_bt rfl ?_ | (refine And.intro (by refine ⟨by omega, by omega, ?_⟩; (try dsimp only); rw [hli]; omega) ?_) | (refine And.intro (by (try dsimp only); rw [hli, mulS_eq]; simp only [Int.toNat_natCast]; omega) ?_) | refine CallK.m ?_)
        refine ⟨y + 1, [], by omega, by omega, ?_⟩
        refine ⟨?_, ?_, rfl, rfl, by exact Nat.le_of_ble_eq_true rfl⟩
        · repeat (first | exact trivial | (refine And.intro (covS_syn (by rfl) rfl (by first | exact trivial | exact Nat.le_of_ble_eq_true rfl)) ?_))
        · repeat (first | exact trivial | (refine And.intro (covE_id (Nat.le_of_ble_eq_true rfl) (by first | exact wf_ints _ _ | exact wf_bools _ _ | first | exact wf_cells _ _ | simp [C.wf]) rfl (by first | rfl | ((rw [← hsetc]; exact setL_int rfl)))) ?_))
      | false =>
        rw [hw] at hld
        have hst := colK_f (n := N) hW0 hi hw
        repeat ((conv => whnf); first | (refine And.intro (by first | omega | exact Nat.le_of_ble_eq_true rfl | (dsimp only [inK]; omega)) ?_) | with_reducible refine ld (hld) ?_ | refine Exists.intro _ (And.intro rfl ?_) | refine br_t (by omega) ?_ | refine fun (K' : K3) hK' => ?_ | (refine hK' _ _ _ ?_; clear hK' K') | refine CallK.val (R := []) hix (by kernel_rfl) rfl (by simp [V.wf, A.wf, C.wf]) trivial rfl rfl trivial ?_ | refine br_bf rfl ?_ | refine CallK.m ?_)
        refine ⟨y + 1, [], by omega, by omega, ?_⟩
        refine ⟨?_, ?_, rfl, rfl, by exact Nat.le_of_ble_eq_true rfl⟩
        · repeat (first | exact trivial | (refine And.intro (covS_syn (by rfl) rfl (by first | exact trivial | exact Nat.le_of_ble_eq_true rfl)) ?_))
        · repeat (first | exact trivial | (refine And.intro (covE_id (Nat.le_of_ble_eq_true rfl) (by first | exact wf_ints _ _ | exact wf_bools _ _ | first | exact wf_cells _ _ | simp [C.wf]) rfl (by first | rfl | (rw [hst]))) ?_))
    · have hyh : y = h0 := by omega
      subst hyh
      rw [colK_end hW0 hcl rfl]
      obtain ⟨d, hd⟩ : ∃ d, d = distW W y N wet (W - 1) := ⟨_, rfl⟩
      have hlast : ∀ {t : Int} {L pre : List Int}, LI W y N wet d t N pre L → 1 ≤ t → L = iL N (lvl d (t + 1)) := fun {t L pre} h ht => by rw [hd] at h ⊢; exact h.last hW0 hcl ht
      have hput : ∀ {t j k : Int} {pre L : List Int}, LI W y N wet d t j pre L → 1 ≤ t → d j = some (t - 1) → k ∈ nbW W y N wet j → hL L k = 0 → LI W y N wet d t j (pre ++ [k]) (L.set k.toNat (t + 1)) := fun {t j k pre L} h ht hj hk hz => by rw [hd] at h hj ⊢; exact h.put hW0 hcl ht hj hk hz
      have hall : iL N (lvl d ((N : Int) + 1)) = iL N (lef d) := by rw [hd]; exact lvl_all hW0 hcl
      have hdw : ∀ {i m : Int}, d i = some m → (0 ≤ i ∧ i < N) ∧ wet i = true := fun {i m} h => by rw [hd] at h; exact distW_dom hW0 hcl h
      rw [← hd]
      clear hd
      repeat ((conv => whnf); first | refine br_f (by omega) ?_ | refine fun (K' : K3) hK' => ?_ | (refine hK' _ _ _ ?_; clear hK' K'))
      refine Tri.loop (γ := Nat) (fun t => 1 ≤ t ∧ t ≤ N + 1) (fun t => [(2, V.c (.ptr 2 0)), (5, V.c (.sl 3 N)), (6, V.c (.sl 4 N)), (9, V.i (t : Nat))])
        (fun t => [⟨4, .vec 3 1, (iL N (lvl d t)).map C.i⟩, ⟨3, .vec 4 1, (bL N wet).map C.bool⟩, ⟨2, .own 24, [C.i W, C.i y, .sl 0 N]⟩, ⟨0, .ro 0, cs.map C.i⟩, ⟨1, .ro 0, cellC bs⟩]) 5 (fun t => N + 1 - t) 1 (R0 := []) ?_ ?_ ?_
      · exact ⟨Nat.le_refl _, by omega⟩
      · skip
        refine ⟨?_, ?_, rfl, rfl, by exact Nat.le_of_ble_eq_true rfl⟩
        · repeat (first | exact trivial | (refine And.intro (covS_syn (by rfl) rfl (by first | exact trivial | exact Nat.le_of_ble_eq_true rfl)) ?_))
        · repeat (first | exact trivial | (refine And.intro (covE_id (Nat.le_of_ble_eq_true rfl) (by first | exact wf_ints _ _ | exact wf_bools _ _ | first | exact wf_cells _ _ | simp [C.wf]) rfl (by rfl)) ?_))
      · rintro t ⟨ht1, ht2⟩
        refine vc_ok tok ?_
        by_cases htn : t ≤ N
        · repeat ((conv => whnf); first | refine br_t (by omega) ?_ | refine fun (K' : K3) hK' => ?_ | (refine hK' _ _ _ ?_; clear hK' K'))
          refine Tri.loop (γ := Nat × List Int) (fun g => g.1 ≤ N ∧ LI W y N wet d t g.1 [] g.2) (fun g => [(2, V.c (.ptr 2 0)), (5, V.c (.sl 3 N)), (6, V.c (.sl 4 N)), (9, V.i (t : Nat)), (47, V.c (.sl 4 N)), (48, V.i N), (49, V.i (g.1 : Nat))])
            (fun g => [⟨4, .vec 3 1, g.2.map C.i⟩, ⟨3, .vec 4 1, (bL N wet).map C.bool⟩, ⟨2, .own 24, [C.i W, C.i y, .sl 0 N]⟩, ⟨0, .ro 0, cs.map C.i⟩, ⟨1, .ro 0, cellC bs⟩]) 5 (fun g => N - g.1) (0, iL N (lvl d t)) (R0 := []) ?_ ?_ ?_
          · exact ⟨by simp only; omega, LI.start d t⟩
          · skip
            refine ⟨?_, ?_, rfl, rfl, by exact Nat.le_of_ble_eq_true rfl⟩
            · repeat (first | exact trivial | (refine And.intro (covS_syn (by rfl) rfl (by first | exact trivial | exact Nat.le_of_ble_eq_true rfl)) ?_))
            · repeat (first | exact trivial | (refine And.intro (covE_id (Nat.le_of_ble_eq_true rfl) (by first | exact wf_ints _ _ | exact wf_bools _ _ | first | exact wf_cells _ _ | simp [C.wf]) rfl (by rfl)) ?_))
          · rintro ⟨j, L⟩ ⟨hj, hI⟩
            simp only at hj hI ⊢
            refine vc_ok tok ?_
            have hLl := hI.len
            have hLm : (L.map C.i).length = N := by simp [hLl]
            by_cases hjl : j < N
            · have hld := intL (l := L) (k := j) (by omega)
              have htold := hI.told (by omega) (by omega) (by omega)
              have hLj : hL L (j : Int) = L.getD j 0 := by unfold hL; rw [Int.toNat_natCast]
              rw [hLj] at htold
              obtain ⟨x, hx⟩ : ∃ x, x = L.getD j 0 := ⟨_, rfl⟩
              rw [← hx] at hld htold
              by_cases hxt : x = t
              · have hdj := htold.1 hxt
                have hbe := beside_spec W y N (j : Int) false (by omega) (by omega) (by omega)
                have hne := fun x (hx : x ∈ nearL W y false (j : Int)) => near_in hW0 hx
                have hlen := near_len W y false (j : Int)
                have hnbi : ∀ k, k ∈ nbW W y N wet (j : Int) ↔ k ∈ nearL W y false (j : Int) ∧ wet k = true := fun k => by
                  rw [nbW_iff]
                  exact ⟨fun h => h.2.2, fun h => ⟨by omega, (hdw hdj).2, h⟩⟩
                obtain ⟨nl, hnl⟩ : ∃ nl, nl = nearL W y false (j : Int) := ⟨_, rfl⟩
                rw [← hnl] at hbe hne hlen
                simp only [← hnl] at hnbi
                repeat ((conv => whnf); first | (refine And.intro (by first | omega | (dsimp only [inK]; omega)) ?_) | with_reducible refine ld (hld) ?_ | refine Exists.intro _ (And.intro rfl ?_) | refine br_t (by omega) ?_ | refine br_f (by omega) ?_ | refine fun (K' : K3) hK' => ?_ | (refine hK' _ _ _ ?_; clear hK' K') | refine CallK.den (vs := [V.agg [C.i W, C.i y, C.sl 0 N], V.i (j : Int), V.c (.bool false)]) (fun ρ => rfl) (by simp [V.wf, A.wf, C.wf]) (CallK.intsR (R := []) hbe (by kernel_rfl) rfl (by simp [V.wf, A.wf, C.wf]) trivial rfl ?_) | refine CallK.m ?_)
                refine Tri.loop (γ := Nat × List Int) (fun g => g.1 ≤ nl.length ∧ LI W y N wet d t j (nl.take g.1) g.2) (fun g => [(2, V.c (.ptr 2 0)), (5, V.c (.sl 3 N)), (6, V.c (.sl 4 N)), (9, V.i (t : Nat)), (47, V.c (.sl 4 N)), (48, V.i N), (49, V.i (j : Nat)), (59, V.c (.sl 5 nl.length)), (60, V.i nl.length), (61, V.i (g.1 : Nat))])
                  (fun g => [⟨5, .vec 3 1, nl.map C.i⟩, ⟨4, .vec 3 1, g.2.map C.i⟩, ⟨3, .vec 4 1, (bL N wet).map C.bool⟩, ⟨2, .own 24, [C.i W, C.i y, .sl 0 N]⟩, ⟨0, .ro 0, cs.map C.i⟩, ⟨1, .ro 0, cellC bs⟩]) 6 (fun g => nl.length - g.1) (0, L) (R0 := []) ?_ ?_ ?_
                · exact ⟨Nat.zero_le _, hI⟩
                · skip
                  refine ⟨?_, ?_, rfl, rfl, by exact Nat.le_of_ble_eq_true rfl⟩
                  · repeat (first | exact trivial | (refine And.intro (covS_syn (by rfl) rfl (by first | exact trivial | exact Nat.le_of_ble_eq_true rfl)) ?_))
                  · repeat (first | exact trivial | (refine And.intro (covE_id (Nat.le_of_ble_eq_true rfl) (by first | exact wf_ints _ _ | exact wf_bools _ _ | first | exact wf_cells _ _ | simp [C.wf]) rfl (by rfl)) ?_))
                · rintro ⟨m, L2⟩ ⟨hm, hI2⟩
                  simp only at hm hI2 ⊢
                  refine vc_ok tok ?_
                  have hL2 := hI2.len
                  have hL2m : (L2.map C.i).length = N := by simp [hL2]
                  by_cases hml : m < nl.length
                  · have hldk := intL hml
                    have hkk := hne _ (getD_mem hml)
                    have htk : nl.take (m + 1) = nl.take m ++ [nl.getD m 0] := by
                      rw [List.take_add_one, List.getElem?_eq_getElem hml, List.getD_eq_getElem?_getD, List.getElem?_eq_getElem hml]; rfl
                    have hmem := getD_mem hml
                    obtain ⟨k, hk⟩ : ∃ k : Nat, (k : Int) = nl.getD m 0 := ⟨(nl.getD m 0).toNat, by omega⟩
                    rw [← hk] at hldk hkk htk hmem
                    have hkl : k < N := by omega
                    have hldb := boolL (l := bL N wet) (k := k) (by omega)
                    rw [bL_get hkl] at hldb
                    have hldo := intL (l := L2) (k := k) (by omega)
                    have hLk : hL L2 (k : Int) = L2.getD k 0 := by unfold hL; rw [Int.toNat_natCast]
                    rw [← hLk] at hldo
                    have hnk := hnbi (k : Int)
                    obtain ⟨xk, hxk⟩ : ∃ xk, xk = hL L2 (k : Int) := ⟨_, rfl⟩
                    rw [← hxk] at hldo
                    cases hw : wet (k : Int) with
                    | false =>
                      rw [hw] at hldb
                      repeat ((conv => whnf); first | (refine And.intro (by first | omega | (dsimp only [inK]; omega) | (simp only [setL_length, List.length_map]; omega)) ?_) | with_reducible refine ld (hldk) ?_ | with_reducible refine ld (hldb) ?_ | refine br_t (by omega) ?_ | refine fun (K' : K3) hK' => ?_ | (refine hK' _ _ _ ?_; clear hK' K') | refine br_bf rfl ?_)
                      refine ⟨(m + 1, L2), [], ⟨by simp only; omega, ?_⟩, by simp only; omega, ?_⟩
                      · simp only; rw [htk]; exact hI2.skip fun h => by have := (hnk.1 h).2; rw [hw] at this; cases this
                      · skip
                        refine ⟨?_, ?_, rfl, rfl, by exact Nat.le_of_ble_eq_true rfl⟩
                        · repeat (first | exact trivial | (refine And.intro (covS_syn (by rfl) rfl (by first | exact trivial | exact Nat.le_of_ble_eq_true rfl)) ?_))
                        · repeat (first | exact trivial | (refine And.intro (covE_id (Nat.le_of_ble_eq_true rfl) (by first | exact wf_ints _ _ | exact wf_bools _ _ | first | exact wf_cells _ _ | simp [C.wf]) rfl (by rfl)) ?_))
                    | true =>
                      rw [hw] at hldb
                      by_cases hz : xk = 0
                      · have hcell : setL (L2.map C.i) (mulS ((k : Nat) : Int).toNat 1) [C.i ((t : Int) + 1)] = (L2.set k ((t : Int) + 1)).map C.i := setL_int rfl
                        have hpt := hput hI2 (by omega) hdj (hnk.2 ⟨hmem, hw⟩) (by rw [← hxk]; exact hz)
                        rw [Int.toNat_natCast] at hpt
                        repeat ((conv => whnf); first | (refine And.intro (by first | omega | (dsimp only [inK]; omega) | (simp only [mulS_eq]; omega) | (simp only [setL_length, List.length_map]; omega)) ?_) | with_reducible refine ld (hldk) ?_ | with_reducible refine ld (hldb) ?_ | with_reducible refine ld (hldo) ?_ | refine br_t (by omega) ?_ | refine fun (K' : K3) hK' => ?_ | (refine hK' _ _ _ ?_; clear hK' K') | refine br_bt rfl ?_)
                        refine ⟨(m + 1, L2.set k ((t : Int) + 1)), [], ⟨by simp only; omega, ?_⟩, by simp only; omega, ?_⟩
                        · simp only; rw [htk]; exact hpt
                        · skip
                          refine ⟨?_, ?_, rfl, rfl, by exact Nat.le_of_ble_eq_true rfl⟩
                          · repeat (first | exact trivial | (refine And.intro (covS_syn (by rfl) rfl (by first | exact trivial | exact Nat.le_of_ble_eq_true rfl)) ?_))
                          · repeat (first | exact trivial | (refine And.intro (covE_id (Nat.le_of_ble_eq_true rfl) (by first | exact wf_ints _ _ | exact wf_bools _ _ | first | exact wf_cells _ _ | simp [C.wf]) rfl (by first | rfl | exact hcell)) ?_))
                      · repeat ((conv => whnf); first | (refine And.intro (by first | omega | (dsimp only [inK]; omega) | (simp only [setL_length, List.length_map]; omega)) ?_) | with_reducible refine ld (hldk) ?_ | with_reducible refine ld (hldb) ?_ | with_reducible refine ld (hldo) ?_ | refine br_t (by omega) ?_ | refine br_f (by omega) ?_ | refine fun (K' : K3) hK' => ?_ | (refine hK' _ _ _ ?_; clear hK' K') | refine br_bt rfl ?_)
                        refine ⟨(m + 1, L2), [], ⟨by simp only; omega, ?_⟩, by simp only; omega, ?_⟩
                        · simp only; rw [htk]; exact hI2.skip fun _ => by rw [← hxk]; exact hz
                        · skip
                          refine ⟨?_, ?_, rfl, rfl, by exact Nat.le_of_ble_eq_true rfl⟩
                          · repeat (first | exact trivial | (refine And.intro (covS_syn (by rfl) rfl (by first | exact trivial | exact Nat.le_of_ble_eq_true rfl)) ?_))
                          · repeat (first | exact trivial | (refine And.intro (covE_id (Nat.le_of_ble_eq_true rfl) (by first | exact wf_ints _ _ | exact wf_bools _ _ | first | exact wf_cells _ _ | simp [C.wf]) rfl (by rfl)) ?_))
                  · have hme : m = nl.length := by omega
                    subst hme
                    rw [List.take_length] at hI2
                    repeat ((conv => whnf); first | (refine And.intro (by first | omega | (dsimp only [inK]; omega)) ?_) | refine br_f (by omega) ?_ | refine fun (K' : K3) hK' => ?_ | (refine hK' _ _ _ ?_; clear hK' K'))
                    refine ⟨(j + 1, L2), [], ⟨by simp only; omega, ?_⟩, by simp only; omega, ?_⟩
                    · have := hI2.row (by omega) (fun _ k hk => ((hnbi k).1 hk).1)
                      simpa using this
                    · skip
                      refine ⟨?_, ?_, rfl, rfl, by exact Nat.le_of_ble_eq_true rfl⟩
                      · repeat (first | exact trivial | (refine And.intro (covS_syn (by rfl) rfl (by first | exact trivial | exact Nat.le_of_ble_eq_true rfl)) ?_))
                      · repeat (first | exact trivial | (refine And.intro (covE_id (Nat.le_of_ble_eq_true rfl) (by first | exact wf_ints _ _ | exact wf_bools _ _ | first | exact wf_cells _ _ | simp [C.wf]) rfl (by rfl)) ?_))
              · have hrow := hI.row (by omega) (fun h => absurd (htold.2 h) hxt)
                repeat ((conv => whnf); first | (refine And.intro (by first | omega | (dsimp only [inK]; omega)) ?_) | with_reducible refine ld (hld) ?_ | refine br_t (by omega) ?_ | refine fun (K' : K3) hK' => ?_ | (refine hK' _ _ _ ?_; clear hK' K'))
                refine ⟨(j + 1, L), [], ⟨by simp only; omega, by simpa using hrow⟩, by simp only; omega, ?_⟩
                refine ⟨?_, ?_, rfl, rfl, by exact Nat.le_of_ble_eq_true rfl⟩
                · repeat (first | exact trivial | (refine And.intro (covS_syn (by rfl) rfl (by first | exact trivial | exact Nat.le_of_ble_eq_true rfl)) ?_))
                · repeat (first | exact trivial | (refine And.intro (covE_id (Nat.le_of_ble_eq_true rfl) (by first | exact wf_ints _ _ | exact wf_bools _ _ | first | exact wf_cells _ _ | simp [C.wf]) rfl (by rfl)) ?_))
            · have hjn : j = N := by omega
              subst hjn
              have hfin := hlast hI (by omega)
              repeat ((conv => whnf); first | (refine And.intro (by first | omega | (dsimp only [inK]; omega)) ?_) | refine br_f (by omega) ?_ | refine fun (K' : K3) hK' => ?_ | (refine hK' _ _ _ ?_; clear hK' K'))
              refine ⟨t + 1, [], by omega, by omega, ?_⟩
              rw [hfin]
              refine ⟨?_, ?_, rfl, rfl, by exact Nat.le_of_ble_eq_true rfl⟩
              · repeat (first | exact trivial | (refine And.intro (covS_syn (by rfl) rfl (by first | exact trivial | exact Nat.le_of_ble_eq_true rfl)) ?_))
              · repeat (first | exact trivial | (refine And.intro (covE_id (Nat.le_of_ble_eq_true rfl) (by first | exact wf_ints _ _ | exact wf_bools _ _ | first | exact wf_cells _ _ | simp [C.wf]) rfl (by rfl)) ?_))
        · have htn' : t = N + 1 := by omega
          subst htn'
          repeat ((conv => whnf); first | refine br_f (by omega) ?_ | refine fun (K' : K3) hK' => ?_ | (refine hK' _ _ _ ?_; clear hK' K'))
          have e : iL N (lvl d ((N + 1 : Nat) : Int)) = iL N (lef d) := hall
          rw [e]
          exact ⟨4, by rw [iL_len]; rfl, rfl⟩
end Go.Proofs.Ytbhpnhcdjmcaoaa

/- Boom: charts that are told cell by cell. -/
namespace Go.Proofs.Ytbhpnhcdjmcaoaa
open Go.RowKit
set_option linter.unusedVariables false
set_option linter.unusedSimpArgs false
theorem fn_wf3 {nx : Nat} {f : FuncId} {caps : List (Nat × Nat)} (h : (caps.all fun p => Nat.blt p.1 nx) = true) : (V.c (.fn f caps)).wf nx := fun p hp => Nat.le_of_ble_eq_true (List.all_eq_true.1 h p hp)
theorem chk_rowA (p : Nat → Bool) (l : List Int) (z : Int) (lab : Nat) (kd : Kd) : (([⟨lab, kd, l.map C.i ++ [C.i z]⟩] : List E).all fun e => e.cs.all (C.chk p)) = true := by
  simp only [List.all_cons, List.all_nil, Bool.and_true, List.all_append]
  rw [chk_ints]; rfl
def chgL (cs : List Int) (g : Int → Int) : List Int := (List.range cs.length).map fun i : Nat => g (i : Int)
def chgK (g : Int → Int) (k : Nat) : List Int := (List.range k).map fun i : Nat => g (i : Int)
theorem chgK_succ (g : Int → Int) (k : Nat) : (chgK g (k + 1)).map C.i = (chgK g k).map C.i ++ [C.i (g (k : Int))] := by simp [chgK, List.range_succ]
theorem chgL_len (cs : List Int) (g : Int → Int) : (chgL cs g).length = cs.length := by simp [chgL]
def dryG (W H : Int) (cs : List Int) (bs : List Cell) (i : Int) : Int := if boomF W H bs i then -1 else cs.getD i.toNat 0
def turnI (W H i : Int) : Int := (H - 1 - i / W) * W + i % W
def turnG (W H : Int) (cs : List Int) (i : Int) : Int := cs.getD (turnI W H i).toNat 0
def strG (cs : List Int) (most : Int) (i : Int) : Int := if cs.getD i.toNat 0 > most then 0 else cs.getD i.toNat 0
theorem turnI_bd {W H i : Int} (hW : 0 < W) (hi : 0 ≤ i) (hn : i < W * H) : 0 ≤ turnI W H i ∧ turnI W H i < W * H := by
  have h1 := Int.emod_nonneg i (show W ≠ 0 by omega)
  have h2 := Int.emod_lt_of_pos i hW
  have h4 : 0 ≤ i / W := Int.ediv_nonneg hi (by omega)
  have h5 : i / W < H := Int.ediv_lt_of_lt_mul hW (by rw [Int.mul_comm]; exact hn)
  unfold turnI
  have h6 : 0 ≤ (H - 1 - i / W) * W := Int.mul_nonneg (by omega) (by omega)
  have h7 : (H - 1 - i / W) * W ≤ (H - 1) * W := Int.mul_le_mul_of_nonneg_right (by omega) (by omega)
  have h8 : (H - 1) * W = W * H - W := by rw [Int.sub_mul, Int.mul_comm H W]; omega
  omega
theorem dry1_spec (W H : Int) (cs : List Int) (bs : List Cell) (i : Nat) (hi : i < cs.length) (hl : cs.length ≤ 300) : Spec Try.prog 66 [V.i i, V.c (.ptr 3 0), V.c (.ptr 2 0)] [⟨0, .ro 0, cs.map C.i⟩, ⟨1, .mp false .int (bmF (boomF W H bs)), []⟩, ⟨2, .ro 0, [C.i W, C.i H, .sl 0 cs.length]⟩, ⟨3, .ro 0, [C.i W, C.i H, .sl 0 cs.length, .mp 1]⟩] 4 (Is (V.i (dryG W H cs bs i))) := by
  have hlm : (cs.map C.i).length = cs.length := by simp
  refine Spec.of tok Try.func66 rfl rfl rfl fun n0 cx => vc_ok tok ?_
  cases hb : boomF W H bs (i : Int) with
  | true =>
    have hm : bmF (boomF W H bs) [(i : Int)] = some (.b true) := by rw [bmF_look, hb]; rfl
    have hr : dryG W H cs bs i = -1 := by unfold dryG; rw [hb]; rfl
    repeat ((conv => whnf); first | (refine And.intro (by first | omega | exact Nat.le_of_ble_eq_true rfl) ?_) | with_reducible refine lkm (hm) ?_ | refine Exists.intro _ (And.intro rfl ?_) | refine fun (K' : K3) hK' => ?_ | (refine hK' _ _ _ ?_; clear hK' K') | refine br_bt (Eq.refl true) ?_)
    intro ρ; rw [hr]; rfl
  | false =>
    have hm : bmF (boomF W H bs) [(i : Int)] = none := by rw [bmF_look, hb]; rfl
    have hr : dryG W H cs bs i = cs.getD i 0 := by unfold dryG; rw [hb]; rfl
    repeat ((conv => whnf); first | (refine And.intro (by first | omega | exact Nat.le_of_ble_eq_true rfl | (dsimp only [inK]; omega)) ?_) | with_reducible refine lkm (hm) ?_ | with_reducible refine ld (intL hi) ?_ | refine Exists.intro _ (And.intro rfl ?_) | refine fun (K' : K3) hK' => ?_ | (refine hK' _ _ _ ?_; clear hK' K') | refine br_bf (Eq.refl false) ?_)
    intro ρ; rw [hr]; rfl
theorem turn1_spec (W H : Int) (cs : List Int) (i : Nat) (hok : CO W H cs) (hi : i < cs.length) : Spec Try.prog 70 [V.i i, V.c (.ptr 2 0)] [⟨0, .ro 0, cs.map C.i⟩, ⟨2, .ro 0, [C.i W, C.i H, .sl 0 cs.length]⟩] 4 (Is (V.i (turnG W H cs i))) := by
  have hlm : (cs.map C.i).length = cs.length := by simp
  have hW := hok.w
  have hH := hok.h
  have hcn := hok.len
  have hn100 : (cs.length : Int) ≤ 100 := by have := Int.mul_le_mul hW.2 hH.2 (by omega) (by omega : (0:Int) ≤ 10); omega
  have h1 := Int.emod_nonneg (i : Int) (show W ≠ 0 by omega)
  have h2 := Int.emod_lt_of_pos (i : Int) (show 0 < W by omega)
  have h4 : 0 ≤ (i : Int) / W := Int.ediv_nonneg (by omega) (by omega)
  have h5 : (i : Int) / W < H := Int.ediv_lt_of_lt_mul (by omega) (by rw [Int.mul_comm]; omega)
  have h6 : 0 ≤ (H - 1 - (i : Int) / W) * W := Int.mul_nonneg (by omega) (by omega)
  have h7 : (H - 1 - (i : Int) / W) * W ≤ 10 * 10 := Int.mul_le_mul (by omega) (by omega) (by omega) (by omega)
  have hb := turnI_bd (W := W) (H := H) (i := (i : Int)) (by omega) (by omega) (by omega)
  have hld : (cs.map C.i)[mulS (turnI W H (i : Int)).toNat 1]? = some (C.i (turnG W H cs i)) := intLz (k := (turnI W H (i : Int)).toNat) (by omega) (by omega)
  unfold turnI at hld hb
  refine Spec.of tok Try.func70 rfl rfl rfl fun n0 cx => vc_ok tok ?_
  repeat ((conv => whnf); first | (refine And.intro (by first | omega | exact Nat.le_of_ble_eq_true rfl | (dsimp only [inK]; omega)) ?_) | with_reducible refine ld (hld) ?_ | refine Exists.intro _ (And.intro rfl ?_) | refine fun (K' : K3) hK' => ?_ | (refine hK' _ _ _ ?_; clear hK' K') | refine draw_auto tok mixed (by kernel_rfl) ?_)
  intro ρ; rfl
theorem str1_spec (W H : Int) (cs : List Int) (most : Int) (i : Nat) (hi : i < cs.length) (hl : cs.length ≤ 300) : Spec Try.prog 72 [V.i i, V.c (.ptr 2 0), V.c (.ptr 3 0)] [⟨0, .ro 0, cs.map C.i⟩, ⟨2, .ro 0, [C.i W, C.i H, .sl 0 cs.length]⟩, ⟨3, .ro 0, [C.i most]⟩] 4 (Is (V.i (strG cs most i))) := by
  have hlm : (cs.map C.i).length = cs.length := by simp
  have hld := intL hi
  have hr : strG cs most i = if cs.getD i 0 > most then 0 else cs.getD i 0 := rfl
  obtain ⟨x, hx⟩ : ∃ x, x = cs.getD i 0 := ⟨_, rfl⟩
  rw [← hx] at hld hr
  refine Spec.of tok Try.func72 rfl rfl rfl fun n0 cx => vc_ok tok ?_
  by_cases h : x > most
  · repeat ((conv => whnf); first | (refine And.intro (by first | omega | exact Nat.le_of_ble_eq_true rfl | (dsimp only [inK]; omega)) ?_) | with_reducible refine ld (hld) ?_ | refine Exists.intro _ (And.intro rfl ?_) | refine br_t (by omega) ?_ | refine fun (K' : K3) hK' => ?_ | (refine hK' _ _ _ ?_; clear hK' K') | refine draw_auto tok mixed (by kernel_rfl) ?_)
    intro ρ; rw [hr, if_pos h]; rfl
  · repeat ((conv => whnf); first | (refine And.intro (by first | omega | exact Nat.le_of_ble_eq_true rfl | (dsimp only [inK]; omega)) ?_) | with_reducible refine ld (hld) ?_ | refine Exists.intro _ (And.intro rfl ?_) | refine br_f (by omega) ?_ | refine fun (K' : K3) hK' => ?_ | (refine hK' _ _ _ ?_; clear hK' K') | refine draw_auto tok mixed (by kernel_rfl) ?_)
    intro ρ; rw [hr, if_neg h]; rfl
/-- A chart that comes about, and an error. -/
def chgR (W H : Int) (l : List Int) (v : V) (L' : List E) : Prop := ∃ lab, v = V.agg [C.i W, C.i H, .sl lab l.length] ∧ find L' lab = some ⟨lab, .vec 3 1, l.map C.i⟩

set_option maxHeartbeats 4000000 in
theorem changed_dry (W H : Int) (cs : List Int) (bs : List Cell) (hl : cs.length ≤ 300) :
    Spec Try.prog 65 [chV W H cs.length, V.c (.fn 66 [(3, 0), (2, 0)])] [⟨0, .ro 0, cs.map C.i⟩, ⟨1, .mp false .int (bmF (boomF W H bs)), []⟩, ⟨2, .ro 0, [C.i W, C.i H, .sl 0 cs.length]⟩, ⟨3, .ro 0, [C.i W, C.i H, .sl 0 cs.length, .mp 1]⟩] 4 (fun v L' _ => chgR W H (chgL cs (dryG W H cs bs)) v L') := by
  have hlm : (cs.map C.i).length = cs.length := by simp
  refine Spec.of tok Try.func65 rfl rfl rfl fun n0 cx => vc_ok tok ?_
  repeat ((conv => whnf); first | (refine And.intro (by first | omega | exact Nat.le_of_ble_eq_true rfl) ?_) | refine Exists.intro _ (And.intro rfl ?_) | refine fun (K' : K3) hK' => ?_ | (refine hK' _ _ _ ?_; clear hK' K'))
  refine Tri.loop (γ := Nat) (fun k => k ≤ cs.length) (fun k => [(1, V.c (.fn 66 [(3, 0), (2, 0)])), (2, V.c (.ptr 4 0)), (4, V.c (.ptr 5 0)), (5, V.c (.ptr 6 0)), (17, V.i cs.length), (18, V.i (k : Nat))])
    (fun k => [⟨7, .vec 3 1, (chgK (dryG W H cs bs) k).map C.i⟩, ⟨6, .own 24, [C.i W, C.i H, .sl 7 k]⟩, ⟨5, .own 24, [C.i 0, C.i 0, .nil]⟩, ⟨4, .own 65, [C.i W, C.i H, .sl 0 cs.length, .mp 1]⟩, ⟨0, .ro 0, cs.map C.i⟩, ⟨1, .mp false .int (bmF (boomF W H bs)), []⟩, ⟨2, .ro 0, [C.i W, C.i H, .sl 0 cs.length]⟩, ⟨3, .ro 0, [C.i W, C.i H, .sl 0 cs.length, .mp 1]⟩]) 8 (fun k => cs.length - k) 0 (R0 := [(7, none)]) ?_ ?_ ?_
  · omega
  · refine ⟨?_, ?_, rfl, rfl, Nat.le_of_ble_eq_true rfl⟩
    · repeat (first | exact trivial | refine And.intro (covS_syn rfl rfl (by first | exact trivial | exact Nat.le_of_ble_eq_true rfl | exact fn_wf3 rfl)) ?_)
    · repeat (first | exact trivial | refine And.intro (covE_nil rfl (Nat.le_of_ble_eq_true rfl) rfl rfl) ?_ | refine And.intro (covE_mp rfl (Nat.le_of_ble_eq_true rfl) rfl rfl) ?_ | refine And.intro (covE_some rfl (Nat.le_of_ble_eq_true rfl) (by first | exact wf_ints _ _ | simp [C.wf]) rfl (by first | exact ren_ints _ _ | rfl)) ?_)
  · intro k hk
    refine vc_ok tok ?_
    by_cases hlt : k < cs.length
    · have hsp := dry1_spec W H cs bs k hlt hl
      have hrow : ((chgK (dryG W H cs bs) k).map C.i).length = k := by simp [chgK]
      have hsucc := chgK_succ (dryG W H cs bs) k
      obtain ⟨x, hx⟩ : ∃ x, x = (dryG W H cs bs) (k : Int) := ⟨_, rfl⟩
      rw [← hx] at hsp hsucc
      repeat ((conv => whnf); first | (refine And.intro (by first | omega | exact Nat.le_of_ble_eq_true rfl | (dsimp only [inK]; omega) | (exact ⟨rfl, rfl, rfl, Nat.le_of_ble_eq_true rfl, by dsimp only; omega, by exact Nat.le_of_ble_eq_true rfl, by omega, Nat.le_of_ble_eq_true rfl⟩) | exact Eq.refl true) ?_) | refine Exists.intro _ (And.intro rfl ?_) | refine br_t (by omega) ?_ | refine fun (K' : K3) hK' => ?_ | (refine hK' _ _ _ ?_; clear hK' K') | refine draw_kill [7] tok mixed (by decide +kernel) ?_ | (refine HD_mk (fun _ h => CallK.val (R := []) hsp (by kernel_rfl) rfl (by simp [V.wf, A.wf, C.wf]) ⟨roE_ints (l := 0) rfl (by omega) rfl (.inl rfl), ⟨by show 1 < 4; omega, rfl, _, rfl⟩, ⟨by show 2 < 4; omega, by simp [C.wf], _, _, rfl, .inl rfl, rfl⟩, ⟨by show 3 < 4; omega, by simp [C.wf], _, _, rfl, .inl rfl, rfl⟩, trivial⟩ rfl rfl trivial h) ?_) | refine And.intro (And.intro rfl (chk_rowA _ _ _ _ _)) ?_ | refine And.intro (And.intro rfl rfl) ?_)
      refine ⟨k + 1, [(7, some 9)], by omega, by omega, ?_⟩
      refine ⟨?_, ?_, rfl, rfl, Nat.le_of_ble_eq_true rfl⟩
      · repeat (first | exact trivial | refine And.intro (covS_syn (by first | rfl | (refine congrArg some (congrArg V.i ?_); omega)) rfl (by first | exact trivial | exact Nat.le_of_ble_eq_true rfl | exact fn_wf3 rfl)) ?_)
      · repeat (first | exact trivial | refine And.intro (covE_mp rfl (Nat.le_of_ble_eq_true rfl) rfl rfl) ?_ | refine And.intro (covE_some rfl (Nat.le_of_ble_eq_true rfl) (by first | exact wf_ints _ _ | simp [C.wf]) rfl (by first | exact (ren_ints _ _).trans (congrArg some (by rw [hsucc]; rfl)) | exact ren_ints _ _ | rfl)) ?_)
    · have hkn : k = cs.length := by omega
      subst hkn
      repeat ((conv => whnf); first | (refine And.intro (by first | omega | exact Nat.le_of_ble_eq_true rfl) ?_) | refine Exists.intro _ (And.intro rfl ?_) | refine br_f (by omega) ?_ | refine fun (K' : K3) hK' => ?_ | (refine hK' _ _ _ ?_; clear hK' K'))
      exact ⟨7, by rw [chgL_len]; rfl, rfl⟩

set_option maxHeartbeats 4000000 in
theorem changed_turn (W H : Int) (cs : List Int)  (hl : cs.length ≤ 300) (hok : CO W H cs) :
    Spec Try.prog 65 [chV W H cs.length, V.c (.fn 70 [(2, 0)])] [⟨0, .ro 0, cs.map C.i⟩, ⟨2, .ro 0, [C.i W, C.i H, .sl 0 cs.length]⟩] 4 (fun v L' _ => chgR W H (chgL cs (turnG W H cs)) v L') := by
  have hlm : (cs.map C.i).length = cs.length := by simp
  refine Spec.of tok Try.func65 rfl rfl rfl fun n0 cx => vc_ok tok ?_
  repeat ((conv => whnf); first | (refine And.intro (by first | omega | exact Nat.le_of_ble_eq_true rfl) ?_) | refine Exists.intro _ (And.intro rfl ?_) | refine fun (K' : K3) hK' => ?_ | (refine hK' _ _ _ ?_; clear hK' K'))
  refine Tri.loop (γ := Nat) (fun k => k ≤ cs.length) (fun k => [(1, V.c (.fn 70 [(2, 0)])), (2, V.c (.ptr 4 0)), (4, V.c (.ptr 5 0)), (5, V.c (.ptr 6 0)), (17, V.i cs.length), (18, V.i (k : Nat))])
    (fun k => [⟨7, .vec 3 1, (chgK (turnG W H cs) k).map C.i⟩, ⟨6, .own 24, [C.i W, C.i H, .sl 7 k]⟩, ⟨5, .own 24, [C.i 0, C.i 0, .nil]⟩, ⟨4, .own 65, [C.i W, C.i H, .sl 0 cs.length, .mp 1]⟩, ⟨0, .ro 0, cs.map C.i⟩, ⟨2, .ro 0, [C.i W, C.i H, .sl 0 cs.length]⟩]) 8 (fun k => cs.length - k) 0 (R0 := [(7, none)]) ?_ ?_ ?_
  · omega
  · refine ⟨?_, ?_, rfl, rfl, Nat.le_of_ble_eq_true rfl⟩
    · repeat (first | exact trivial | refine And.intro (covS_syn rfl rfl (by first | exact trivial | exact Nat.le_of_ble_eq_true rfl | exact fn_wf3 rfl)) ?_)
    · repeat (first | exact trivial | refine And.intro (covE_nil rfl (Nat.le_of_ble_eq_true rfl) rfl rfl) ?_ | refine And.intro (covE_mp rfl (Nat.le_of_ble_eq_true rfl) rfl rfl) ?_ | refine And.intro (covE_some rfl (Nat.le_of_ble_eq_true rfl) (by first | exact wf_ints _ _ | simp [C.wf]) rfl (by first | exact ren_ints _ _ | rfl)) ?_)
  · intro k hk
    refine vc_ok tok ?_
    by_cases hlt : k < cs.length
    · have hsp := turn1_spec W H cs k hok hlt
      have hrow : ((chgK (turnG W H cs) k).map C.i).length = k := by simp [chgK]
      have hsucc := chgK_succ (turnG W H cs) k
      obtain ⟨x, hx⟩ : ∃ x, x = (turnG W H cs) (k : Int) := ⟨_, rfl⟩
      rw [← hx] at hsp hsucc
      repeat ((conv => whnf); first | (refine And.intro (by first | omega | exact Nat.le_of_ble_eq_true rfl | (dsimp only [inK]; omega) | (exact ⟨rfl, rfl, rfl, Nat.le_of_ble_eq_true rfl, by dsimp only; omega, by exact Nat.le_of_ble_eq_true rfl, by omega, Nat.le_of_ble_eq_true rfl⟩) | exact Eq.refl true) ?_) | refine Exists.intro _ (And.intro rfl ?_) | refine br_t (by omega) ?_ | refine fun (K' : K3) hK' => ?_ | (refine hK' _ _ _ ?_; clear hK' K') | refine draw_kill [7] tok mixed (by decide +kernel) ?_ | (refine HD_mk (fun _ h => CallK.val (R := []) hsp (by kernel_rfl) rfl (by simp [V.wf, A.wf, C.wf]) ⟨roE_ints (l := 0) rfl (by omega) rfl (.inl rfl), ⟨by show 2 < 4; omega, by simp [C.wf], _, _, rfl, .inl rfl, rfl⟩, trivial⟩ rfl rfl trivial h) ?_) | refine And.intro (And.intro rfl (chk_rowA _ _ _ _ _)) ?_ | refine And.intro (And.intro rfl rfl) ?_)
      refine ⟨k + 1, [(7, some 9)], by omega, by omega, ?_⟩
      refine ⟨?_, ?_, rfl, rfl, Nat.le_of_ble_eq_true rfl⟩
      · repeat (first | exact trivial | refine And.intro (covS_syn (by first | rfl | (refine congrArg some (congrArg V.i ?_); omega)) rfl (by first | exact trivial | exact Nat.le_of_ble_eq_true rfl | exact fn_wf3 rfl)) ?_)
      · repeat (first | exact trivial | refine And.intro (covE_mp rfl (Nat.le_of_ble_eq_true rfl) rfl rfl) ?_ | refine And.intro (covE_some rfl (Nat.le_of_ble_eq_true rfl) (by first | exact wf_ints _ _ | simp [C.wf]) rfl (by first | exact (ren_ints _ _).trans (congrArg some (by rw [hsucc]; rfl)) | exact ren_ints _ _ | rfl)) ?_)
    · have hkn : k = cs.length := by omega
      subst hkn
      repeat ((conv => whnf); first | (refine And.intro (by first | omega | exact Nat.le_of_ble_eq_true rfl) ?_) | refine Exists.intro _ (And.intro rfl ?_) | refine br_f (by omega) ?_ | refine fun (K' : K3) hK' => ?_ | (refine hK' _ _ _ ?_; clear hK' K'))
      exact ⟨7, by rw [chgL_len]; rfl, rfl⟩

set_option maxHeartbeats 4000000 in
theorem changed_str (W H : Int) (cs : List Int) (most : Int) (hl : cs.length ≤ 300) :
    Spec Try.prog 65 [chV W H cs.length, V.c (.fn 72 [(2, 0), (3, 0)])] [⟨0, .ro 0, cs.map C.i⟩, ⟨2, .ro 0, [C.i W, C.i H, .sl 0 cs.length]⟩, ⟨3, .ro 0, [C.i most]⟩] 4 (fun v L' _ => chgR W H (chgL cs (strG cs most)) v L') := by
  have hlm : (cs.map C.i).length = cs.length := by simp
  refine Spec.of tok Try.func65 rfl rfl rfl fun n0 cx => vc_ok tok ?_
  repeat ((conv => whnf); first | (refine And.intro (by first | omega | exact Nat.le_of_ble_eq_true rfl) ?_) | refine Exists.intro _ (And.intro rfl ?_) | refine fun (K' : K3) hK' => ?_ | (refine hK' _ _ _ ?_; clear hK' K'))
  refine Tri.loop (γ := Nat) (fun k => k ≤ cs.length) (fun k => [(1, V.c (.fn 72 [(2, 0), (3, 0)])), (2, V.c (.ptr 4 0)), (4, V.c (.ptr 5 0)), (5, V.c (.ptr 6 0)), (17, V.i cs.length), (18, V.i (k : Nat))])
    (fun k => [⟨7, .vec 3 1, (chgK (strG cs most) k).map C.i⟩, ⟨6, .own 24, [C.i W, C.i H, .sl 7 k]⟩, ⟨5, .own 24, [C.i 0, C.i 0, .nil]⟩, ⟨4, .own 65, [C.i W, C.i H, .sl 0 cs.length, .mp 1]⟩, ⟨0, .ro 0, cs.map C.i⟩, ⟨2, .ro 0, [C.i W, C.i H, .sl 0 cs.length]⟩, ⟨3, .ro 0, [C.i most]⟩]) 8 (fun k => cs.length - k) 0 (R0 := [(7, none)]) ?_ ?_ ?_
  · omega
  · refine ⟨?_, ?_, rfl, rfl, Nat.le_of_ble_eq_true rfl⟩
    · repeat (first | exact trivial | refine And.intro (covS_syn rfl rfl (by first | exact trivial | exact Nat.le_of_ble_eq_true rfl | exact fn_wf3 rfl)) ?_)
    · repeat (first | exact trivial | refine And.intro (covE_nil rfl (Nat.le_of_ble_eq_true rfl) rfl rfl) ?_ | refine And.intro (covE_mp rfl (Nat.le_of_ble_eq_true rfl) rfl rfl) ?_ | refine And.intro (covE_some rfl (Nat.le_of_ble_eq_true rfl) (by first | exact wf_ints _ _ | simp [C.wf]) rfl (by first | exact ren_ints _ _ | rfl)) ?_)
  · intro k hk
    refine vc_ok tok ?_
    by_cases hlt : k < cs.length
    · have hsp := str1_spec W H cs most k hlt hl
      have hrow : ((chgK (strG cs most) k).map C.i).length = k := by simp [chgK]
      have hsucc := chgK_succ (strG cs most) k
      obtain ⟨x, hx⟩ : ∃ x, x = (strG cs most) (k : Int) := ⟨_, rfl⟩
      rw [← hx] at hsp hsucc
      repeat ((conv => whnf); first | (refine And.intro (by first | omega | exact Nat.le_of_ble_eq_true rfl | (dsimp only [inK]; omega) | (exact ⟨rfl, rfl, rfl, Nat.le_of_ble_eq_true rfl, by dsimp only; omega, by exact Nat.le_of_ble_eq_true rfl, by omega, Nat.le_of_ble_eq_true rfl⟩) | exact Eq.refl true) ?_) | refine Exists.intro _ (And.intro rfl ?_) | refine br_t (by omega) ?_ | refine fun (K' : K3) hK' => ?_ | (refine hK' _ _ _ ?_; clear hK' K') | refine draw_kill [7] tok mixed (by decide +kernel) ?_ | (refine HD_mk (fun _ h => CallK.val (R := []) hsp (by kernel_rfl) rfl (by simp [V.wf, A.wf, C.wf]) ⟨roE_ints (l := 0) rfl (by omega) rfl (.inl rfl), ⟨by show 2 < 4; omega, by simp [C.wf], _, _, rfl, .inl rfl, rfl⟩, ⟨by show 3 < 4; omega, by simp [C.wf], _, _, rfl, .inl rfl, rfl⟩, trivial⟩ rfl rfl trivial h) ?_) | refine And.intro (And.intro rfl (chk_rowA _ _ _ _ _)) ?_ | refine And.intro (And.intro rfl rfl) ?_)
      refine ⟨k + 1, [(7, some 9)], by omega, by omega, ?_⟩
      refine ⟨?_, ?_, rfl, rfl, Nat.le_of_ble_eq_true rfl⟩
      · repeat (first | exact trivial | refine And.intro (covS_syn (by first | rfl | (refine congrArg some (congrArg V.i ?_); omega)) rfl (by first | exact trivial | exact Nat.le_of_ble_eq_true rfl | exact fn_wf3 rfl)) ?_)
      · repeat (first | exact trivial | refine And.intro (covE_mp rfl (Nat.le_of_ble_eq_true rfl) rfl rfl) ?_ | refine And.intro (covE_some rfl (Nat.le_of_ble_eq_true rfl) (by first | exact wf_ints _ _ | simp [C.wf]) rfl (by first | exact (ren_ints _ _).trans (congrArg some (by rw [hsucc]; rfl)) | exact ren_ints _ _ | rfl)) ?_)
    · have hkn : k = cs.length := by omega
      subst hkn
      repeat ((conv => whnf); first | (refine And.intro (by first | omega | exact Nat.le_of_ble_eq_true rfl) ?_) | refine Exists.intro _ (And.intro rfl ?_) | refine br_f (by omega) ?_ | refine fun (K' : K3) hK' => ?_ | (refine hK' _ _ _ ?_; clear hK' K'))
      exact ⟨7, by rw [chgL_len]; rfl, rfl⟩
end Go.Proofs.Ytbhpnhcdjmcaoaa

/- Boom: Dry, Turned, Strong. -/
namespace Go.Proofs.Ytbhpnhcdjmcaoaa
open Go.RowKit
set_option linter.unusedVariables false
set_option linter.unusedSimpArgs false
section
variable {P : Program} {n0 nx nac : Nat} {f : FuncId} {vs vs' : List V} {Lc L : List E} {R : Rn} {K : V → List E → Nat → Prop}
theorem CallK.chg {W H : Int} {l : List Int} (spec : Spec P f vs Lc nac (fun v L' _ => chgR W H l v L')) (hok : callB P f = true)
    (hv : renVs R vs = some vs') (hvw : ∀ v ∈ vs, v.wf nac) (hL : roL R nac L Lc) (hLc : injB [] Lc = true)
    (hK : K (V.agg [C.i W, C.i H, .sl nx l.length]) [⟨nx, .vec 3 1, l.map C.i⟩] (nx + 1)) : CallK P n0 f vs' L nx K := by
  refine CallK.mk' hok spec hv hvw hL hLc ?_
  rintro v L' nx' hw ⟨lab, rfl, hf⟩
  refine ⟨V.agg [C.i W, C.i H, .sl nx l.length], [⟨nx, .vec 3 1, l.map C.i⟩], nx + 1, [(nx, some lab)], ⟨Nat.le_succ _, ?_, ?_, ⟨covE_some (renL_one _ _) (Nat.lt_succ_self nx) (wf_ints _ _) hf (ren_ints _ _), trivial⟩, rfl, ?_⟩, hK⟩
  · simp [V.ren, A.ren, C.ren, renL_one, C.i, seqO]
  · simp [V.chk, A.chk, C.chk, inLab_one, C.i]
  · simp only [List.all_cons, List.all_nil, Bool.and_true, inLab_one, Kd.isRo, Bool.not_false, Bool.true_and]
    exact chk_ints _ _
/-- A chart and an error. -/
def chrE (o : Option (List Int)) (W H Er : Int) (v : V) (L' : List E) : Prop := match o with
  | none => v = V.tup [A.agg [C.i 0, C.i 0, .nil], A.c (C.i Er)]
  | some l => ∃ lab, v = V.tup [A.agg [C.i W, C.i H, .sl lab l.length], A.c (C.i 0)] ∧ find L' lab = some ⟨lab, .vec 3 1, l.map C.i⟩
theorem CallK.chN {o : Option (List Int)} {W H Er : Int} (ho : o = none) (spec : Spec P f vs Lc nac (fun v L' _ => chrE o W H Er v L')) (hok : callB P f = true)
    (hv : renVs R vs = some vs') (hvw : ∀ v ∈ vs, v.wf nac) (hL : roL R nac L Lc) (hLc : injB [] Lc = true)
    (hK : K (V.tup [A.agg [C.i 0, C.i 0, .nil], A.c (C.i Er)]) [] nx) : CallK P n0 f vs' L nx K := by
  refine CallK.mk' hok spec hv hvw hL hLc ?_
  intro v L' nx' hw hq
  subst ho
  have hq : v = V.tup [A.agg [C.i 0, C.i 0, .nil], A.c (C.i Er)] := hq
  subst hq
  exact ⟨V.tup [A.agg [C.i 0, C.i 0, .nil], A.c (C.i Er)], [], nx, [], ⟨Nat.le_refl _, rfl, rfl, trivial, rfl, rfl⟩, hK⟩
theorem CallK.chS {o : Option (List Int)} {W H Er : Int} {l : List Int} (ho : o = some l) (spec : Spec P f vs Lc nac (fun v L' _ => chrE o W H Er v L')) (hok : callB P f = true)
    (hv : renVs R vs = some vs') (hvw : ∀ v ∈ vs, v.wf nac) (hL : roL R nac L Lc) (hLc : injB [] Lc = true)
    (hK : K (V.tup [A.agg [C.i W, C.i H, .sl nx l.length], A.c (C.i 0)]) [⟨nx, .vec 3 1, l.map C.i⟩] (nx + 1)) : CallK P n0 f vs' L nx K := by
  refine CallK.mk' hok spec hv hvw hL hLc ?_
  intro v L' nx' hw hq
  subst ho
  obtain ⟨lab, rfl, hf⟩ := hq
  refine ⟨V.tup [A.agg [C.i W, C.i H, .sl nx l.length], A.c (C.i 0)], [⟨nx, .vec 3 1, l.map C.i⟩], nx + 1, [(nx, some lab)], ⟨Nat.le_succ _, ?_, ?_, ⟨covE_some (renL_one _ _) (Nat.lt_succ_self nx) (wf_ints _ _) hf (ren_ints _ _), trivial⟩, rfl, ?_⟩, hK⟩
  · simp [V.ren, A.ren, C.ren, renL_one, seqO, C.i]
  · simp [V.chk, A.chk, C.chk, inLab_one, C.i]
  · simp only [List.all_cons, List.all_nil, Bool.and_true, inLab_one, Kd.isRo, Bool.not_false, Bool.true_and]
    exact chk_ints _ _
end
def dryO (W H : Int) (cs : List Int) (bs : List Cell) : Option (List Int) := if okC W H cs = true ∧ okB W H cs bs = true then some (chgL cs (dryG W H cs bs)) else none
def dryE (W H : Int) (cs : List Int) (bs : List Cell) : Int := if okC W H cs = true then (if okB W H cs bs = true then 0 else 2) else 30
def turnO (W H : Int) (cs : List Int) : Option (List Int) := if okC W H cs = true then some (chgL cs (turnG W H cs)) else none
def turnE (W H : Int) (cs : List Int) : Int := if okC W H cs = true then 0 else 30
def strO (W H : Int) (cs : List Int) (most : Int) : Option (List Int) := if okC W H cs = true ∧ (0 ≤ most ∧ most ≤ 100) then some (chgL cs (strG cs most)) else none
def strE (W H : Int) (cs : List Int) (most : Int) : Int := if okC W H cs = true then (if 0 ≤ most ∧ most ≤ 100 then 0 else 2) else 30
set_option maxHeartbeats 4000000 in
theorem dry_spec (W H : Int) (cs : List Int) (bs : List Cell) (hl : cs.length ≤ 300) (hb : bs.length ≤ 300) :
    Spec Try.prog 24 [chR W H cs.length, V.c (.sl 1 bs.length)] [⟨0, .ro 0, cs.map C.i⟩, ⟨1, .ro 0, cellC bs⟩] 2 (fun v L' _ => chrE (dryO W H cs bs) W H (dryE W H cs bs) v L') := by
  refine Spec.of tok Try.func24 rfl rfl rfl fun n0 cx => vc_ok tok ?_
  cases hv : okC W H cs with
  | false =>
    have r1 : dryO W H cs bs = none := by unfold dryO; rw [hv]; rfl
    have r2 : dryE W H cs bs = 30 := by unfold dryE; rw [hv]; rfl
    rw [r1, r2]
    repeat ((conv => whnf); first | (refine And.intro (by first | omega | exact Nat.le_of_ble_eq_true rfl) ?_) | refine Exists.intro _ (And.intro rfl ?_) | refine br_t (by omega) ?_ | refine fun (K' : K3) hK' => ?_ | (refine hK' _ _ _ ?_; clear hK' K') | refine CallK.newNo (a := 0) (bs := bs) (R := []) 30 hl hb (.inl ⟨hv, rfl⟩) rfl rfl ⟨roE_ints (l := 0) rfl (by omega) rfl (.inl rfl), roE_cells (l := 1) rfl (by omega) rfl (.inl rfl), trivial⟩ ?_ | refine CallK.m ?_)
    rfl
  | true =>
    cases hB : okB W H cs bs with
    | false =>
      have r1 : dryO W H cs bs = none := by unfold dryO; rw [hv, hB]; rfl
      have r2 : dryE W H cs bs = 2 := by unfold dryE; rw [hv, hB]; rfl
      rw [r1, r2]
      repeat ((conv => whnf); first | (refine And.intro (by first | omega | exact Nat.le_of_ble_eq_true rfl) ?_) | refine Exists.intro _ (And.intro rfl ?_) | refine br_t (by omega) ?_ | refine fun (K' : K3) hK' => ?_ | (refine hK' _ _ _ ?_; clear hK' K') | refine CallK.newNo (a := 0) (bs := bs) (R := []) 2 hl hb (.inr ⟨hv, hB, rfl⟩) rfl rfl ⟨roE_ints (l := 0) rfl (by omega) rfl (.inl rfl), roE_cells (l := 1) rfl (by omega) rfl (.inl rfl), trivial⟩ ?_ | refine CallK.m ?_)
      rfl
    | true =>
      have r1 : dryO W H cs bs = some (chgL cs (dryG W H cs bs)) := by unfold dryO; rw [hv, hB]; rfl
      have hch := changed_dry W H cs bs hl
      rw [r1]
      repeat ((conv => whnf); first | (refine And.intro (by first | omega | exact Nat.le_of_ble_eq_true rfl) ?_) | refine Exists.intro _ (And.intro rfl ?_) | refine br_f (by omega) ?_ | refine fun (K' : K3) hK' => ?_ | (refine hK' _ _ _ ?_; clear hK' K') | refine CallK.newOk (a := 0) (bs := bs) (R := []) hl hb hv hB rfl rfl (by omega) ⟨roE_ints (l := 0) rfl (by omega) rfl (.inl rfl), roE_cells (l := 1) rfl (by omega) rfl (.inl rfl), trivial⟩ ?_ | (refine CallK.chg (R := [(1, some 4), (3, some 5)]) hch (by kernel_rfl) rfl (by intro v hv; simp only [List.mem_cons, List.not_mem_nil, or_false] at hv; rcases hv with rfl | rfl; simp [V.wf, A.wf, C.wf]; exact fn_wf3 rfl) ⟨roE_ints (l := 0) rfl (by omega) rfl (.inl rfl), ⟨by show 1 < 4; omega, rfl, _, rfl⟩, ⟨by show 2 < 4; omega, by simp [C.wf], _, _, rfl, .inl rfl, rfl⟩, ⟨by show 3 < 4; omega, by simp [C.wf], _, _, rfl, .inl rfl, rfl⟩, trivial⟩ rfl ?_) | refine CallK.m ?_)
      rfl
set_option maxHeartbeats 4000000 in
theorem turned_spec (W H : Int) (cs : List Int) (hl : cs.length ≤ 300) :
    Spec Try.prog 27 [chR W H cs.length] [⟨0, .ro 0, cs.map C.i⟩] 1 (fun v L' _ => chrE (turnO W H cs) W H (turnE W H cs) v L') := by
  refine Spec.of tok Try.func27 rfl rfl rfl fun n0 cx => vc_ok tok ?_
  cases hv : okC W H cs with
  | false =>
    have r1 : turnO W H cs = none := by unfold turnO; rw [hv]; rfl
    have r2 : turnE W H cs = 30 := by unfold turnE; rw [hv]; rfl
    rw [r1, r2]
    repeat ((conv => whnf); first | (refine And.intro (by first | omega | exact Nat.le_of_ble_eq_true rfl) ?_) | refine Exists.intro _ (And.intro rfl ?_) | refine br_t (by omega) ?_ | refine fun (K' : K3) hK' => ?_ | (refine hK' _ _ _ ?_; clear hK' K') | refine CallK.newNo (a := 0) (bs := []) (R := [(1, none)]) 30 hl (by simp) (.inl ⟨hv, rfl⟩) rfl rfl (roNil rfl) ?_ | refine CallK.m ?_)
    rfl
  | true =>
    have r1 : turnO W H cs = some (chgL cs (turnG W H cs)) := by unfold turnO; rw [hv]; rfl
    have hch := changed_turn W H cs hl (okC_iff.1 hv)
    rw [r1]
    repeat ((conv => whnf); first | (refine And.intro (by first | omega | exact Nat.le_of_ble_eq_true rfl) ?_) | refine Exists.intro _ (And.intro rfl ?_) | refine br_f (by omega) ?_ | refine fun (K' : K3) hK' => ?_ | (refine hK' _ _ _ ?_; clear hK' K') | refine CallK.newOk (a := 0) (bs := []) (R := [(1, none)]) hl (by simp) hv (okB_nil _ _ _) rfl rfl (by omega) (roNil rfl) ?_ | (refine CallK.chg (R := [(1, some 3), (2, some 1)]) hch (by kernel_rfl) rfl (by intro v hv; simp only [List.mem_cons, List.not_mem_nil, or_false] at hv; rcases hv with rfl | rfl; simp [V.wf, A.wf, C.wf]; exact fn_wf3 rfl) ⟨roE_ints (l := 0) rfl (by omega) rfl (.inl rfl), ⟨by show 2 < 4; omega, by simp [C.wf], _, _, rfl, .inl rfl, rfl⟩, trivial⟩ rfl ?_) | refine CallK.m ?_)
    rfl
set_option maxHeartbeats 4000000 in
theorem strong_spec (W H : Int) (cs : List Int) (most : Int) (hl : cs.length ≤ 300) :
    Spec Try.prog 29 [chR W H cs.length, V.i most] [⟨0, .ro 0, cs.map C.i⟩] 1 (fun v L' _ => chrE (strO W H cs most) W H (strE W H cs most) v L') := by
  have hbt := between_spec 0 most 100
  refine Spec.of tok Try.func29 rfl rfl rfl fun n0 cx => vc_ok tok ?_
  cases hv : okC W H cs with
  | false =>
    have r1 : strO W H cs most = none := by unfold strO; rw [hv]; rfl
    have r2 : strE W H cs most = 30 := by unfold strE; rw [hv]; rfl
    rw [r1, r2]
    repeat ((conv => whnf); first | (refine And.intro (by first | omega | exact Nat.le_of_ble_eq_true rfl) ?_) | refine Exists.intro _ (And.intro rfl ?_) | refine br_t (by omega) ?_ | refine fun (K' : K3) hK' => ?_ | (refine hK' _ _ _ ?_; clear hK' K') | refine CallK.newNo (a := 0) (bs := []) (R := [(1, none)]) 30 hl (by simp) (.inl ⟨hv, rfl⟩) rfl rfl (roNil rfl) ?_ | refine CallK.m ?_)
    rfl
  | true =>
    by_cases hm : 0 ≤ most ∧ most ≤ 100
    · have r1 : strO W H cs most = some (chgL cs (strG cs most)) := by unfold strO; rw [hv, if_pos ⟨rfl, hm⟩]
      have hch := changed_str W H cs most hl
      rw [r1]
      repeat ((conv => whnf); first | (refine And.intro (by first | omega | exact Nat.le_of_ble_eq_true rfl) ?_) | refine Exists.intro _ (And.intro rfl ?_) | refine br_f (by omega) ?_ | refine fun (K' : K3) hK' => ?_ | (refine hK' _ _ _ ?_; clear hK' K') | refine CallK.newOk (a := 0) (bs := []) (R := [(1, none)]) hl (by simp) hv (okB_nil _ _ _) rfl rfl (by omega) (roNil rfl) ?_ | refine CallK.val (R := []) hbt (by kernel_rfl) rfl (by simp [V.wf, A.wf, C.wf]) trivial rfl rfl trivial ?_ | refine br_bf (nd_f hm) ?_ | (refine CallK.chg (R := [(1, some 4), (2, some 1), (3, some 2)]) hch (by kernel_rfl) rfl (by intro v hv; simp only [List.mem_cons, List.not_mem_nil, or_false] at hv; rcases hv with rfl | rfl; simp [V.wf, A.wf, C.wf]; exact fn_wf3 rfl) ⟨roE_ints (l := 0) rfl (by omega) rfl (.inl rfl), ⟨by show 2 < 4; omega, by simp [C.wf], _, _, rfl, .inl rfl, rfl⟩, ⟨by show 3 < 4; omega, by simp [C.wf], _, _, rfl, .inl rfl, rfl⟩, trivial⟩ rfl ?_) | refine CallK.m ?_)
      rfl
    · have r1 : strO W H cs most = none := by unfold strO; rw [if_neg (fun h => hm h.2)]
      have r2 : strE W H cs most = 2 := by unfold strE; rw [hv, if_pos rfl, if_neg hm]
      rw [r1, r2]
      repeat ((conv => whnf); first | (refine And.intro (by first | omega | exact Nat.le_of_ble_eq_true rfl) ?_) | refine Exists.intro _ (And.intro rfl ?_) | refine br_f (by omega) ?_ | refine fun (K' : K3) hK' => ?_ | (refine hK' _ _ _ ?_; clear hK' K') | refine CallK.newOk (a := 0) (bs := []) (R := [(1, none)]) hl (by simp) hv (okB_nil _ _ _) rfl rfl (by omega) (roNil rfl) ?_ | refine CallK.val (R := []) hbt (by kernel_rfl) rfl (by simp [V.wf, A.wf, C.wf]) trivial rfl rfl trivial ?_ | refine br_bt (nd_t hm) ?_ | refine CallK.m ?_)
      rfl
end Go.Proofs.Ytbhpnhcdjmcaoaa

/- Boom, the reference: booms; Dry, Turned, Strong; charts that are the same. -/
namespace Go.Proofs.Ytbhpnhcdjmcaoaa
open Go.RowKit
set_option linter.unusedVariables false
set_option linter.unusedSimpArgs false
theorem idx_on3 {W H : Int} {p : Cell} (h : idxC W H p ≥ 0) (hW : 0 < W) : onB W H p.1 p.2 = true := by
  have := idxI_lt hW h
  simp only [onB, Bool.and_eq_true, decide_eq_true_eq]; omega
theorem cmp_ge (a b : Cell) : cmpC a b ≥ 0 ↔ (b.2 < a.2 ∨ (b.2 = a.2 ∧ b.1 ≤ a.1)) := by
  unfold cmpC orI cmpI
  by_cases h1 : a.2 < b.2
  · simp [h1]; omega
  · by_cases h2 : a.2 > b.2
    · simp [h1, h2]
    · have h3 : a.2 = b.2 := by omega
      simp only [h3]
      by_cases h4 : a.1 < b.1
      · simp [h4]
        try omega
      · by_cases h5 : a.1 > b.1
        · simp [h4, h5]; omega
        · simp [h4, h5]; omega
set_option maxRecDepth 10000 in
set_option maxHeartbeats 8000000 in
theorem areBooms_spec (W H : Int) (cs : List Int) (bs : List Cell) (hok : CO W H cs) (hb : bs.length ≤ 300) :
    Spec Try.prog 44 [chR W H cs.length, V.c (.sl 1 bs.length)] [⟨0, .ro 0, cs.map C.i⟩, ⟨1, .ro 0, cellC bs⟩] 2 (Is (V.c (.bool (okB W H cs bs)))) := by
  have hlm : (cs.map C.i).length = cs.length := by simp
  have hcl := cellC_len bs
  have hW := hok.w
  have hH := hok.h
  have hcn := hok.len
  have hn100 : W * H ≤ 100 := by have := Int.mul_le_mul hW.2 hH.2 (by omega) (by omega : (0:Int) ≤ 10); omega
  refine Spec.of tok Try.func44 rfl rfl rfl fun n0 cx => vc_ok tok ?_
  repeat ((conv => whnf); first | refine fun (K' : K3) hK' => ?_ | (refine hK' _ _ _ ?_; clear hK' K'))
  refine Tri.loop (γ := Nat) (fun k => k ≤ bs.length ∧ okBk W H cs bs k = true ∧ (0 < k → onB W H (bs.getD (k - 1) (0, 0)).1 (bs.getD (k - 1) (0, 0)).2 = true)) (fun k => [(1, V.c (.sl 1 bs.length)), (2, V.c (.ptr 2 0)), (7, V.c (.sl 1 bs.length)), (8, V.i bs.length), (9, V.i (k : Nat))])
    (fun k => [⟨2, .own 24, [C.i W, C.i H, .sl 0 cs.length]⟩, ⟨1, .ro 0, cellC bs⟩, ⟨0, .ro 0, cs.map C.i⟩]) 3 (fun k => bs.length - k) 0 (R0 := []) ?_ ?_ ?_
  · exact ⟨by omega, rfl, by omega⟩
  · skip
    refine ⟨?_, ?_, rfl, rfl, by exact Nat.le_of_ble_eq_true rfl⟩
    · repeat (first | exact trivial | (refine And.intro (covS_syn (by rfl) rfl (by first | exact trivial | exact Nat.le_of_ble_eq_true rfl)) ?_))
    · repeat (first | exact trivial | (refine And.intro (covE_id (Nat.le_of_ble_eq_true rfl) (by first | exact wf_ints _ _ | first | exact wf_cells _ _ | exact wf_zc _ | simp [C.wf]) rfl (by rfl)) ?_))
  · rintro k ⟨hk, hokk, hprev⟩
    refine vc_ok tok ?_
    by_cases hlt : k < bs.length
    · have hbad : badK W H cs bs k = (decide (idxC W H (bs.getD k (0, 0)) < 0) || (decide (cs.getD (idxC W H (bs.getD k (0, 0))).toNat 0 ≤ 0) || (decide ((k : Int) > 0) && decide (cmpC (bs.getD (k - 1) (0, 0)) (bs.getD k (0, 0)) ≥ 0)))) := rfl
      have hld := cellT (l := bs) (k := k) rfl hlt
      have hno := fun h => okBk_false (W := W) (H := H) (cs := cs) hlt h
      have hon := on_spec W H cs.length (bs.getD k (0, 0)).1 (bs.getD k (0, 0)).2
      have hne : (k + 1 - 1 : Nat) = k := by omega
      obtain ⟨p, hp⟩ : ∃ p, p = bs.getD k (0, 0) := ⟨_, rfl⟩
      rw [← hp] at hbad hld hon
      cases ho : onB W H p.1 p.2 with
      | false =>
        have hlt0 : idxC W H p < 0 := by have := idxI_off ho; unfold idxC; omega
        have hr := hno (by rw [hbad, dd_t hlt0]; rfl)
        repeat ((conv => whnf); first | (refine And.intro (by first | omega | exact Nat.le_of_ble_eq_true rfl | (dsimp only [inK]; omega)) ?_) | with_reducible refine ld (hld) ?_ | refine Exists.intro _ (And.intro rfl ?_) | refine br_t (by omega) ?_ | refine fun (K' : K3) hK' => ?_ | (refine hK' _ _ _ ?_; clear hK' K') | refine draw_auto tok mixed (by kernel_rfl) ?_ | refine HD_mk (fun _ h => CallK.val (R := []) hon (by kernel_rfl) rfl (by simp [V.wf, A.wf, C.wf]) trivial rfl rfl trivial h) ?_ | refine bs_bt (congrArg Bool.not ho) ?_)
        intro ρ; rw [hr]; rfl
      | true =>
        have hpo := onB_t ho
        obtain ⟨q1, q2⟩ := idxI_on ho
        have hil := (idxI_lt (by omega) q2).1
        have hix := rindex_spec W H cs.length p.1 p.2 (by omega) (by omega) (by omega)
        obtain ⟨i, hi⟩ : ∃ i : Nat, (i : Int) = p.2 * W + p.1 := ⟨(p.2 * W + p.1).toNat, by omega⟩
        have hie : idxC W H p = i := by unfold idxC; omega
        rw [← hi] at hix
        rw [hie, dd_f (show ¬ (i : Int) < 0 by omega), Bool.false_or, Int.toNat_natCast] at hbad
        have hldc := intL (l := cs) (k := i) (by unfold idxC at hie; omega)
        have hic : i < cs.length := by unfold idxC at hie; omega
        obtain ⟨ci, hci⟩ : ∃ ci, ci = cs.getD i 0 := ⟨_, rfl⟩
        rw [← hci] at hldc hbad
        by_cases g1 : ci ≤ 0
        · have hr := hno (by rw [hbad, dd_t g1]; rfl)
          repeat ((conv => whnf); first | (refine And.intro (by first | omega | exact Nat.le_of_ble_eq_true rfl | (dsimp only [inK]; omega)) ?_) | with_reducible refine ld (hld) ?_ | with_reducible refine ld (hldc) ?_ | refine Exists.intro _ (And.intro rfl ?_) | refine br_t (by omega) ?_ | refine bs_t (by omega) ?_ | refine fun (K' : K3) hK' => ?_ | (refine hK' _ _ _ ?_; clear hK' K') | refine draw_auto tok mixed (by kernel_rfl) ?_ | refine HD_mk (fun _ h => CallK.val (R := []) hon (by kernel_rfl) rfl (by simp [V.wf, A.wf, C.wf]) trivial rfl rfl trivial h) ?_ | refine bs_bf (congrArg Bool.not ho) ?_ | refine HD_mk (fun _ h => CallK.val (R := []) hix (by kernel_rfl) rfl (by simp [V.wf, A.wf, C.wf]) trivial rfl rfl trivial h) ?_)
          intro ρ; rw [hr]; rfl
        · rw [dd_f g1, Bool.false_or] at hbad
          by_cases g2 : (k : Int) > 0
          · rw [dd_t g2, Bool.true_and] at hbad
            have hqo := onB_t (hprev (by omega))
            have hl0 := cellL0 (l := bs) (k := k - 1) (z := (k : Int) - 1) (by omega) (by omega)
            have hl1 := cellL1 (l := bs) (k := k - 1) (z := (k : Int) - 1) (by omega) (by omega)
            have hge := cmp_ge (bs.getD (k - 1) (0, 0)) p
            obtain ⟨q, hq⟩ : ∃ q, q = bs.getD (k - 1) (0, 0) := ⟨_, rfl⟩
            rw [← hq] at hbad hl0 hl1 hge hqo
            by_cases g3 : p.2 < q.2
            · have hr := hno (by rw [hbad, dd_t (hge.2 (.inl g3))])
              repeat ((conv => whnf); first | (refine And.intro (by first | omega | exact Nat.le_of_ble_eq_true rfl | (dsimp only [inK]; omega)) ?_) | with_reducible refine ld (hld) ?_ | with_reducible refine ld (hldc) ?_ | with_reducible refine ld (hl1) ?_ | refine Exists.intro _ (And.intro rfl ?_) | refine br_t (by omega) ?_ | refine bs_t (by omega) ?_ | refine bs_f (by omega) ?_ | refine fun (K' : K3) hK' => ?_ | (refine hK' _ _ _ ?_; clear hK' K') | refine draw_auto tok mixed (by kernel_rfl) ?_ | refine HD_mk (fun _ h => CallK.val (R := []) hon (by kernel_rfl) rfl (by simp [V.wf, A.wf, C.wf]) trivial rfl rfl trivial h) ?_ | refine bs_bf (congrArg Bool.not ho) ?_ | refine HD_mk (fun _ h => CallK.val (R := []) hix (by kernel_rfl) rfl (by simp [V.wf, A.wf, C.wf]) trivial rfl rfl trivial h) ?_)
              intro ρ; rw [hr]; rfl
            · by_cases g4 : p.2 = q.2
              · by_cases g5 : p.1 ≤ q.1
                · have hr := hno (by rw [hbad, dd_t (hge.2 (.inr ⟨g4, g5⟩))])
                  repeat ((conv => whnf); first | (refine And.intro (by first | omega | exact Nat.le_of_ble_eq_true rfl | (dsimp only [inK]; omega)) ?_) | with_reducible refine ld (hld) ?_ | with_reducible refine ld (hldc) ?_ | with_reducible refine ld (hl0) ?_ | with_reducible refine ld (hl1) ?_ | refine Exists.intro _ (And.intro rfl ?_) | refine br_t (by omega) ?_ | refine bs_f (by omega) ?_ | refine fun (K' : K3) hK' => ?_ | (refine hK' _ _ _ ?_; clear hK' K') | refine draw_auto tok mixed (by kernel_rfl) ?_ | refine HD_mk (fun _ h => CallK.val (R := []) hon (by kernel_rfl) rfl (by simp [V.wf, A.wf, C.wf]) trivial rfl rfl trivial h) ?_ | refine bs_bf (congrArg Bool.not ho) ?_ | refine HD_mk (fun _ h => CallK.val (R := []) hix (by kernel_rfl) rfl (by simp [V.wf, A.wf, C.wf]) trivial rfl rfl trivial h) ?_)
                  intro ρ; rw [hr]; rfl
                · have hgo : okBk W H cs bs (k + 1) = true := by rw [okBk_succ, hokk, hbad, dd_f (fun h => by have := hge.1 h; omega)]; rfl
                  repeat ((conv => whnf); first | (refine And.intro (by first | omega | exact Nat.le_of_ble_eq_true rfl | (dsimp only [inK]; omega)) ?_) | with_reducible refine ld (hld) ?_ | with_reducible refine ld (hldc) ?_ | with_reducible refine ld (hl0) ?_ | with_reducible refine ld (hl1) ?_ | refine Exists.intro _ (And.intro rfl ?_) | refine br_t (by omega) ?_ | refine br_f (by omega) ?_ | refine bs_f (by omega) ?_ | refine fun (K' : K3) hK' => ?_ | (refine hK' _ _ _ ?_; clear hK' K') | refine draw_auto tok mixed (by kernel_rfl) ?_ | refine HD_mk (fun _ h => CallK.val (R := []) hon (by kernel_rfl) rfl (by simp [V.wf, A.wf, C.wf]) trivial rfl rfl trivial h) ?_ | refine bs_bf (congrArg Bool.not ho) ?_ | refine HD_mk (fun _ h => CallK.val (R := []) hix (by kernel_rfl) rfl (by simp [V.wf, A.wf, C.wf]) trivial rfl rfl trivial h) ?_)
                  refine ⟨k + 1, [], ⟨by omega, hgo, fun _ => by rw [hne, ← hp]; exact ho⟩, by omega, ?_⟩
                  refine ⟨?_, ?_, rfl, rfl, by exact Nat.le_of_ble_eq_true rfl⟩
                  · repeat (first | exact trivial | (refine And.intro (covS_syn (by rfl) rfl (by first | exact trivial | exact Nat.le_of_ble_eq_true rfl)) ?_))
                  · repeat (first | exact trivial | (refine And.intro (covE_id (Nat.le_of_ble_eq_true rfl) (by first | exact wf_ints _ _ | first | exact wf_cells _ _ | exact wf_zc _ | simp [C.wf]) rfl (by rfl)) ?_))
              · have hgo : okBk W H cs bs (k + 1) = true := by rw [okBk_succ, hokk, hbad, dd_f (fun h => by have := hge.1 h; omega)]; rfl
                repeat ((conv => whnf); first | (refine And.intro (by first | omega | exact Nat.le_of_ble_eq_true rfl | (dsimp only [inK]; omega)) ?_) | with_reducible refine ld (hld) ?_ | with_reducible refine ld (hldc) ?_ | with_reducible refine ld (hl1) ?_ | refine Exists.intro _ (And.intro rfl ?_) | refine br_t (by omega) ?_ | refine br_f (by omega) ?_ | refine bs_f (by omega) ?_ | refine fun (K' : K3) hK' => ?_ | (refine hK' _ _ _ ?_; clear hK' K') | refine draw_auto tok mixed (by kernel_rfl) ?_ | refine HD_mk (fun _ h => CallK.val (R := []) hon (by kernel_rfl) rfl (by simp [V.wf, A.wf, C.wf]) trivial rfl rfl trivial h) ?_ | refine bs_bf (congrArg Bool.not ho) ?_ | refine HD_mk (fun _ h => CallK.val (R := []) hix (by kernel_rfl) rfl (by simp [V.wf, A.wf, C.wf]) trivial rfl rfl trivial h) ?_)
                refine ⟨k + 1, [], ⟨by omega, hgo, fun _ => by rw [hne, ← hp]; exact ho⟩, by omega, ?_⟩
                refine ⟨?_, ?_, rfl, rfl, by exact Nat.le_of_ble_eq_true rfl⟩
                · repeat (first | exact trivial | (refine And.intro (covS_syn (by rfl) rfl (by first | exact trivial | exact Nat.le_of_ble_eq_true rfl)) ?_))
                · repeat (first | exact trivial | (refine And.intro (covE_id (Nat.le_of_ble_eq_true rfl) (by first | exact wf_ints _ _ | first | exact wf_cells _ _ | exact wf_zc _ | simp [C.wf]) rfl (by rfl)) ?_))
          · have hgo : okBk W H cs bs (k + 1) = true := by rw [okBk_succ, hokk, hbad, dd_f g2]; rfl
            repeat ((conv => whnf); first | (refine And.intro (by first | omega | exact Nat.le_of_ble_eq_true rfl | (dsimp only [inK]; omega)) ?_) | with_reducible refine ld (hld) ?_ | with_reducible refine ld (hldc) ?_ | refine Exists.intro _ (And.intro rfl ?_) | refine br_t (by omega) ?_ | refine br_f (by omega) ?_ | refine bs_f (by omega) ?_ | refine fun (K' : K3) hK' => ?_ | (refine hK' _ _ _ ?_; clear hK' K') | refine draw_auto tok mixed (by kernel_rfl) ?_ | refine HD_mk (fun _ h => CallK.val (R := []) hon (by kernel_rfl) rfl (by simp [V.wf, A.wf, C.wf]) trivial rfl rfl trivial h) ?_ | refine bs_bf (congrArg Bool.not ho) ?_ | refine HD_mk (fun _ h => CallK.val (R := []) hix (by kernel_rfl) rfl (by simp [V.wf, A.wf, C.wf]) trivial rfl rfl trivial h) ?_)
            refine ⟨k + 1, [], ⟨by omega, hgo, fun _ => by rw [hne, ← hp]; exact ho⟩, by omega, ?_⟩
            refine ⟨?_, ?_, rfl, rfl, by exact Nat.le_of_ble_eq_true rfl⟩
            · repeat (first | exact trivial | (refine And.intro (covS_syn (by rfl) rfl (by first | exact trivial | exact Nat.le_of_ble_eq_true rfl)) ?_))
            · repeat (first | exact trivial | (refine And.intro (covE_id (Nat.le_of_ble_eq_true rfl) (by first | exact wf_ints _ _ | first | exact wf_cells _ _ | exact wf_zc _ | simp [C.wf]) rfl (by rfl)) ?_))
    · have hkl : k = bs.length := by omega
      subst hkl
      have hr : okB W H cs bs = true := hokk
      repeat ((conv => whnf); first | refine br_f (by omega) ?_ | refine fun (K' : K3) hK' => ?_ | (refine hK' _ _ _ ?_; clear hK' K'))
      intro ρ; rw [hr]; rfl
def askE (W H : Int) (cs : List Int) (bs : List Cell) : Int := if okC W H cs = true then (if okB W H cs bs = true then 0 else 2) else 30
set_option maxHeartbeats 4000000 in
theorem asked_spec (W H : Int) (cs : List Int) (bs : List Cell) (hl : cs.length ≤ 300) (hb : bs.length ≤ 300) :
    Spec Try.prog 67 [chR W H cs.length, V.c (.sl 1 bs.length)] [⟨0, .ro 0, cs.map C.i⟩, ⟨1, .ro 0, cellC bs⟩] 2 (Is (V.i (askE W H cs bs))) := by
  have hva := rvalid_spec W H cs hl
  refine Spec.of tok Try.func67 rfl rfl rfl fun n0 cx => vc_ok tok ?_
  cases hv : okC W H cs with
  | false =>
    have r : askE W H cs bs = 30 := by unfold askE; rw [hv]; rfl
    repeat ((conv => whnf); first | refine Exists.intro _ (And.intro rfl ?_) | refine fun (K' : K3) hK' => ?_ | (refine hK' _ _ _ ?_; clear hK' K') | refine CallK.val (R := []) hva (by kernel_rfl) rfl (by simp [V.wf, A.wf, C.wf]) ⟨roE_ints (l := 0) rfl (by omega) rfl (.inl rfl), trivial⟩ rfl rfl trivial ?_ | refine br_bt (congrArg Bool.not hv) ?_ | refine CallK.m ?_)
    intro ρ; rw [r]; rfl
  | true =>
    have har := areBooms_spec W H cs bs (okC_iff.1 hv) hb
    cases hB : okB W H cs bs with
    | false =>
      have r : askE W H cs bs = 2 := by unfold askE; rw [hv, hB]; rfl
      repeat ((conv => whnf); first | refine Exists.intro _ (And.intro rfl ?_) | refine fun (K' : K3) hK' => ?_ | (refine hK' _ _ _ ?_; clear hK' K') | refine CallK.val (R := []) hva (by kernel_rfl) rfl (by simp [V.wf, A.wf, C.wf]) ⟨roE_ints (l := 0) rfl (by omega) rfl (.inl rfl), trivial⟩ rfl rfl trivial ?_ | refine br_bf (congrArg Bool.not hv) ?_ | refine CallK.val (R := []) har (by kernel_rfl) rfl (by simp [V.wf, A.wf, C.wf]) ⟨roE_ints (l := 0) rfl (by omega) rfl (.inl rfl), roE_cells (l := 1) rfl (by omega) rfl (.inl rfl), trivial⟩ rfl rfl trivial ?_ | refine br_bt (congrArg Bool.not hB) ?_ | refine CallK.m ?_)
      intro ρ; rw [r]; rfl
    | true =>
      have r : askE W H cs bs = 0 := by unfold askE; rw [hv, hB]; rfl
      repeat ((conv => whnf); first | refine Exists.intro _ (And.intro rfl ?_) | refine fun (K' : K3) hK' => ?_ | (refine hK' _ _ _ ?_; clear hK' K') | refine CallK.val (R := []) hva (by kernel_rfl) rfl (by simp [V.wf, A.wf, C.wf]) ⟨roE_ints (l := 0) rfl (by omega) rfl (.inl rfl), trivial⟩ rfl rfl trivial ?_ | refine br_bf (congrArg Bool.not hv) ?_ | refine CallK.val (R := []) har (by kernel_rfl) rfl (by simp [V.wf, A.wf, C.wf]) ⟨roE_ints (l := 0) rfl (by omega) rfl (.inl rfl), roE_cells (l := 1) rfl (by omega) rfl (.inl rfl), trivial⟩ rfl rfl trivial ?_ | refine br_bf (congrArg Bool.not hB) ?_ | refine CallK.m ?_)
      intro ρ; rw [r]; rfl
theorem chk_app0 (p : Nat → Bool) (l : List Int) (m lab : Nat) (kd : Kd) : (([⟨lab, kd, repC 0 [C.i 0] ++ (l.map C.i).take m⟩] : List E).all fun e => e.cs.all (C.chk p)) = true := by
  simp only [List.all_cons, List.all_nil, Bool.and_true]
  exact List.all_eq_true.2 fun c hc => by
    have hz : repC 0 [C.i 0] = [] := rfl
    rw [hz, List.nil_append] at hc
    obtain ⟨x, _, rfl⟩ := List.mem_map.1 (List.mem_of_mem_take hc); rfl
set_option maxHeartbeats 4000000 in
theorem copied_spec (W H : Int) (cs : List Int) (hl : cs.length ≤ 300) :
    Spec Try.prog 68 [chR W H cs.length] [⟨0, .ro 0, cs.map C.i⟩] 1 (fun v L' _ => chgR W H cs v L') := by
  have hlm : (cs.map C.i).length = cs.length := by simp
  refine Spec.of tok Try.func68 rfl rfl rfl fun n0 cx => vc_ok tok ?_
  repeat ((conv => whnf); first | (refine And.intro (by first | omega | exact Nat.le_of_ble_eq_true rfl | (dsimp only [inK]; omega) | (exact ⟨rfl, rfl, rfl, Nat.le_of_ble_eq_true rfl, by rfl, by dsimp only; omega, by omega, Nat.le_of_ble_eq_true rfl⟩) | exact Eq.refl true) ?_) | refine Exists.intro _ (And.intro rfl ?_) | refine fun (K' : K3) hK' => ?_ | (refine hK' _ _ _ ?_; clear hK' K') | refine draw_kill [3] tok mixed (by decide +kernel) ?_ | refine And.intro (And.intro rfl (chk_app0 _ _ _ _ _)) ?_ | refine And.intro (And.intro rfl rfl) ?_)
  have h0 : 0 + cs.length = cs.length := by omega
  conv => whnf
  refine ⟨4, ?_, ?_⟩
  · show V.agg [C.i W, C.i H, C.sl 4 (0 + cs.length)] = _
    rw [h0]
  · show some (⟨4, .vec 3 1, [] ++ (cs.map C.i).take (cs.length * 1)⟩ : E) = _
    rw [List.nil_append, Nat.mul_one, List.take_of_length_le (by rw [hlm]; omega)]
theorem setL_i2 {l : List Int} {k : Nat} {z x : Int} (hz : z = k) : setL (l.map C.i) (mulS z.toNat 1) [C.i x] = (l.set k x).map C.i := by
  subst hz
  rw [mulS_eq, Int.toNat_natCast, Nat.mul_one]
  simp [setL, List.map_set]
/-- What comes about, cell by cell. -/
def mixL (cs : List Int) (b : Int → Bool) (g : Int → Int) : List Int := (List.range cs.length).map fun i : Nat => if b (i : Int) then g (i : Int) else cs.getD i 0
theorem mixL_len (cs : List Int) (b : Int → Bool) (g : Int → Int) : (mixL cs b g).length = cs.length := by simp [mixL]
theorem mixL_get {cs : List Int} {b : Int → Bool} {g : Int → Int} {k : Nat} (hk : k < cs.length) : (mixL cs b g).getD k 0 = if b (k : Int) then g (k : Int) else cs.getD k 0 := by
  unfold mixL
  rw [List.getD_eq_getElem?_getD, List.getElem?_map, List.getElem?_range hk]; rfl
theorem mixL_no (cs : List Int) (g : Int → Int) : mixL cs (fun _ => false) g = cs := by
  apply List.ext_getElem
  · simp [mixL]
  · intro i h1 h2
    simp only [mixL, List.getElem_map, List.getElem_range]
    simp [List.getD_eq_getElem?_getD, h2]
theorem mixL_put {cs : List Int} {b : Int → Bool} {g : Int → Int} {k : Nat} (hk : k < cs.length) : (mixL cs b g).set k (g (k : Int)) = mixL cs (fun i => b i || decide (i = (k : Int))) g := by
  apply List.ext_getElem
  · simp [mixL]
  · intro j h1 h2
    rw [List.getElem_set]
    simp only [mixL, List.length_map, List.length_range, List.length_set] at h1 h2
    simp only [mixL, List.getElem_map, List.getElem_range]
    by_cases hj : k = j
    · subst hj; simp
    · have : ¬ ((j : Int) = k) := by omega
      rw [if_neg hj, dd_f this, Bool.or_false]
theorem mix0 (cs : List Int) (g : Int → Int) : mixL cs (fun i => decide (i < ((0 : Nat) : Int))) g = cs := by
  refine Eq.trans ?_ (mixL_no cs g)
  unfold mixL
  refine List.map_congr_left fun i hi => ?_
  show (if decide ((i : Int) < ((0 : Nat) : Int)) = true then g (i : Int) else cs.getD i 0) = _
  rw [dd_f (by omega)]
theorem mixE (cs : List Int) (g : Int → Int) : mixL cs (fun i => decide (i < ((cs.length : Nat) : Int))) g = chgL cs g := by
  unfold mixL chgL
  refine List.map_congr_left fun i hi => ?_
  have := List.mem_range.1 hi
  show (if decide ((i : Int) < ((cs.length : Nat) : Int)) = true then g (i : Int) else cs.getD i 0) = _
  rw [dd_t (by omega)]; rfl
theorem mixS {k : Nat} : (fun i : Int => decide (i < (k : Int)) || decide (i = (k : Int))) = fun i : Int => decide (i < ((k + 1 : Nat) : Int)) := by
  funext i
  rw [← Bool.decide_or, decide_eq_decide]; omega
set_option maxHeartbeats 4000000 in
theorem rdry_spec (W H : Int) (cs : List Int) (bs : List Cell) (hl : cs.length ≤ 300) (hb : bs.length ≤ 300) :
    Spec Try.prog 25 [chR W H cs.length, V.c (.sl 1 bs.length)] [⟨0, .ro 0, cs.map C.i⟩, ⟨1, .ro 0, cellC bs⟩] 2 (fun v L' _ => chrE (dryO W H cs bs) W H (dryE W H cs bs) v L') := by
  have hlm : (cs.map C.i).length = cs.length := by simp
  have hcl := cellC_len bs
  have has := asked_spec W H cs bs hl hb
  have hae : askE W H cs bs = dryE W H cs bs := rfl
  refine Spec.of tok Try.func25 rfl rfl rfl fun n0 cx => vc_ok tok ?_
  by_cases hz : dryE W H cs bs = 0
  · have hv : okC W H cs = true := by
      cases h : okC W H cs with
      | true => rfl
      | false => unfold dryE at hz; rw [h] at hz; cases hz
    have hB : okB W H cs bs = true := by
      cases h : okB W H cs bs with
      | true => rfl
      | false => unfold dryE at hz; rw [hv, h] at hz; cases hz
    have r1 : dryO W H cs bs = some (chgL cs (dryG W H cs bs)) := by unfold dryO; rw [hv, hB]; rfl
    have hok := okC_iff.1 hv
    have hW := hok.w
    have hH := hok.h
    have hcn := hok.len
    have hn100 : W * H ≤ 100 := by have := Int.mul_le_mul hW.2 hH.2 (by omega) (by omega : (0:Int) ≤ 10); omega
    have hco := copied_spec W H cs hl
    rw [hae, hz] at has
    rw [r1]
    repeat ((conv => whnf); first | (refine And.intro (by first | omega | exact Nat.le_of_ble_eq_true rfl) ?_) | refine Exists.intro _ (And.intro rfl ?_) | refine br_f (by omega) ?_ | refine fun (K' : K3) hK' => ?_ | (refine hK' _ _ _ ?_; clear hK' K') | refine CallK.val (R := []) has (by kernel_rfl) rfl (by simp [V.wf, A.wf, C.wf]) ⟨roE_ints (l := 0) rfl (by omega) rfl (.inl rfl), roE_cells (l := 1) rfl (by omega) rfl (.inl rfl), trivial⟩ rfl rfl trivial ?_ | refine CallK.chg (R := []) hco (by kernel_rfl) rfl (by simp [V.wf, A.wf, C.wf]) ⟨roE_ints (l := 0) rfl (by omega) rfl (.inl rfl), trivial⟩ rfl ?_ | refine CallK.m ?_)
    refine Tri.loop (γ := Nat) (fun k => k ≤ bs.length) (fun k => [(2, V.c (.ptr 2 0)), (4, V.c (.ptr 3 0)), (7, V.c (.ptr 5 0)), (19, V.c (.sl 1 bs.length)), (20, V.i bs.length), (21, V.i (k : Nat))])
      (fun k => [⟨5, .own 24, [C.i W, C.i H, .sl 4 cs.length]⟩, ⟨4, .vec 3 1, (mixL cs (boomP W H bs k) (fun _ => -1)).map C.i⟩, ⟨3, .own 24, [C.i 0, C.i 0, .nil]⟩, ⟨2, .own 24, [C.i W, C.i H, .sl 0 cs.length]⟩, ⟨1, .ro 0, cellC bs⟩, ⟨0, .ro 0, cs.map C.i⟩]) 6 (fun k => bs.length - k) 0 (R0 := []) ?_ ?_ ?_
    · omega
    · skip
      refine ⟨?_, ?_, rfl, rfl, by exact Nat.le_of_ble_eq_true rfl⟩
      · repeat (first | exact trivial | (refine And.intro (covS_syn (by rfl) rfl (by first | exact trivial | exact Nat.le_of_ble_eq_true rfl)) ?_))
      · repeat (first | exact trivial | (refine And.intro (covE_id (Nat.le_of_ble_eq_true rfl) (by first | exact wf_ints _ _ | first | exact wf_cells _ _ | exact wf_zc _ | simp [C.wf]) rfl (by first | rfl | exact congrArg (List.map C.i) (mixL_no cs _).symm)) ?_))
    · intro k hk
      refine vc_ok tok ?_
      by_cases hlt : k < bs.length
      · have hld := cellT (l := bs) (k := k) rfl hlt
        have hbk : badK W H cs bs k = false := by
          have := List.all_eq_true.1 hB k (List.mem_range.2 hlt)
          simpa using this
        have ho : onB W H (bs.getD k (0, 0)).1 (bs.getD k (0, 0)).2 = true := by
          unfold badK at hbk
          rw [Bool.or_eq_false_iff, decide_eq_false_iff_not] at hbk
          exact idx_on3 (Int.not_lt.1 hbk.1) (by omega)
        have hpo := onB_t ho
        obtain ⟨q1, q2⟩ := idxI_on ho
        have hil := (idxI_lt (show 0 < W by omega) q2).1
        have hsu := boomP_succ (W := W) (H := H) hlt
        have hie : idxC W H (bs.getD k (0, 0)) = (bs.getD k (0, 0)).2 * W + (bs.getD k (0, 0)).1 := q1
        change boomP W H bs (k + 1) = (fun j => boomP W H bs k j || decide (j = idxC W H (bs.getD k (0, 0)))) at hsu
        rw [hie] at hsu
        have hix := rindex_spec W H cs.length (bs.getD k (0, 0)).1 (bs.getD k (0, 0)).2 (by omega) (by omega) (by omega)
        obtain ⟨p, hp⟩ : ∃ p, p = bs.getD k (0, 0) := ⟨_, rfl⟩
        rw [← hp] at hld hsu hix
        obtain ⟨i, hi⟩ : ∃ i : Nat, (i : Int) = p.2 * W + p.1 := ⟨(p.2 * W + p.1).toNat, by rw [hp]; omega⟩
        rw [← hi] at hsu hix
        have hin : i < cs.length := by rw [hp] at hi; omega
        have hrow : ((mixL cs (boomP W H bs k) (fun _ => -1)).map C.i).length = cs.length := by simp [mixL]
        have hcell : setL ((mixL cs (boomP W H bs k) (fun _ => -1)).map C.i) (mulS ((i : Nat) : Int).toNat 1) [C.i (-1)] = (mixL cs (boomP W H bs (k + 1)) (fun _ => -1)).map C.i := by
          rw [setL_i2 rfl, hsu, ← mixL_put hin]
        repeat ((conv => whnf); first | (refine And.intro (by first | omega | exact Nat.le_of_ble_eq_true rfl | (dsimp only [inK]; omega) | (simp only [mulS_eq]; omega)) ?_) | with_reducible refine ld (hld) ?_ | refine Exists.intro _ (And.intro rfl ?_) | refine br_t (by omega) ?_ | refine fun (K' : K3) hK' => ?_ | (refine hK' _ _ _ ?_; clear hK' K') | refine draw_auto tok mixed (by kernel_rfl) ?_ | refine HD_mk (fun _ h => CallK.val (R := []) hix (by kernel_rfl) rfl (by simp [V.wf, A.wf, C.wf]) trivial rfl rfl trivial h) ?_)
        refine ⟨k + 1, [], by omega, by omega, ?_⟩
        refine ⟨?_, ?_, rfl, rfl, by exact Nat.le_of_ble_eq_true rfl⟩
        · repeat (first | exact trivial | (refine And.intro (covS_syn (by rfl) rfl (by first | exact trivial | exact Nat.le_of_ble_eq_true rfl)) ?_))
        · repeat (first | exact trivial | (refine And.intro (covE_id (Nat.le_of_ble_eq_true rfl) (by first | exact wf_ints _ _ | first | exact wf_cells _ _ | exact wf_zc _ | simp [C.wf]) rfl (by first | rfl | exact hcell)) ?_))
      · have hkl : k = bs.length := by omega
        subst hkl
        have hfin : mixL cs (boomP W H bs bs.length) (fun _ => -1) = chgL cs (dryG W H cs bs) := by
          unfold mixL chgL dryG boomF
          refine List.map_congr_left fun i hi => ?_
          rw [Int.toNat_natCast]
        repeat ((conv => whnf); first | (refine And.intro (by first | omega | exact Nat.le_of_ble_eq_true rfl) ?_) | refine Exists.intro _ (And.intro rfl ?_) | refine br_f (by omega) ?_ | refine fun (K' : K3) hK' => ?_ | (refine hK' _ _ _ ?_; clear hK' K'))
        refine ⟨4, ?_, ?_⟩
        · rw [chgL_len]; rfl
        · exact congrArg (fun x : List Int => some (⟨4, .vec 3 1, x.map C.i⟩ : E)) hfin
  · have r1 : dryO W H cs bs = none := by
      unfold dryO
      rw [if_neg]
      rintro ⟨h1, h2⟩
      apply hz; unfold dryE; rw [h1, h2]; rfl
    rw [r1]
    obtain ⟨e, he⟩ : ∃ e, e = dryE W H cs bs := ⟨_, rfl⟩
    rw [hae, ← he] at has
    rw [← he] at hz ⊢
    repeat ((conv => whnf); first | (refine And.intro (by first | omega | exact Nat.le_of_ble_eq_true rfl) ?_) | refine Exists.intro _ (And.intro rfl ?_) | refine br_t (by omega) ?_ | refine fun (K' : K3) hK' => ?_ | (refine hK' _ _ _ ?_; clear hK' K') | refine CallK.val (R := []) has (by kernel_rfl) rfl (by simp [V.wf, A.wf, C.wf]) ⟨roE_ints (l := 0) rfl (by omega) rfl (.inl rfl), roE_cells (l := 1) rfl (by omega) rfl (.inl rfl), trivial⟩ rfl rfl trivial ?_ | refine CallK.m ?_)
    rfl
set_option maxHeartbeats 4000000 in
theorem rturned_spec (W H : Int) (cs : List Int) (hl : cs.length ≤ 300) :
    Spec Try.prog 28 [chR W H cs.length] [⟨0, .ro 0, cs.map C.i⟩] 1 (fun v L' _ => chrE (turnO W H cs) W H (turnE W H cs) v L') := by
  have hlm : (cs.map C.i).length = cs.length := by simp
  have hva := rvalid_spec W H cs hl
  refine Spec.of tok Try.func28 rfl rfl rfl fun n0 cx => vc_ok tok ?_
  cases hv : okC W H cs with
  | false =>
    have r1 : turnO W H cs = none := by unfold turnO; rw [hv]; rfl
    have r2 : turnE W H cs = 30 := by unfold turnE; rw [hv]; rfl
    rw [r1, r2]
    repeat ((conv => whnf); first | (refine And.intro (by first | omega | exact Nat.le_of_ble_eq_true rfl) ?_) | refine Exists.intro _ (And.intro rfl ?_) | refine fun (K' : K3) hK' => ?_ | (refine hK' _ _ _ ?_; clear hK' K') | refine CallK.val (R := []) hva (by kernel_rfl) rfl (by simp [V.wf, A.wf, C.wf]) ⟨roE_ints (l := 0) rfl (by omega) rfl (.inl rfl), trivial⟩ rfl rfl trivial ?_ | refine br_bt (congrArg Bool.not hv) ?_ | refine CallK.m ?_)
    rfl
  | true =>
    have r1 : turnO W H cs = some (chgL cs (turnG W H cs)) := by unfold turnO; rw [hv]; rfl
    have hok := okC_iff.1 hv
    have hW := hok.w
    have hH := hok.h
    have hcn := hok.len
    have hn100 : W * H ≤ 100 := by have := Int.mul_le_mul hW.2 hH.2 (by omega) (by omega : (0:Int) ≤ 10); omega
    have hco := copied_spec W H cs hl
    rw [r1]
    repeat ((conv => whnf); first | (refine And.intro (by first | omega | exact Nat.le_of_ble_eq_true rfl) ?_) | refine Exists.intro _ (And.intro rfl ?_) | refine fun (K' : K3) hK' => ?_ | (refine hK' _ _ _ ?_; clear hK' K') | refine CallK.val (R := []) hva (by kernel_rfl) rfl (by simp [V.wf, A.wf, C.wf]) ⟨roE_ints (l := 0) rfl (by omega) rfl (.inl rfl), trivial⟩ rfl rfl trivial ?_ | refine br_bf (congrArg Bool.not hv) ?_ | refine CallK.chg (R := []) hco (by kernel_rfl) rfl (by simp [V.wf, A.wf, C.wf]) ⟨roE_ints (l := 0) rfl (by omega) rfl (.inl rfl), trivial⟩ rfl ?_ | refine CallK.m ?_)
    refine Tri.loop (γ := Nat) (fun k => k ≤ cs.length) (fun k => [(1, V.c (.ptr 1 0)), (2, V.c (.ptr 2 0)), (4, V.c (.ptr 4 0)), (15, V.i cs.length), (16, V.i (k : Nat))])
      (fun k => [⟨4, .own 24, [C.i W, C.i H, .sl 3 cs.length]⟩, ⟨3, .vec 3 1, (mixL cs (fun i => decide (i < k)) (turnG W H cs)).map C.i⟩, ⟨2, .own 24, [C.i 0, C.i 0, .nil]⟩, ⟨1, .own 24, [C.i W, C.i H, .sl 0 cs.length]⟩, ⟨0, .ro 0, cs.map C.i⟩]) 5 (fun k => cs.length - k) 0 (R0 := []) ?_ ?_ ?_
    · omega
    · skip
      refine ⟨?_, ?_, rfl, rfl, by exact Nat.le_of_ble_eq_true rfl⟩
      · repeat (first | exact trivial | (refine And.intro (covS_syn (by rfl) rfl (by first | exact trivial | exact Nat.le_of_ble_eq_true rfl)) ?_))
      · repeat (first | exact trivial | (refine And.intro (covE_id (Nat.le_of_ble_eq_true rfl) (by first | exact wf_ints _ _ | simp [C.wf]) rfl (by first | rfl | exact congrArg (List.map C.i) (mix0 cs _).symm)) ?_))
    · intro k hk
      refine vc_ok tok ?_
      by_cases hlt : k < cs.length
      · have hat := at_spec W H cs.length (k : Int) (by omega) (by omega)
        have h1 := Int.emod_nonneg (k : Int) (show W ≠ 0 by omega)
        have h2 := Int.emod_lt_of_pos (k : Int) (show 0 < W by omega)
        have h4 : 0 ≤ (k : Int) / W := Int.ediv_nonneg (by omega) (by omega)
        have h5 : (k : Int) / W < H := Int.ediv_lt_of_lt_mul (by omega) (by rw [Int.mul_comm]; omega)
        have hb := turnI_bd (W := W) (H := H) (i := (k : Int)) (by omega) (by omega) (by omega)
        have hix := rindex_spec W H cs.length ((k : Int) % W) (H - 1 - (k : Int) / W) (by omega) (by omega) (by omega)
        obtain ⟨i, hi⟩ : ∃ i : Nat, (i : Int) = turnI W H (k : Int) := ⟨(turnI W H (k : Int)).toNat, by omega⟩
        have hix : Spec Try.prog 69 [chR W H cs.length, V.agg [C.i ((k : Int) % W), C.i (H - 1 - (k : Int) / W)]] [] 1 (Is (V.i (turnI W H (k : Int)))) := hix
        rw [← hi] at hix hb
        have hld := intL (l := cs) (k := i) (by omega)
        have hg : turnG W H cs (k : Int) = cs.getD i 0 := by unfold turnG; rw [← hi, Int.toNat_natCast]
        rw [← hg] at hld
        have hrow : ((mixL cs (fun i => decide (i < (k : Int))) (turnG W H cs)).map C.i).length = cs.length := by simp [mixL]
        have hcell : setL ((mixL cs (fun i => decide (i < (k : Int))) (turnG W H cs)).map C.i) (mulS ((k : Nat) : Int).toNat 1) [C.i (turnG W H cs (k : Int))] = (mixL cs (fun i => decide (i < ((k + 1 : Nat) : Int))) (turnG W H cs)).map C.i := by
          rw [setL_i2 rfl, mixL_put hlt, mixS]
        obtain ⟨x, hx⟩ : ∃ x, x = turnG W H cs (k : Int) := ⟨_, rfl⟩
        rw [← hx] at hld hcell
        repeat ((conv => whnf); first | (refine And.intro (by first | omega | exact Nat.le_of_ble_eq_true rfl | (dsimp only [inK]; omega) | (simp only [mulS_eq]; omega)) ?_) | with_reducible refine ld (hld) ?_ | refine Exists.intro _ (And.intro rfl ?_) | refine br_t (by omega) ?_ | refine fun (K' : K3) hK' => ?_ | (refine hK' _ _ _ ?_; clear hK' K') | refine draw_auto tok mixed (by kernel_rfl) ?_ | refine CallK.val (R := []) hat (by kernel_rfl) rfl (by simp [V.wf, A.wf, C.wf]) trivial rfl rfl (by simp [V.wf, A.wf, C.wf]) ?_ | refine HD_mk (fun _ h => CallK.val (R := []) hix (by kernel_rfl) rfl (by simp [V.wf, A.wf, C.wf]) trivial rfl rfl trivial h) ?_ | refine CallK.m ?_)
        refine ⟨k + 1, [], by omega, by omega, ?_⟩
        refine ⟨?_, ?_, rfl, rfl, by exact Nat.le_of_ble_eq_true rfl⟩
        · repeat (first | exact trivial | (refine And.intro (covS_syn (by rfl) rfl (by first | exact trivial | exact Nat.le_of_ble_eq_true rfl)) ?_))
        · repeat (first | exact trivial | (refine And.intro (covE_id (Nat.le_of_ble_eq_true rfl) (by first | exact wf_ints _ _ | simp [C.wf]) rfl (by first | rfl | exact hcell)) ?_))
      · have hkl : k = cs.length := by omega
        subst hkl
        repeat ((conv => whnf); first | (refine And.intro (by first | omega | exact Nat.le_of_ble_eq_true rfl) ?_) | refine Exists.intro _ (And.intro rfl ?_) | refine br_f (by omega) ?_ | refine fun (K' : K3) hK' => ?_ | (refine hK' _ _ _ ?_; clear hK' K'))
        refine ⟨3, ?_, ?_⟩
        · rw [chgL_len]; rfl
        · exact congrArg (fun x : List Int => some (⟨3, .vec 3 1, x.map C.i⟩ : E)) (mixE cs _)
set_option maxHeartbeats 4000000 in
theorem rstrong_spec (W H : Int) (cs : List Int) (most : Int) (hl : cs.length ≤ 300) :
    Spec Try.prog 30 [chR W H cs.length, V.i most] [⟨0, .ro 0, cs.map C.i⟩] 1 (fun v L' _ => chrE (strO W H cs most) W H (strE W H cs most) v L') := by
  have hlm : (cs.map C.i).length = cs.length := by simp
  have hva := rvalid_spec W H cs hl
  refine Spec.of tok Try.func30 rfl rfl rfl fun n0 cx => vc_ok tok ?_
  cases hv : okC W H cs with
  | false =>
    have r1 : strO W H cs most = none := by unfold strO; rw [hv]; rfl
    have r2 : strE W H cs most = 30 := by unfold strE; rw [hv]; rfl
    rw [r1, r2]
    repeat ((conv => whnf); first | (refine And.intro (by first | omega | exact Nat.le_of_ble_eq_true rfl) ?_) | refine Exists.intro _ (And.intro rfl ?_) | refine fun (K' : K3) hK' => ?_ | (refine hK' _ _ _ ?_; clear hK' K') | refine CallK.val (R := []) hva (by kernel_rfl) rfl (by simp [V.wf, A.wf, C.wf]) ⟨roE_ints (l := 0) rfl (by omega) rfl (.inl rfl), trivial⟩ rfl rfl trivial ?_ | refine br_bt (congrArg Bool.not hv) ?_ | refine CallK.m ?_)
    rfl
  | true =>
    have bad : ¬ (0 ≤ most ∧ most ≤ 100) → strO W H cs most = none ∧ strE W H cs most = 2 := fun hm =>
      ⟨by unfold strO; rw [if_neg (fun h => hm h.2)], by unfold strE; rw [hv, if_pos rfl, if_neg hm]⟩
    by_cases g1 : most < 0
    · obtain ⟨r1, r2⟩ := bad (by omega)
      rw [r1, r2]
      repeat ((conv => whnf); first | (refine And.intro (by first | omega | exact Nat.le_of_ble_eq_true rfl) ?_) | refine Exists.intro _ (And.intro rfl ?_) | refine bs_t (by omega) ?_ | refine fun (K' : K3) hK' => ?_ | (refine hK' _ _ _ ?_; clear hK' K') | refine CallK.val (R := []) hva (by kernel_rfl) rfl (by simp [V.wf, A.wf, C.wf]) ⟨roE_ints (l := 0) rfl (by omega) rfl (.inl rfl), trivial⟩ rfl rfl trivial ?_ | refine br_bf (congrArg Bool.not hv) ?_ | refine CallK.m ?_)
      rfl
    · by_cases g2 : most > 100
      · obtain ⟨r1, r2⟩ := bad (by omega)
        rw [r1, r2]
        repeat ((conv => whnf); first | (refine And.intro (by first | omega | exact Nat.le_of_ble_eq_true rfl) ?_) | refine Exists.intro _ (And.intro rfl ?_) | refine br_t (by omega) ?_ | refine bs_f (by omega) ?_ | refine fun (K' : K3) hK' => ?_ | (refine hK' _ _ _ ?_; clear hK' K') | refine CallK.val (R := []) hva (by kernel_rfl) rfl (by simp [V.wf, A.wf, C.wf]) ⟨roE_ints (l := 0) rfl (by omega) rfl (.inl rfl), trivial⟩ rfl rfl trivial ?_ | refine br_bf (congrArg Bool.not hv) ?_ | refine CallK.m ?_)
        rfl
      · have r1 : strO W H cs most = some (chgL cs (strG cs most)) := by unfold strO; rw [hv, if_pos ⟨rfl, by omega, by omega⟩]
        have hco := copied_spec W H cs hl
        rw [r1]
        repeat ((conv => whnf); first | (refine And.intro (by first | omega | exact Nat.le_of_ble_eq_true rfl) ?_) | refine Exists.intro _ (And.intro rfl ?_) | refine br_f (by omega) ?_ | refine bs_f (by omega) ?_ | refine fun (K' : K3) hK' => ?_ | (refine hK' _ _ _ ?_; clear hK' K') | refine CallK.val (R := []) hva (by kernel_rfl) rfl (by simp [V.wf, A.wf, C.wf]) ⟨roE_ints (l := 0) rfl (by omega) rfl (.inl rfl), trivial⟩ rfl rfl trivial ?_ | refine br_bf (congrArg Bool.not hv) ?_ | refine CallK.chg (R := []) hco (by kernel_rfl) rfl (by simp [V.wf, A.wf, C.wf]) ⟨roE_ints (l := 0) rfl (by omega) rfl (.inl rfl), trivial⟩ rfl ?_ | refine CallK.m ?_)
        refine Tri.loop (γ := Nat) (fun k => k ≤ cs.length) (fun k => [(1, V.i most), (4, V.c (.ptr 2 0)), (6, V.c (.ptr 4 0)), (23, V.c (.sl 3 cs.length)), (24, V.i cs.length), (25, V.i (k : Nat))])
          (fun k => [⟨4, .own 24, [C.i W, C.i H, .sl 3 cs.length]⟩, ⟨3, .vec 3 1, (mixL cs (fun i => decide (i < k)) (strG cs most)).map C.i⟩, ⟨2, .own 24, [C.i 0, C.i 0, .nil]⟩, ⟨1, .own 24, [C.i W, C.i H, .sl 0 cs.length]⟩, ⟨0, .ro 0, cs.map C.i⟩]) 5 (fun k => cs.length - k) 0 (R0 := []) ?_ ?_ ?_
        · omega
        · skip
          refine ⟨?_, ?_, rfl, rfl, by exact Nat.le_of_ble_eq_true rfl⟩
          · repeat (first | exact trivial | (refine And.intro (covS_syn (by rfl) rfl (by first | exact trivial | exact Nat.le_of_ble_eq_true rfl)) ?_))
          · repeat (first | exact trivial | (refine And.intro (covE_id (Nat.le_of_ble_eq_true rfl) (by first | exact wf_ints _ _ | simp [C.wf]) rfl (by first | rfl | exact congrArg (List.map C.i) (mix0 cs _).symm)) ?_))
        · intro k hk
          refine vc_ok tok ?_
          by_cases hlt : k < cs.length
          · have hrow : ((mixL cs (fun i => decide (i < (k : Int))) (strG cs most)).map C.i).length = cs.length := by simp [mixL]
            have hld := intL (l := mixL cs (fun i => decide (i < (k : Int))) (strG cs most)) (k := k) (by rw [mixL_len]; exact hlt)
            rw [mixL_get hlt, dd_f (show ¬ (k : Int) < (k : Int) by omega), if_neg (by simp)] at hld
            have hput := mixL_put (b := fun i => decide (i < (k : Int))) (g := strG cs most) hlt
            rw [mixS] at hput
            have hg : strG cs most (k : Int) = if cs.getD k 0 > most then 0 else cs.getD k 0 := rfl
            have hsame : cs.getD k 0 = (mixL cs (fun i => decide (i < (k : Int))) (strG cs most)).getD k 0 := by rw [mixL_get hlt, dd_f (show ¬ (k : Int) < (k : Int) by omega), if_neg (by simp)]
            obtain ⟨x, hx⟩ : ∃ x, x = cs.getD k 0 := ⟨_, rfl⟩
            rw [← hx] at hld hg hsame
            by_cases h : x > most
            · rw [if_pos h] at hg
              rw [hg] at hput
              have hcell : setL ((mixL cs (fun i => decide (i < (k : Int))) (strG cs most)).map C.i) (mulS ((k : Nat) : Int).toNat 1) [C.i 0] = (mixL cs (fun i => decide (i < ((k + 1 : Nat) : Int))) (strG cs most)).map C.i := by
                rw [setL_i2 rfl, hput]
              repeat ((conv => whnf); first | (refine And.intro (by first | omega | exact Nat.le_of_ble_eq_true rfl | (dsimp only [inK]; omega) | (simp only [mulS_eq]; omega)) ?_) | with_reducible refine ld (hld) ?_ | refine Exists.intro _ (And.intro rfl ?_) | refine br_t (by omega) ?_ | refine fun (K' : K3) hK' => ?_ | (refine hK' _ _ _ ?_; clear hK' K'))
              refine ⟨k + 1, [], by omega, by omega, ?_⟩
              refine ⟨?_, ?_, rfl, rfl, by exact Nat.le_of_ble_eq_true rfl⟩
              · repeat (first | exact trivial | (refine And.intro (covS_syn (by rfl) rfl (by first | exact trivial | exact Nat.le_of_ble_eq_true rfl)) ?_))
              · repeat (first | exact trivial | (refine And.intro (covE_id (Nat.le_of_ble_eq_true rfl) (by first | exact wf_ints _ _ | simp [C.wf]) rfl (by first | rfl | exact hcell)) ?_))
            · rw [if_neg h, hsame] at hg
              have hst : mixL cs (fun i => decide (i < ((k + 1 : Nat) : Int))) (strG cs most) = mixL cs (fun i => decide (i < (k : Int))) (strG cs most) := by
                rw [← hput, hg]
                apply List.ext_getElem
                · simp
                · intro j h1 h2
                  rw [List.getElem_set]
                  by_cases hj : k = j
                  · subst hj
                    rw [if_pos rfl, List.getD_eq_getElem?_getD, List.getElem?_eq_getElem h2]; rfl
                  · rw [if_neg hj]
              repeat ((conv => whnf); first | (refine And.intro (by first | omega | (dsimp only [inK]; omega)) ?_) | with_reducible refine ld (hld) ?_ | refine br_t (by omega) ?_ | refine br_f (by omega) ?_ | refine fun (K' : K3) hK' => ?_ | (refine hK' _ _ _ ?_; clear hK' K'))
              refine ⟨k + 1, [], by omega, by omega, ?_⟩
              refine ⟨?_, ?_, rfl, rfl, by exact Nat.le_of_ble_eq_true rfl⟩
              · repeat (first | exact trivial | (refine And.intro (covS_syn (by rfl) rfl (by first | exact trivial | exact Nat.le_of_ble_eq_true rfl)) ?_))
              · repeat (first | exact trivial | (refine And.intro (covE_id (Nat.le_of_ble_eq_true rfl) (by first | exact wf_ints _ _ | simp [C.wf]) rfl (by first | rfl | exact congrArg (List.map C.i) hst.symm)) ?_))
          · have hkl : k = cs.length := by omega
            subst hkl
            repeat ((conv => whnf); first | (refine And.intro (by first | omega | exact Nat.le_of_ble_eq_true rfl) ?_) | refine Exists.intro _ (And.intro rfl ?_) | refine br_f (by omega) ?_ | refine fun (K' : K3) hK' => ?_ | (refine hK' _ _ _ ?_; clear hK' K'))
            refine ⟨3, ?_, ?_⟩
            · rw [chgL_len]; rfl
            · exact congrArg (fun x : List Int => some (⟨3, .vec 3 1, x.map C.i⟩ : E)) (mixE cs _)
/-- Charts that are the same. -/
theorem sameCh_spec (W H : Int) (a : List Int) (hl : a.length ≤ 300) : Spec Try.prog 26 [V.agg [C.i W, C.i H, .sl 0 a.length], V.agg [C.i W, C.i H, .sl 1 a.length]] [⟨0, .ro 0, a.map C.i⟩, ⟨1, .ro 0, a.map C.i⟩] 2 (Is (V.c (.bool true))) := by
  have hlm : (a.map C.i).length = a.length := by simp
  refine Spec.of tok Try.func26 rfl rfl rfl fun n0 cx => vc_ok tok ?_
  repeat ((conv => whnf); first | (refine And.intro (by first | omega | exact Nat.le_of_ble_eq_true rfl) ?_) | refine Exists.intro _ (And.intro rfl ?_) | refine br_f (by omega) ?_ | refine bs_f (by omega) ?_ | refine fun (K' : K3) hK' => ?_ | (refine hK' _ _ _ ?_; clear hK' K'))
  refine Tri.loop (γ := Nat) (fun k => k ≤ a.length) (fun k => [(2, V.c (.ptr 2 0)), (3, V.c (.ptr 3 0)), (29, V.i a.length), (30, V.i (k : Nat))]) (fun k => [⟨3, .own 24, [C.i W, C.i H, .sl 1 a.length]⟩, ⟨2, .own 24, [C.i W, C.i H, .sl 0 a.length]⟩, ⟨0, .ro 0, a.map C.i⟩, ⟨1, .ro 0, a.map C.i⟩]) 4 (fun k => a.length - k) 0 (R0 := []) ?_ ?_ ?_
  · omega
  · skip
    refine ⟨?_, ?_, rfl, rfl, by exact Nat.le_of_ble_eq_true rfl⟩
    · repeat (first | exact trivial | (refine And.intro (covS_syn (by rfl) rfl (by first | exact trivial | exact Nat.le_of_ble_eq_true rfl)) ?_))
    · repeat (first | exact trivial | (refine And.intro (covE_id (Nat.le_of_ble_eq_true rfl) (by first | exact wf_ints _ _ | simp [C.wf]) rfl (by rfl)) ?_))
  · intro k hk
    refine vc_ok tok ?_
    by_cases hlt : k < a.length
    · have hld := intL hlt
      obtain ⟨x, hx⟩ : ∃ x, x = a.getD k 0 := ⟨_, rfl⟩
      rw [← hx] at hld
      repeat ((conv => whnf); first | (refine And.intro (by first | omega | exact Nat.le_of_ble_eq_true rfl | (dsimp only [inK]; omega)) ?_) | with_reducible refine ld (hld) ?_ | refine Exists.intro _ (And.intro rfl ?_) | refine br_t (by omega) ?_ | refine br_f (by omega) ?_ | refine fun (K' : K3) hK' => ?_ | (refine hK' _ _ _ ?_; clear hK' K') | refine draw_auto tok mixed (by kernel_rfl) ?_)
      refine ⟨k + 1, [], by omega, by omega, ?_⟩
      refine ⟨?_, ?_, rfl, rfl, by exact Nat.le_of_ble_eq_true rfl⟩
      · repeat (first | exact trivial | (refine And.intro (covS_syn (by rfl) rfl (by first | exact trivial | exact Nat.le_of_ble_eq_true rfl)) ?_))
      · repeat (first | exact trivial | (refine And.intro (covE_id (Nat.le_of_ble_eq_true rfl) (by first | exact wf_ints _ _ | simp [C.wf]) rfl (by rfl)) ?_))
    · repeat ((conv => whnf); first | refine br_f (by omega) ?_ | refine fun (K' : K3) hK' => ?_ | (refine hK' _ _ _ ?_; clear hK' K'))
      intro ρ; rfl
end Go.Proofs.Ytbhpnhcdjmcaoaa

/- Boom, the reference: the shortest channel that comes first, and whether booms block. -/
namespace Go.Proofs.Ytbhpnhcdjmcaoaa
open Go.RowKit
set_option linter.unusedVariables false
set_option linter.unusedSimpArgs false
/-- The first of some cells that is wanted; -1: none is. -/
def firstF (p : Int → Bool) (l : List Int) : Int := match l.find? p with
  | some k => k
  | none => -1
theorem firstF_hit {p : Int → Bool} {l : List Int} {j : Nat} (hj : j < l.length) (h0 : firstF p (l.take j) < 0) (hpos : ∀ x ∈ l, 0 ≤ x) (h : p (l.getD j 0) = true) : firstF p (l.take (j + 1)) = l.getD j 0 := by
  have hn : (l.take j).find? p = none := by
    cases hf : (l.take j).find? p with
    | none => rfl
    | some k =>
      unfold firstF at h0; rw [hf] at h0
      have := hpos k (List.mem_of_mem_take (List.mem_of_find?_eq_some hf))
      simp only at h0; omega
  unfold firstF
  rw [List.take_add_one, show l[j]?.toList = [l.getD j 0] by rw [List.getElem?_eq_getElem hj, List.getD_eq_getElem?_getD, List.getElem?_eq_getElem hj]; rfl, List.find?_append, hn]
  generalize l.getD j 0 = x at *
  simp [h]
theorem firstF_miss {p : Int → Bool} {l : List Int} {j : Nat} (hj : j < l.length) (h : p (l.getD j 0) = false) : firstF p (l.take (j + 1)) = firstF p (l.take j) := by
  unfold firstF
  rw [List.take_add_one, show l[j]?.toList = [l.getD j 0] by rw [List.getElem?_eq_getElem hj, List.getD_eq_getElem?_getD, List.getElem?_eq_getElem hj]; rfl, List.find?_append]
  generalize l.getD j 0 = x at *
  simp [h]
theorem firstF_keep {p : Int → Bool} {l : List Int} {j : Nat} (h0 : ¬ firstF p (l.take j) < 0) : firstF p (l.take (j + 1)) = firstF p (l.take j) := by
  unfold firstF at *
  rw [List.take_add_one, List.find?_append]
  cases hf : (l.take j).find? p with
  | none => rw [hf] at h0; simp at h0
  | some k => rfl
theorem lef_pos {d : Int → Option Int} {i : Int} (h0 : ∀ m, d i = some m → 0 ≤ m) : lef d i > 0 ↔ ∃ m, d i = some m := by
  unfold lef
  cases hd : d i with
  | none => simp
  | some m => have := h0 m hd; simp; omega
theorem lef_some {d : Int → Option Int} {i m : Int} (h : d i = some m) : lef d i = m + 1 := by unfold lef; rw [h]
theorem lef_none {d : Int → Option Int} {i : Int} (h : d i = none) : lef d i = 0 := by unfold lef; rw [h]
set_option maxRecDepth 10000 in
set_option maxHeartbeats 8000000 in
theorem rChannel_spec (W H : Int) (cs : List Int) (bs : List Cell) (hl : cs.length ≤ 300) (hb : bs.length ≤ 300) :
    Spec Try.prog 50 [chR W H cs.length, V.c (.sl 1 bs.length)] [⟨0, .ro 0, cs.map C.i⟩, ⟨1, .ro 0, cellC bs⟩] 2 (fun v L' _ => cellsE (chC W H cs bs) (chE W H cs bs) v L') := by
  have hlm : (cs.map C.i).length = cs.length := by simp
  have hli : ∀ g, ((iL cs.length g).map C.i).length = cs.length := fun g => by simp [iL]
  have hak := asked_spec W H cs bs hl hb
  unfold chC chE
  unfold askE at hak
  refine Spec.of tok Try.func50 rfl rfl rfl fun n0 cx => vc_ok tok ?_
  cases hv : okC W H cs with
  | false =>
    rw [hv] at hak
    repeat ((conv => whnf); first | refine Exists.intro _ (And.intro rfl ?_) | refine fun (K' : K3) hK' => ?_ | (refine hK' _ _ _ ?_; clear hK' K') | refine CallK.val (R := []) hak (by kernel_rfl) rfl (by simp [V.wf, A.wf, C.wf]) ⟨roE_ints (l := 0) rfl (by omega) rfl (.inl rfl), roE_cells (l := 1) rfl (by omega) rfl (.inl rfl), trivial⟩ rfl rfl trivial ?_ | refine br_bt (Eq.refl true) ?_ | refine CallK.m ?_)
    exact .inl ⟨rfl, rfl⟩
  | true =>
    cases hB : okB W H cs bs with
    | false =>
      rw [hv, hB] at hak
      repeat ((conv => whnf); first | refine Exists.intro _ (And.intro rfl ?_) | refine fun (K' : K3) hK' => ?_ | (refine hK' _ _ _ ?_; clear hK' K') | refine CallK.val (R := []) hak (by kernel_rfl) rfl (by simp [V.wf, A.wf, C.wf]) ⟨roE_ints (l := 0) rfl (by omega) rfl (.inl rfl), roE_cells (l := 1) rfl (by omega) rfl (.inl rfl), trivial⟩ rfl rfl trivial ?_ | refine br_bt (Eq.refl true) ?_ | refine CallK.m ?_)
      exact .inl ⟨rfl, rfl⟩
    | true =>
      rw [hv, hB] at hak
      have hok := okC_iff.1 hv
      have hle := left_spec W H cs bs hok hB hb
      obtain ⟨hW, hH, hcl, hcost⟩ := hok
      have hok : CO W H cs := ⟨hW, hH, hcl, hcost⟩
      have hn : (cs.length : Int) ≤ 100 := by have := Int.mul_le_mul hW.2 hH.2 (by omega) (by omega : (0:Int) ≤ 10); omega
      have hW0 : 0 < W := by omega
      obtain ⟨wet, hwet⟩ : ∃ wet, wet = wetB cs (boomF W H bs) := ⟨_, rfl⟩
      rw [← hwet] at hle ⊢
      obtain ⟨h0, rfl⟩ : ∃ h0 : Nat, H = h0 := ⟨H.toNat, by omega⟩
      have hcho : chanO W h0 cs.length wet = chanD W h0 (distW W h0 cs.length wet (W - 1)) := rfl
      have hdom : ∀ {i m : Int}, distW W h0 cs.length wet (W - 1) i = some m → 0 ≤ i ∧ i < cs.length := fun h => (distW_dom hW0 hcl h).1
      have hbd : ∀ {i m : Int}, distW W h0 cs.length wet (W - 1) i = some m → 0 ≤ m ∧ m < cs.length := fun h => distW_bd hW0 hcl h
      have hnx : ∀ {i m : Int}, distW W h0 cs.length wet (W - 1) i = some m → 0 < m → ∃ k, nextC W h0 (distW W h0 cs.length wet (W - 1)) i (m - 1) = some k ∧ distW W h0 cs.length wet (W - 1) k = some (m - 1) ∧ k ∈ nearL W h0 false i := fun h h1 => nextC_some h h1
      obtain ⟨d, hd⟩ : ∃ d, d = distW W h0 cs.length wet (W - 1) := ⟨_, rfl⟩
      rw [← hd] at hcho hle
      simp only [← hd] at hdom hbd hnx
      rw [hcho]
      unfold chanD
      rw [Int.toNat_natCast]
      clear hcho hd hwet
      have hil : (iL cs.length (lef d)).length = cs.length := iL_len _ _
      have hget : ∀ {k : Nat}, k < cs.length → ((iL cs.length (lef d)).map C.i)[mulS ((k : Nat) : Int).toNat 1]? = some (C.i (lef d k)) := fun {k} hk => by
        rw [intL (by rw [hil]; exact hk), iL_get hk]
      repeat ((conv => whnf); first | (refine And.intro (by first | omega | exact Nat.le_of_ble_eq_true rfl) ?_) | refine Exists.intro _ (And.intro rfl ?_) | refine fun (K' : K3) hK' => ?_ | (refine hK' _ _ _ ?_; clear hK' K') | refine CallK.val (R := []) hak (by kernel_rfl) rfl (by simp [V.wf, A.wf, C.wf]) ⟨roE_ints (l := 0) rfl (by omega) rfl (.inl rfl), roE_cells (l := 1) rfl (by omega) rfl (.inl rfl), trivial⟩ rfl rfl trivial ?_ | refine CallK.intsR (R := []) hle (by kernel_rfl) rfl (by simp [V.wf, A.wf, C.wf]) ⟨roE_ints (l := 0) rfl (by omega) rfl (.inl rfl), roE_cells (l := 1) rfl (by omega) rfl (.inl rfl), trivial⟩ rfl ?_ | refine br_bf (Eq.refl false) ?_ | refine CallK.m ?_)
      rw [hil]
      refine Tri.loop (γ := Nat) (fun k => k ≤ h0) (fun k => [(2, V.c (.ptr 2 0)), (7, V.c (.sl 3 cs.length)), (8, V.i (bestC W d k)), (25, V.i h0), (26, V.i (k : Nat))])
        (fun k => [⟨3, .vec 3 1, (iL cs.length (lef d)).map C.i⟩, ⟨2, .own 24, [C.i W, C.i h0, .sl 0 cs.length]⟩, ⟨0, .ro 0, cs.map C.i⟩, ⟨1, .ro 0, cellC bs⟩]) 4 (fun k => h0 - k) 0 (R0 := []) ?_ ?_ ?_
      · omega
      · skip
        refine ⟨?_, ?_, rfl, rfl, by exact Nat.le_of_ble_eq_true rfl⟩
        · repeat (first | exact trivial | (refine And.intro (covS_syn (by rfl) rfl (by first | exact trivial | exact Nat.le_of_ble_eq_true rfl)) ?_))
        · repeat (first | exact trivial | (refine And.intro (covE_id (Nat.le_of_ble_eq_true rfl) (by first | exact wf_ints _ _ | first | exact wf_cells _ _ | simp [C.wf]) rfl (by rfl)) ?_))
      · intro k hk
        refine vc_ok tok ?_
        by_cases hlt : k < h0
        · have hkw : 0 ≤ (k : Int) * W ∧ (k : Int) * W + W ≤ cs.length := by
            have h1 : 0 ≤ (k : Int) * W := Int.mul_nonneg (by omega) (by omega)
            have h2 := Int.mul_le_mul_of_nonneg_right (show (k : Int) + 1 ≤ h0 by omega) (show 0 ≤ W by omega)
            rw [Int.add_mul] at h2
            have : (h0 : Int) * W = W * h0 := Int.mul_comm _ _
            omega
          obtain ⟨i, hi⟩ : ∃ i : Nat, (i : Int) = (k : Int) * W := ⟨((k : Int) * W).toNat, by omega⟩
          have hin : i < cs.length := by omega
          have hix := rindex_spec W h0 cs.length 0 (k : Int) (by omega) (by omega) (by omega)
          rw [Int.add_zero, ← hi] at hix
          have hlk := hget hin
          have hbst : bestC W d (k + 1) = match d (i : Int) with
            | none => bestC W d k
            | some n => if bestC W d k < 0 then (i : Int) else match d (bestC W d k) with
              | none => (i : Int)
              | some b => if n < b then (i : Int) else bestC W d k := by rw [hi] <;> rfl
          cases hdk : d (i : Int) with
          | none =>
            rw [hdk] at hbst
            rw [lef_none hdk] at hlk
            repeat ((conv => whnf); first | (refine And.intro (by first | omega | (dsimp only [inK]; omega) | (simp only [setL_length, List.length_map]; omega)) ?_) | with_reducible refine ld (hlk) ?_ | refine Exists.intro _ (And.intro rfl ?_) | refine br_t (by omega) ?_ | refine br_f (by omega) ?_ | refine fun (K' : K3) hK' => ?_ | (refine hK' _ _ _ ?_; clear hK' K') | refine draw_auto tok mixed (by kernel_rfl) ?_ | refine CallK.val (R := []) hix (by kernel_rfl) rfl (by simp [V.wf, A.wf, C.wf, C.i]) trivial rfl rfl trivial ?_ | refine CallK.m ?_)
            refine ⟨k + 1, [], by omega, by omega, ?_⟩
            refine ⟨?_, ?_, rfl, rfl, by exact Nat.le_of_ble_eq_true rfl⟩
            · repeat (first | exact trivial | (refine And.intro (covS_syn (by first | rfl | (refine congrArg some (congrArg V.i ?_); first | omega | exact hbst.symm)) rfl (by first | exact trivial | exact Nat.le_of_ble_eq_true rfl)) ?_))
            · repeat (first | exact trivial | (refine And.intro (covE_id (Nat.le_of_ble_eq_true rfl) (by first | exact wf_ints _ _ | first | exact wf_cells _ _ | simp [C.wf]) rfl (by rfl)) ?_))
          | some n =>
            have hb1 := hbd hdk
            rw [hdk] at hbst
            rw [lef_some hdk] at hlk
            rcases bestC_spec hW0 d k with ⟨h1, h2⟩ | ⟨b, n', h1, h2, h3⟩
            · rw [h1] at hbst
              rw [h1]
              repeat ((conv => whnf); first | (refine And.intro (by first | omega | (dsimp only [inK]; omega) | (simp only [setL_length, List.length_map]; omega)) ?_) | with_reducible refine ld (hlk) ?_ | refine Exists.intro _ (And.intro rfl ?_) | refine br_t (by omega) ?_ | refine bs_t (by omega) ?_ | refine fun (K' : K3) hK' => ?_ | (refine hK' _ _ _ ?_; clear hK' K') | refine draw_auto tok mixed (by kernel_rfl) ?_ | refine CallK.val (R := []) hix (by kernel_rfl) rfl (by simp [V.wf, A.wf, C.wf, C.i]) trivial rfl rfl trivial ?_ | refine CallK.m ?_)
              refine ⟨k + 1, [], by omega, by omega, ?_⟩
              refine ⟨?_, ?_, rfl, rfl, by exact Nat.le_of_ble_eq_true rfl⟩
              · repeat (first | exact trivial | (refine And.intro (covS_syn (by first | rfl | (refine congrArg some (congrArg V.i ?_); first | omega | exact hbst.symm)) rfl (by first | exact trivial | exact Nat.le_of_ble_eq_true rfl)) ?_))
              · repeat (first | exact trivial | (refine And.intro (covE_id (Nat.le_of_ble_eq_true rfl) (by first | exact wf_ints _ _ | first | exact wf_cells _ _ | simp [C.wf]) rfl (by rfl)) ?_))
            · have hb2 := hbd h3
              have hbw := hdom h3
              obtain ⟨c, hc⟩ : ∃ c : Nat, (c : Int) = (b : Int) * W := ⟨((b : Int) * W).toNat, by omega⟩
              rw [h1, ← hc] at hbst ⊢
              rw [← hc] at h3 hbw
              have hlc := hget (show c < cs.length by omega)
              rw [lef_some h3] at hlc
              rw [h3] at hbst
              simp only [if_neg (show ¬ (c : Int) < 0 by omega)] at hbst
              by_cases hl' : n < n'
              · rw [if_pos hl'] at hbst
                repeat ((conv => whnf); first | (refine And.intro (by first | omega | (dsimp only [inK]; omega) | (simp only [setL_length, List.length_map]; omega)) ?_) | with_reducible refine ld (hlk) ?_ | with_reducible refine ld (hlc) ?_ | refine Exists.intro _ (And.intro rfl ?_) | refine br_t (by omega) ?_ | refine bs_f (by omega) ?_ | refine fun (K' : K3) hK' => ?_ | (refine hK' _ _ _ ?_; clear hK' K') | refine draw_auto tok mixed (by kernel_rfl) ?_ | refine CallK.val (R := []) hix (by kernel_rfl) rfl (by simp [V.wf, A.wf, C.wf, C.i]) trivial rfl rfl trivial ?_ | refine CallK.m ?_)
                refine ⟨k + 1, [], by omega, by omega, ?_⟩
                refine ⟨?_, ?_, rfl, rfl, by exact Nat.le_of_ble_eq_true rfl⟩
                · repeat (first | exact trivial | (refine And.intro (covS_syn (by first | rfl | (refine congrArg some (congrArg V.i ?_); first | omega | exact hbst.symm)) rfl (by first | exact trivial | exact Nat.le_of_ble_eq_true rfl)) ?_))
                · repeat (first | exact trivial | (refine And.intro (covE_id (Nat.le_of_ble_eq_true rfl) (by first | exact wf_ints _ _ | first | exact wf_cells _ _ | simp [C.wf]) rfl (by rfl)) ?_))
              · rw [if_neg hl'] at hbst
                repeat ((conv => whnf); first | (refine And.intro (by first | omega | (dsimp only [inK]; omega) | (simp only [setL_length, List.length_map]; omega)) ?_) | with_reducible refine ld (hlk) ?_ | with_reducible refine ld (hlc) ?_ | refine Exists.intro _ (And.intro rfl ?_) | refine br_t (by omega) ?_ | refine br_f (by omega) ?_ | refine bs_f (by omega) ?_ | refine fun (K' : K3) hK' => ?_ | (refine hK' _ _ _ ?_; clear hK' K') | refine draw_auto tok mixed (by kernel_rfl) ?_ | refine CallK.val (R := []) hix (by kernel_rfl) rfl (by simp [V.wf, A.wf, C.wf, C.i]) trivial rfl rfl trivial ?_ | refine CallK.m ?_)
                refine ⟨k + 1, [], by omega, by omega, ?_⟩
                refine ⟨?_, ?_, rfl, rfl, by exact Nat.le_of_ble_eq_true rfl⟩
                · repeat (first | exact trivial | (refine And.intro (covS_syn (by first | rfl | (refine congrArg some (congrArg V.i ?_); first | omega | exact hbst.symm)) rfl (by first | exact trivial | exact Nat.le_of_ble_eq_true rfl)) ?_))
                · repeat (first | exact trivial | (refine And.intro (covE_id (Nat.le_of_ble_eq_true rfl) (by first | exact wf_ints _ _ | first | exact wf_cells _ _ | simp [C.wf]) rfl (by rfl)) ?_))
        · have hkw : k = h0 := by omega
          subst hkw
          rcases bestC_spec hW0 d k with ⟨h1, h2⟩ | ⟨b, nb, h1, h2, h3⟩
          · have hno : d (-1) = none := by
              cases hh : d (-1) with
              | none => rfl
              | some w => have := hdom hh; omega
            rw [h1, hno]
            repeat ((conv => whnf); first | refine Exists.intro _ (And.intro rfl ?_) | refine br_t (by omega) ?_ | refine br_f (by omega) ?_ | refine fun (K' : K3) hK' => ?_ | (refine hK' _ _ _ ?_; clear hK' K'))
            exact .inl ⟨rfl, rfl⟩
          · have hb2 := hbd h3
            have hbw := hdom h3
            rw [h1, h3]
            obtain ⟨c, hc⟩ : ∃ c : Nat, (c : Int) = (b : Int) * W := ⟨((b : Int) * W).toNat, by omega⟩
            rw [← hc] at h3 hbw ⊢
            have hatb := at_spec W k cs.length (c : Int) (by omega) (by omega)
            repeat ((conv => whnf); first | (refine And.intro (by first | omega | (dsimp only [inK]; omega)) ?_) | refine Exists.intro _ (And.intro rfl ?_) | refine br_f (by omega) ?_ | refine fun (K' : K3) hK' => ?_ | (refine hK' _ _ _ ?_; clear hK' K') | refine CallK.val (R := []) hatb (by kernel_rfl) rfl (by simp [V.wf, A.wf, C.wf]) trivial rfl rfl (by simp [V.wf, A.wf, C.wf]) ?_ | refine CallK.m ?_)
            refine Tri.loop (γ := List Int × Int × Nat) (fun g => ∃ n, d g.2.1 = some n ∧ g.1 ++ pathC W k d n.toNat g.2.1 = pathC W k d nb.toNat c ∧ g.1.length = g.2.2 ∧ g.2.2 + n.toNat = nb.toNat) (fun g => [(2, V.c (.ptr 2 0)), (7, V.c (.sl 3 cs.length)), (8, V.i g.2.1), (11, V.c (.sl 4 (g.2.2 + 1)))])
              (fun g => [⟨4, .vec 57 2, cellC (cellsL W (g.1 ++ [g.2.1]))⟩, ⟨3, .vec 3 1, (iL cs.length (lef d)).map C.i⟩, ⟨2, .own 24, [C.i W, C.i k, .sl 0 cs.length]⟩, ⟨0, .ro 0, cs.map C.i⟩, ⟨1, .ro 0, cellC bs⟩]) 5 (fun g => match d g.2.1 with | some n => n.toNat | none => 0) ([], (c : Int), 0) (R0 := []) ?_ ?_ ?_
            · exact ⟨nb, h3, rfl, rfl, by simp⟩
            · skip
              refine ⟨?_, ?_, rfl, rfl, by exact Nat.le_of_ble_eq_true rfl⟩
              · repeat (first | exact trivial | (refine And.intro (covS_syn (by rfl) rfl (by first | exact trivial | exact Nat.le_of_ble_eq_true rfl)) ?_))
              · repeat (first | exact trivial | (refine And.intro (covE_id (Nat.le_of_ble_eq_true rfl) (by first | exact wf_ints _ _ | first | exact wf_cells _ _ | simp [C.wf]) rfl (by rfl)) ?_))
            · rintro ⟨pre, at_, m⟩ ⟨n, hw, hp, hlen, hlen2⟩
              simp only at hw hp hlen hlen2 ⊢
              have hwd := hbd hw
              have hat := hdom hw
              obtain ⟨a, rfl⟩ : ∃ a : Nat, at_ = a := ⟨at_.toNat, by omega⟩
              have han : a < cs.length := by omega
              have hla := hget han
              rw [lef_some hw] at hla
              have hrowl : (cellC (cellsL W (pre ++ [(a : Int)]))).length = 2 * (m + 1) := by rw [cellC_len]; simp [cellsL, hlen]
              refine vc_ok tok ?_
              by_cases h1w : 0 < n
              · obtain ⟨kn, hkn, hdn, _⟩ := hnx hw h1w
                have hbe := beside_spec W k cs.length (a : Int) false (by omega) (by omega) (by omega)
                have hfu : n.toNat = (n - 1).toNat + 1 := by omega
                have hstep : pathC W k d n.toNat a = (a : Int) :: pathC W k d (n - 1).toNat kn := by
                  rw [hfu]; simp only [pathC, hw, hkn]; rw [if_pos (by omega)]
                have hne := fun x (hx : x ∈ nearL W (k : Int) false (a : Int)) => near_in hW0 hx
                have hlen9 := near_len W (k : Int) false (a : Int)
                have hfin : firstF (fun x => decide (d x = some (n - 1))) (nearL W (k : Int) false (a : Int)) = kn := by unfold firstF; rw [show (nearL W (k : Int) false (a : Int)).find? _ = some kn from hkn]
                obtain ⟨nl, hnl⟩ : ∃ nl, nl = nearL W (k : Int) false (a : Int) := ⟨_, rfl⟩
                rw [← hnl] at hbe hne hlen9 hfin
                have hpos : ∀ x ∈ nl, 0 ≤ x := fun x hx => (hne x hx).1
                have hkn2 := hdom hdn
                repeat ((conv => whnf); first | (refine And.intro (by first | omega | (simp only [setL_length, List.length_map]; omega)) ?_) | with_reducible refine ld (hla) ?_ | refine Exists.intro _ (And.intro rfl ?_) | refine br_t (by omega) ?_ | refine fun (K' : K3) hK' => ?_ | (refine hK' _ _ _ ?_; clear hK' K') | refine CallK.den (vs := [V.agg [C.i W, C.i k, C.sl 0 cs.length], V.i (a : Int), V.c (.bool false)]) (fun ρ => rfl) (by simp [V.wf, A.wf, C.wf]) (CallK.intsR (R := []) hbe (by kernel_rfl) rfl (by simp [V.wf, A.wf, C.wf]) trivial rfl ?_) | refine CallK.m ?_)
                refine Tri.loop (γ := Nat) (fun j => j ≤ nl.length) (fun j => [(2, V.c (.ptr 2 0)), (7, V.c (.sl 3 cs.length)), (8, V.i (a : Int)), (11, V.c (.sl 4 (m + 1))), (12, V.i (firstF (fun x => decide (d x = some (n - 1))) (nl.take j))), (68, V.c (.sl 5 nl.length)), (69, V.i nl.length), (70, V.i (j : Nat))])
                  (fun j => [⟨5, .vec 3 1, nl.map C.i⟩, ⟨4, .vec 57 2, cellC (cellsL W (pre ++ [(a : Int)]))⟩, ⟨3, .vec 3 1, (iL cs.length (lef d)).map C.i⟩, ⟨2, .own 24, [C.i W, C.i k, .sl 0 cs.length]⟩, ⟨0, .ro 0, cs.map C.i⟩, ⟨1, .ro 0, cellC bs⟩]) 6 (fun j => nl.length - j) 0 (R0 := []) ?_ ?_ ?_
                · omega
                · skip
                  refine ⟨?_, ?_, rfl, rfl, by exact Nat.le_of_ble_eq_true rfl⟩
                  · repeat (first | exact trivial | (refine And.intro (covS_syn (by rfl) rfl (by first | exact trivial | exact Nat.le_of_ble_eq_true rfl)) ?_))
                  · repeat (first | exact trivial | (refine And.intro (covE_id (Nat.le_of_ble_eq_true rfl) (by first | exact wf_ints _ _ | first | exact wf_cells _ _ | simp [C.wf]) rfl (by rfl)) ?_))
                · intro j hj
                  refine vc_ok tok ?_
                  by_cases hjl : j < nl.length
                  · have hldk := intL hjl
                    have hkk := hne _ (getD_mem hjl)
                    have hit := firstF_hit (p := fun x => decide (d x = some (n - 1))) hjl
                    have hmiss := firstF_miss (p := fun x => decide (d x = some (n - 1))) hjl
                    have hkeep := firstF_keep (p := fun x => decide (d x = some (n - 1))) (l := nl) (j := j)
                    obtain ⟨kk, hkke⟩ : ∃ kk : Nat, (kk : Int) = nl.getD j 0 := ⟨(nl.getD j 0).toNat, by omega⟩
                    rw [← hkke] at hldk hkk hit hmiss
                    have hkl : kk < cs.length := by omega
                    have hlw := hget hkl
                    have hlb : 0 ≤ lef d (kk : Int) ∧ lef d (kk : Int) ≤ 101 := by
                      unfold lef
                      cases hd' : d (kk : Int) with
                      | none => simp
                      | some u => have := hbd hd'; simp only; omega
                    have hiff : lef d (kk : Int) = n ↔ d (kk : Int) = some (n - 1) := by
                      unfold lef
                      cases hd' : d (kk : Int) with
                      | none => simp only; exact ⟨fun h => by omega, fun h => by cases h⟩
                      | some u => simp only [Option.some.injEq]; omega
                    obtain ⟨xk, hxk⟩ : ∃ xk, xk = lef d (kk : Int) := ⟨_, rfl⟩
                    rw [← hxk] at hlw hlb hiff
                    obtain ⟨nf, hnf⟩ : ∃ nf, nf = firstF (fun x => decide (d x = some (n - 1))) (nl.take j) := ⟨_, rfl⟩
                    rw [← hnf] at hit hmiss hkeep
                    rw [← hnf]
                    by_cases g1 : nf < 0
                    · by_cases g2 : xk = n
                      · have hst := hit g1 hpos (dd_t (hiff.1 g2))
                        repeat ((conv => whnf); first | (refine And.intro (by first | omega | (dsimp only [inK]; omega) | (simp only [setL_length, List.length_map]; omega)) ?_) | with_reducible refine ld (hldk) ?_ | with_reducible refine ld (hlw) ?_ | with_reducible refine ld (hla) ?_ | refine br_t (by omega) ?_ | refine fun (K' : K3) hK' => ?_ | (refine hK' _ _ _ ?_; clear hK' K') | refine draw_auto tok mixed (by kernel_rfl) ?_)
                        refine ⟨j + 1, [], by omega, by omega, ?_⟩
                        refine ⟨?_, ?_, rfl, rfl, by exact Nat.le_of_ble_eq_true rfl⟩
                        · repeat (first | exact trivial | (refine And.intro (covS_syn (by first | rfl | (refine congrArg some (congrArg V.i ?_); first | omega | exact hst.symm)) rfl (by first | exact trivial | exact Nat.le_of_ble_eq_true rfl)) ?_))
                        · repeat (first | exact trivial | (refine And.intro (covE_id (Nat.le_of_ble_eq_true rfl) (by first | exact wf_ints _ _ | first | exact wf_cells _ _ | simp [C.wf]) rfl (by rfl)) ?_))
                      · have hst := hmiss (dd_f fun h => g2 (hiff.2 h))
                        repeat ((conv => whnf); first | (refine And.intro (by first | omega | (dsimp only [inK]; omega) | (simp only [setL_length, List.length_map]; omega)) ?_) | with_reducible refine ld (hldk) ?_ | with_reducible refine ld (hlw) ?_ | with_reducible refine ld (hla) ?_ | refine br_t (by omega) ?_ | refine br_f (by omega) ?_ | refine fun (K' : K3) hK' => ?_ | (refine hK' _ _ _ ?_; clear hK' K') | refine draw_auto tok mixed (by kernel_rfl) ?_)
                        refine ⟨j + 1, [], by omega, by omega, ?_⟩
                        refine ⟨?_, ?_, rfl, rfl, by exact Nat.le_of_ble_eq_true rfl⟩
                        · repeat (first | exact trivial | (refine And.intro (covS_syn (by first | rfl | (refine congrArg some (congrArg V.i ?_); first | omega | exact hst.symm)) rfl (by first | exact trivial | exact Nat.le_of_ble_eq_true rfl)) ?_))
                        · repeat (first | exact trivial | (refine And.intro (covE_id (Nat.le_of_ble_eq_true rfl) (by first | exact wf_ints _ _ | first | exact wf_cells _ _ | simp [C.wf]) rfl (by rfl)) ?_))
                    · have hst := hkeep g1
                      repeat ((conv => whnf); first | (refine And.intro (by first | omega | (dsimp only [inK]; omega) | (simp only [setL_length, List.length_map]; omega)) ?_) | with_reducible refine ld (hldk) ?_ | refine br_t (by omega) ?_ | refine br_f (by omega) ?_ | refine fun (K' : K3) hK' => ?_ | (refine hK' _ _ _ ?_; clear hK' K') | refine draw_auto tok mixed (by kernel_rfl) ?_)
                      refine ⟨j + 1, [], by omega, by omega, ?_⟩
                      refine ⟨?_, ?_, rfl, rfl, by exact Nat.le_of_ble_eq_true rfl⟩
                      · repeat (first | exact trivial | (refine And.intro (covS_syn (by first | rfl | (refine congrArg some (congrArg V.i ?_); first | omega | exact hst.symm)) rfl (by first | exact trivial | exact Nat.le_of_ble_eq_true rfl)) ?_))
                      · repeat (first | exact trivial | (refine And.intro (covE_id (Nat.le_of_ble_eq_true rfl) (by first | exact wf_ints _ _ | first | exact wf_cells _ _ | simp [C.wf]) rfl (by rfl)) ?_))
                  · have hje : j = nl.length := by omega
                    subst hje
                    rw [List.take_length, hfin]
                    have hatk := at_spec W k cs.length kn (by omega) (by omega)
                    repeat ((conv => whnf); first | (refine And.intro (by first | omega | (dsimp only [inK]; omega) | (exact ⟨rfl, rfl, rfl, Nat.le_of_ble_eq_true rfl, by dsimp only; omega, by exact Nat.le_of_ble_eq_true rfl, by omega, Nat.le_of_ble_eq_true rfl⟩)) ?_) | refine Exists.intro _ (And.intro rfl ?_) | refine br_f (by omega) ?_ | refine fun (K' : K3) hK' => ?_ | (refine hK' _ _ _ ?_; clear hK' K') | refine CallK.val (R := []) hatk (by kernel_rfl) rfl (by simp [V.wf, A.wf, C.wf]) trivial rfl rfl (by simp [V.wf, A.wf, C.wf]) ?_ | refine CallK.m ?_)
                    refine ⟨(pre ++ [(a : Int)], kn, m + 1), [(4, some 7)], ⟨_, hdn, ?_, by simp [hlen], by simp only; omega⟩, ?_, ?_⟩
                    · rw [← hp, hstep]; simp
                    · simp only [hdn, hw]; omega
                    · skip
                      refine ⟨?_, ?_, rfl, rfl, by exact Nat.le_of_ble_eq_true rfl⟩
                      · repeat (first | exact trivial | (refine And.intro (covS_syn (by rfl) rfl (by first | exact trivial | exact Nat.le_of_ble_eq_true rfl)) ?_))
                      · repeat (first | exact trivial | (refine And.intro (covE_some rfl (Nat.le_of_ble_eq_true rfl) (wf_cells _ _) rfl ((ren_cells _ _).trans (congrArg some (by simp only [cellsL]; rw [List.map_append, cellC_app]; rfl)))) ?_) | refine And.intro (covE_some rfl (Nat.le_of_ble_eq_true rfl) (wf_cells _ _) rfl (ren_cells _ _)) ?_ | (refine And.intro (covE_some rfl (Nat.le_of_ble_eq_true rfl) (by first | exact wf_ints _ _ | simp [C.wf]) rfl (by first | exact ren_ints _ _ | rfl)) ?_))
              · have hone : pathC W k d n.toNat a = [(a : Int)] := by
                  rw [show n.toNat = 0 by omega]; rfl
                rw [hone] at hp
                repeat ((conv => whnf); first | (refine And.intro (by first | omega | (simp only [setL_length, List.length_map]; omega)) ?_) | with_reducible refine ld (hla) ?_ | refine Exists.intro _ (And.intro rfl ?_) | refine br_f (by omega) ?_ | refine fun (K' : K3) hK' => ?_ | (refine hK' _ _ _ ?_; clear hK' K'))
                refine .inr ⟨4, ?_, ?_⟩
                · rw [← hp]; simp [cellsL, hlen]
                · rw [← hp]; rfl
theorem rBlocks_spec (W H : Int) (cs : List Int) (bs : List Cell) (hl : cs.length ≤ 300) (hb : bs.length ≤ 300) :
    Spec Try.prog 51 [chR W H cs.length, V.c (.sl 1 bs.length)] [⟨0, .ro 0, cs.map C.i⟩, ⟨1, .ro 0, cellC bs⟩] 2 (Is (V.tup [A.c (.bool (blB W H cs bs)), A.c (C.i (blE W H cs bs))])) := by
  have hch := rChannel_spec W H cs bs hl hb
  unfold chE at hch
  unfold blB blE
  refine Spec.of tok Try.func51 rfl rfl rfl fun n0 cx => vc_ok tok ?_
  cases hv : okC W H cs with
  | false =>
    rw [hv] at hch
    repeat ((conv => whnf); first | refine Exists.intro _ (And.intro rfl ?_) | refine fun (K' : K3) hK' => ?_ | (refine hK' _ _ _ ?_; clear hK' K') | refine CallK.cellsE (R := []) hch (by kernel_rfl) rfl (by simp [V.wf, A.wf, C.wf]) ⟨roE_ints (l := 0) rfl (by omega) rfl (.inl rfl), roE_cells (l := 1) rfl (by omega) rfl (.inl rfl), trivial⟩ rfl ?_ | refine br_bf (Eq.refl false) ?_ | refine CallK.m ?_)
    intro ρ; rfl
  | true =>
    cases hB : okB W H cs bs with
    | false =>
      rw [hv, hB] at hch
      repeat ((conv => whnf); first | refine Exists.intro _ (And.intro rfl ?_) | refine fun (K' : K3) hK' => ?_ | (refine hK' _ _ _ ?_; clear hK' K') | refine CallK.cellsE (R := []) hch (by kernel_rfl) rfl (by simp [V.wf, A.wf, C.wf]) ⟨roE_ints (l := 0) rfl (by omega) rfl (.inl rfl), roE_cells (l := 1) rfl (by omega) rfl (.inl rfl), trivial⟩ rfl ?_ | refine br_bf (Eq.refl false) ?_ | refine CallK.m ?_)
      intro ρ; rfl
    | true =>
      rw [hv, hB] at hch
      cases ho : chanO W H cs.length (wetB cs (boomF W H bs)) with
      | none =>
        rw [ho] at hch
        repeat ((conv => whnf); first | refine Exists.intro _ (And.intro rfl ?_) | refine fun (K' : K3) hK' => ?_ | (refine hK' _ _ _ ?_; clear hK' K') | refine CallK.cellsE (R := []) hch (by kernel_rfl) rfl (by simp [V.wf, A.wf, C.wf]) ⟨roE_ints (l := 0) rfl (by omega) rfl (.inl rfl), roE_cells (l := 1) rfl (by omega) rfl (.inl rfl), trivial⟩ rfl ?_ | refine br_bt (Eq.refl true) ?_ | refine CallK.m ?_)
        intro ρ; rfl
      | some l =>
        rw [ho] at hch
        repeat ((conv => whnf); first | refine Exists.intro _ (And.intro rfl ?_) | refine fun (K' : K3) hK' => ?_ | (refine hK' _ _ _ ?_; clear hK' K') | refine CallK.cellsE (R := []) hch (by kernel_rfl) rfl (by simp [V.wf, A.wf, C.wf]) ⟨roE_ints (l := 0) rfl (by omega) rfl (.inl rfl), roE_cells (l := 1) rfl (by omega) rfl (.inl rfl), trivial⟩ rfl ?_ | refine br_bf (Eq.refl false) ?_ | refine CallK.m ?_)
        intro ρ; rfl
end Go.Proofs.Ytbhpnhcdjmcaoaa

