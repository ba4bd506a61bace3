/- Texts of the proof, part 6: X1, X2, P15, X3, D1, D2, D3, X4, X5, P10, P11, P17, X6, P18, P19, T1, T2, T3, D4. -/
import Derived.Test.YtbhpnhcdjmcaoaaV5
import Derived.WalkKit
import Derived.Below
import Derived.Laws.OwnMore
import Derived.Maps.AppendAt
import Derived.Laws.IdiomCopy
import Derived.Laws.CopyRow
import Derived.IntWalk
import Derived.StillTail
import Derived.Scope
import Derived.ChangeKeysEq
import Derived.Laws.Small
import Derived.OrdersIn
import Derived.TacticsIn
import Derived.OwnWalkIn
import Derived.RangeFuncNested
import Derived.RangeFuncLeaves
import Derived.RangeFuncRecord
import Derived.Maps.Keyed
import Derived.Maps.RangeRun
import Derived.DeepKeys4
import Derived.Test.YtbhpnhcdjmcaoaaRows
import Derived.KernelRfl
import Derived.ProofKit
import Derived.OpenShut
import Derived.Lib.SmallJoins
import Derived.Deep.Slices
import Derived.PlainAid
import Derived.StillTailTactics
import Derived.WalkSpells
import Derived.OwnWalk
import Derived.Deep.RegionLaw
import Derived.Lib.SliceRun
/- Boom: how many steps it is over water from a column. -/
namespace Go.Proofs.Ytbhpnhcdjmcaoaa
open Go.RowKit
set_option linter.unusedVariables false
set_option linter.unusedSimpArgs false
def wetB (cs : List Int) (f : Int → Bool) (i : Int) : Bool := decide (cs.getD i.toNat 0 ≠ -1) && !f i
theorem walk_wet {W H : Int} {n : Nat} {wet : Int → Bool} {col : Int} {i : Int} : ∀ {l : List Int}, isWalk (iniW W n wet col) (nbW W H n wet) (i :: l) → wet i = true
  | [], h => by
    have h : iniW W n wet col i = true := h
    unfold iniW at h; simp only [Bool.and_eq_true] at h; exact h.2.1
  | k :: r, h => (nbW_iff.1 h.1).2.1
/-- One neighbour looked at. -/
def stepW (wet : Int → Bool) (h : Int) (st : (Int → Option Int) × List Int) (k : Int) : (Int → Option Int) × List Int :=
  match st.1 k with
  | none => if wet k then (updI st.1 k (h + 1), st.2 ++ [k]) else st
  | some _ => st
set_option maxRecDepth 10000 in
set_option maxHeartbeats 8000000 in
theorem from_spec (W H : Int) (cs : List Int) (f : Int → Bool) (col : Int) (hok : CO W H cs) (hcol : 0 ≤ col ∧ col < W) :
    Spec Try.prog 96 [chV W H cs.length, V.i col] [⟨0, .ro 0, cs.map C.i⟩, ⟨1, .mp false .int (bmF f), []⟩] 2 (fun v L' _ => ∃ l, v = V.c (.mp l) ∧ find L' l = some ⟨l, .mp true .int (stepF (distW W H cs.length (wetB cs f) col)), []⟩) := by
  have hlm : (cs.map C.i).length = cs.length := by simp
  obtain ⟨hW, hH, hcl, hcost⟩ := hok
  have hok : CO W H cs := ⟨hW, hH, hcl, hcost⟩
  have hn : (cs.length : Int) ≤ 100 := by have := Int.mul_le_mul hW.2 hH.2 (by omega) (by omega : (0:Int) ≤ 10); omega
  have hW0 : 0 < W := by omega
  refine Spec.of tok Try.func96 rfl rfl rfl fun n0 cx => vc_ok tok ?_
  repeat ((conv => whnf); first | (refine And.intro (by first | omega | exact Nat.le_of_ble_eq_true rfl) ?_) | refine Exists.intro _ (And.intro rfl ?_) | refine fun (K' : K3) hK' => ?_ | (refine hK' _ _ _ ?_; clear hK' K'))
  refine Tri.loop (γ := Nat × Nat) (fun g => g.1 ≤ cs.length ∧ (iniQ W cs.length (wetB cs f) col g.1).length = g.2) (fun g => [(1, V.i col), (2, V.c (.ptr 2 0)), (5, V.c (.ptr 4 0)), (6, V.c (.ptr 5 0)), (16, V.i cs.length), (17, V.i (g.1 : Nat))])
    (fun g => [⟨6, .vec 3 1, (iniQ W cs.length (wetB cs f) col g.1).map C.i⟩, ⟨5, .own 22, [.sl 6 g.2]⟩, ⟨4, .own 108, [.mp 3]⟩, ⟨3, .mp true .int (stepF (iniD W cs.length (wetB cs f) col g.1)), []⟩, ⟨2, .own 65, [C.i W, C.i H, .sl 0 cs.length, .mp 1]⟩, ⟨0, .ro 0, cs.map C.i⟩, ⟨1, .mp false .int (bmF f), []⟩]) 7 (fun g => cs.length - g.1) (0, 0) (R0 := [(6, none)]) ?_ ?_ ?_
  · exact ⟨Nat.zero_le _, rfl⟩
  · skip
    refine ⟨?_, ?_, rfl, rfl, by exact Nat.le_of_ble_eq_true rfl⟩
    · repeat (first | exact trivial | (refine And.intro (covS_syn (by rfl) rfl (by first | exact trivial | exact Nat.le_of_ble_eq_true rfl)) ?_))
    · repeat (first | exact trivial | refine And.intro (covE_mp rfl (Nat.le_of_ble_eq_true rfl) rfl (iniD_zero _ _ _ _)) ?_ | refine And.intro (covE_mp rfl (Nat.le_of_ble_eq_true rfl) rfl rfl) ?_ | refine And.intro (covE_nil rfl (Nat.le_of_ble_eq_true rfl) rfl rfl) ?_ | (refine And.intro (covE_some rfl (Nat.le_of_ble_eq_true rfl) (by first | exact wf_ints _ _ | simp [C.wf]) rfl (by first | exact ren_ints _ _ | rfl)) ?_))
  · rintro ⟨k, m⟩ ⟨hk, hm⟩
    simp only at hk hm ⊢
    refine vc_ok tok ?_
    by_cases hlt : k < cs.length
    · have hwt := wet_spec W H cs f k hlt (by omega)
      have hwe : wetB cs f (k : Int) = (decide (cs.getD k 0 ≠ -1) && !f k) := by simp [wetB]
      rw [← hwe] at hwt
      have hini : iniW W cs.length (wetB cs f) col (k : Int) = (wetB cs f (k : Int) && decide ((k : Int) % W = col)) := by
        unfold iniW; rw [dd_t (show (0 : Int) ≤ (k : Int) ∧ (k : Int) < (cs.length : Int) by omega), Bool.true_and]
      have hml := iniQ_len W cs.length (wetB cs f) col k
      by_cases h1 : (k : Int) % W = col
      · cases hw : wetB cs f (k : Int) with
        | true =>
          rw [hw] at hwt
          rw [hw, dd_t h1] at hini
          have hq := iniQ_t hini
          have hd : updF (stepF (iniD W cs.length (wetB cs f) col k)) [(k : Int)] (.i 0) = stepF (iniD W cs.length (wetB cs f) col (k + 1)) := by rw [stepF_upd, iniD_t hini]
          repeat ((conv => whnf); first | (refine And.intro (by first | omega | exact Nat.le_of_ble_eq_true rfl | (dsimp only [inK]; omega) | (exact ⟨rfl, rfl, rfl, Nat.le_of_ble_eq_true rfl, by simp; omega, by exact Nat.le_of_ble_eq_true rfl, by omega, Nat.le_of_ble_eq_true rfl⟩)) ?_) | refine Exists.intro _ (And.intro rfl ?_) | refine br_t (by omega) ?_ | refine fun (K' : K3) hK' => ?_ | (refine hK' _ _ _ ?_; clear hK' K') | refine CallK.val (R := []) hwt (by kernel_rfl) rfl (by simp [V.wf, A.wf, C.wf]) ⟨roE_ints (l := 0) rfl (by omega) rfl (.inl rfl), roE_map (l := 1) rfl (by omega) rfl, trivial⟩ rfl rfl trivial ?_ | refine br_bt (Eq.refl true) ?_ | refine CallK.m ?_)
          refine ⟨(k + 1, m + 1), [(6, some 8)], ⟨by simp only; omega, by simp only [hq, List.length_append, hm]; rfl⟩, by simp only; omega, ?_⟩
          refine ⟨?_, ?_, rfl, rfl, by exact Nat.le_of_ble_eq_true rfl⟩
          · repeat (first | exact trivial | (refine And.intro (covS_syn (by rfl) rfl (by first | exact trivial | exact Nat.le_of_ble_eq_true rfl)) ?_))
          · repeat (first | exact trivial | refine And.intro (covE_mp rfl (Nat.le_of_ble_eq_true rfl) rfl hd) ?_ | refine And.intro (covE_mp rfl (Nat.le_of_ble_eq_true rfl) rfl rfl) ?_ | (refine And.intro (covE_some rfl (Nat.le_of_ble_eq_true rfl) (by first | exact wf_ints _ _ | simp [C.wf]) rfl (by first | exact ren_ints _ _ | (refine (ren_ints _ _).trans (congrArg some ?_); rw [hq, List.map_append]; rfl) | rfl)) ?_))
        | false =>
          rw [hw] at hwt
          rw [hw] at hini
          have hq := iniQ_f hini
          have hd := iniD_f hini
          repeat ((conv => whnf); first | (refine And.intro (by first | omega | exact Nat.le_of_ble_eq_true rfl | (dsimp only [inK]; omega)) ?_) | refine Exists.intro _ (And.intro rfl ?_) | refine br_t (by omega) ?_ | refine fun (K' : K3) hK' => ?_ | (refine hK' _ _ _ ?_; clear hK' K') | refine CallK.val (R := []) hwt (by kernel_rfl) rfl (by simp [V.wf, A.wf, C.wf]) ⟨roE_ints (l := 0) rfl (by omega) rfl (.inl rfl), roE_map (l := 1) rfl (by omega) rfl, trivial⟩ rfl rfl trivial ?_ | refine br_bf (Eq.refl false) ?_ | refine CallK.m ?_)
          refine ⟨(k + 1, m), [], ⟨by simp only; omega, by simp only [hq]; exact hm⟩, by simp only; omega, ?_⟩
          refine ⟨?_, ?_, rfl, rfl, by exact Nat.le_of_ble_eq_true rfl⟩
          · repeat (first | exact trivial | (refine And.intro (covS_syn (by rfl) rfl (by first | exact trivial | exact Nat.le_of_ble_eq_true rfl)) ?_))
          · repeat (first | exact trivial | refine And.intro (covE_mp rfl (Nat.le_of_ble_eq_true rfl) rfl (congrArg stepF hd.symm)) ?_ | refine And.intro (covE_mp rfl (Nat.le_of_ble_eq_true rfl) rfl rfl) ?_ | (refine And.intro (covE_id (Nat.le_of_ble_eq_true rfl) (by first | exact wf_ints _ _ | simp [C.wf]) rfl (by first | rfl | exact congrArg (List.map C.i) hq.symm)) ?_))
      · rw [dd_f h1, Bool.and_false] at hini
        have hq := iniQ_f hini
        have hd := iniD_f hini
        repeat ((conv => whnf); first | (refine And.intro (by first | omega | exact Nat.le_of_ble_eq_true rfl | (dsimp only [inK]; omega)) ?_) | refine Exists.intro _ (And.intro rfl ?_) | refine br_t (by omega) ?_ | refine br_f (by omega) ?_ | refine fun (K' : K3) hK' => ?_ | (refine hK' _ _ _ ?_; clear hK' K'))
        refine ⟨(k + 1, m), [], ⟨by simp only; omega, by simp only [hq]; exact hm⟩, by simp only; omega, ?_⟩
        refine ⟨?_, ?_, rfl, rfl, by exact Nat.le_of_ble_eq_true rfl⟩
        · repeat (first | exact trivial | (refine And.intro (covS_syn (by rfl) rfl (by first | exact trivial | exact Nat.le_of_ble_eq_true rfl)) ?_))
        · repeat (first | exact trivial | refine And.intro (covE_mp rfl (Nat.le_of_ble_eq_true rfl) rfl (congrArg stepF hd.symm)) ?_ | refine And.intro (covE_mp rfl (Nat.le_of_ble_eq_true rfl) rfl rfl) ?_ | (refine And.intro (covE_id (Nat.le_of_ble_eq_true rfl) (by first | exact wf_ints _ _ | simp [C.wf]) rfl (by first | rfl | exact congrArg (List.map C.i) hq.symm)) ?_))
    · have hkn : k = cs.length := by omega
      subst hkn
      have hB0 := iniB_o W H cs.length (wetB cs f) col
      repeat ((conv => whnf); first | refine br_f (by omega) ?_ | refine fun (K' : K3) hK' => ?_ | (refine hK' _ _ _ ?_; clear hK' K'))
      refine Tri.loop (γ := ((Int → Option Int) × List Int) × (Nat × Nat)) (fun g => BO (iniW W cs.length (wetB cs f) col) (nbW W H cs.length (wetB cs f)) g.1.1 g.1.2 g.2.1 ∧ (g.1.2.drop g.2.1).length = g.2.2) (fun g => [(2, V.c (.ptr 2 0)), (5, V.c (.ptr 4 0)), (6, V.c (.ptr 5 0))])
        (fun g => [⟨6, .vec 3 1, (g.1.2.drop g.2.1).map C.i⟩, ⟨5, .own 22, [.sl 6 g.2.2]⟩, ⟨4, .own 108, [.mp 3]⟩, ⟨3, .mp true .int (stepF g.1.1), []⟩, ⟨2, .own 65, [C.i W, C.i H, .sl 0 cs.length, .mp 1]⟩, ⟨0, .ro 0, cs.map C.i⟩, ⟨1, .mp false .int (bmF f), []⟩]) 11 (fun g => cs.length - g.2.1) ((iniD W cs.length (wetB cs f) col cs.length, iniQ W cs.length (wetB cs f) col cs.length), (0, m)) (R0 := []) ?_ ?_ ?_
      · exact ⟨hB0, hm⟩
      · skip
        refine ⟨?_, ?_, rfl, rfl, by exact Nat.le_of_ble_eq_true rfl⟩
        · repeat (first | exact trivial | refine And.intro (covS_syn (by rfl) rfl (by exact Nat.le_of_ble_eq_true rfl)) ?_)
        · repeat (first | exact trivial | refine And.intro (covE_mp rfl (Nat.le_of_ble_eq_true rfl) rfl rfl) ?_ | (refine And.intro (covE_id (Nat.le_of_ble_eq_true rfl) (by first | exact wf_ints _ _ | simp [C.wf]) rfl (by rfl)) ?_))
      · rintro ⟨⟨d, q⟩, ⟨p, m⟩⟩ ⟨hB, hm⟩
        simp only at hB hm ⊢
        refine vc_ok tok ?_
        obtain ⟨hql, hqin⟩ := hB.len hW0 hcl
        cases hq : q.drop p with
        | nil =>
          rw [hq] at hm
          have hm0 : m = 0 := by simpa using hm.symm
          subst hm0
          have hfin : d = distW W H cs.length (wetB cs f) col := (hB.dist hq (nbW_sym hW0 hcl)).unique (distO_is _ _)
          repeat ((conv => whnf); first | refine Exists.intro _ (And.intro rfl ?_) | refine br_f (by omega) ?_ | refine fun (K' : K3) hK' => ?_ | (refine hK' _ _ _ ?_; clear hK' K'))
          exact congrArg (fun x => some (⟨3, .mp true .int (stepF x), []⟩ : E)) hfin
        | cons i r =>
          rw [hq] at hm
          have hm1 : m = r.length + 1 := by simpa using hm.symm
          subst hm1
          obtain ⟨h, hdi, hI0⟩ := hB.pop hq
          obtain ⟨hplt, hd1, _, _⟩ := drop_cons hq
          have hiq : i ∈ q := List.mem_of_mem_drop (i := p) (by rw [hq]; simp)
          have hir := hqin i hiq
          have hwi : wetB cs f i = true := by
            obtain ⟨l, h1, _⟩ := hB.sound i h hdi
            exact walk_wet h1
          have hrl : r.length ≤ 100 := by rw [← hd1, List.length_drop]; omega
          obtain ⟨fs, hfs⟩ : ∃ fs : List Int → (Int → Option Int) × List Int, fs = fun pre => pre.foldl (stepW (wetB cs f) h) (d, q) := ⟨_, rfl⟩
          have hfs0 : fs [] = (d, q) := by rw [hfs]; rfl
          have hfss : ∀ pre k, fs (pre ++ [k]) = stepW (wetB cs f) h (fs pre) k := fun pre k => by rw [hfs]; simp
          obtain ⟨wk, hwk⟩ : ∃ wk : List Int → List Int, wk = fun pre => (fs pre).2.drop (p + 1) := ⟨_, rfl⟩
          have hwk0 : wk [] = r := by rw [hwk]; simp only [hfs0]; exact hd1
          have hwkd : ∀ pre, wk pre = (fs pre).2.drop (p + 1) := fun pre => by rw [hwk]
          clear hfs hwk
          repeat ((conv => whnf); first | (refine And.intro (by first | omega | exact Nat.le_of_ble_eq_true rfl | (simp only [setL_length, List.length_map]; omega)) ?_) | refine Exists.intro _ (And.intro rfl ?_) | refine br_t (by omega) ?_ | refine fun (K' : K3) hK' => ?_ | (refine hK' _ _ _ ?_; clear hK' K') | refine Two.r ?_ | refine And.intro (by refine ⟨rfl, Nat.le_of_ble_eq_true rfl, by omega, by simp, by simp⟩) ?_ | refine CallK.fresh (by kernel_rfl) (near_spec _ _ _ _) rfl ?_ | refine CallK.m ?_)
          refine Tri.opq fun K' hK' => ?_
          refine Tri.near (R0 := [(20, some 12)]) (W := W) (H := H) (n := cs.length) (i := i) (e := false) (fun pre => BI (iniW W cs.length (wetB cs f) col) (nbW W H cs.length (wetB cs f)) (fs pre).1 (fs pre).2 (p + 1) h i pre)
            (fun pre => [⟨20, .vec 3 1, (wk pre).map C.i⟩, ⟨11, .own 3, [C.i i]⟩, ⟨5, .own 22, [.sl 20 (wk pre).length]⟩, ⟨4, .own 108, [.mp 3]⟩, ⟨3, .mp true .int (stepF (fs pre).1), []⟩, ⟨2, .own 65, [C.i W, C.i H, .sl 0 cs.length, .mp 1]⟩, ⟨0, .ro 0, cs.map C.i⟩, ⟨1, .mp false .int (bmF f), []⟩])
            (by rw [hfs0]; exact hI0) (by omega) (by omega) (by omega) (by exact rfl) (by exact rfl) (by exact rfl) ?_ ?_ ?_
          · intro oo
            simp only [hwk0, hfs0]
            refine ⟨?_, ?_, rfl, rfl, by exact Nat.le_of_ble_eq_true rfl⟩
            · repeat (exact trivial)
            · repeat (first | exact trivial | refine And.intro (covE_bR (b := false) rfl (Nat.le_of_ble_eq_true rfl) rfl rfl rfl) ?_ | refine And.intro (covE_mp rfl (Nat.le_of_ble_eq_true rfl) rfl rfl) ?_ | (refine And.intro (covE_some rfl (Nat.le_of_ble_eq_true rfl) (by first | exact wf_ints _ _ | simp [C.wf]) rfl (by first | exact ren_ints _ _ | rfl)) ?_))
          · intro oo ob od pre post kk hsp hk0 hk1 hI cxb hcx
            obtain ⟨hql2, hqin2⟩ := hI.len hW0 hcl
            have hnk : kk ∈ nearL W H false i := by rw [hsp]; simp
            obtain ⟨k, rfl⟩ : ∃ k : Nat, kk = k := ⟨kk.toNat, by omega⟩
            have hkl : k < cs.length := by omega
            have hwt := wet_spec W H cs f k hkl (by omega)
            have hwe : wetB cs f (k : Int) = (decide (cs.getD k 0 ≠ -1) && !f k) := by simp [wetB]
            rw [← hwe] at hwt
            have hcur := hI.cur
            have hhb := hI.bnd i h hcur
            have hst := hfss pre (k : Int)
            have hwd := hwkd pre
            have hwl : (wk pre).length ≤ 100 := by rw [hwd, List.length_drop]; omega
            have hhere := hI.here
            refine vc_ok tok ?_
            repeat ((conv => whnf); first | refine fun (K' : K3) hK' => ?_ | (refine hK' _ _ _ ?_; clear hK' K') | refine And.intro (Eq.refl oo) ?_)
            refine vc_ok tok ?_
            cases hdk : (fs pre).1 (k : Int) with
            | some x =>
              have e : fs (pre ++ [(k : Int)]) = fs pre := by rw [hst]; unfold stepW; rw [hdk]
              have e2 : wk (pre ++ [(k : Int)]) = wk pre := by rw [hwkd, e, hwd]
              repeat ((conv => whnf); first | refine And.intro (by omega) ?_ | with_reducible refine lkm (stepF_some hdk) ?_ | refine Exists.intro _ (And.intro rfl ?_) | refine fun (K' : K3) hK' => ?_ | (refine hK' _ _ _ ?_; clear hK' K') | refine And.intro (Eq.refl ob) ?_)
              refine .inl ⟨rfl, by rw [e]; exact hI.keep fun _ => ⟨x, hdk⟩, [], rfl, ?_⟩
              rw [e2, e]
              refine ⟨?_, ?_, rfl, rfl, by exact Nat.le_of_ble_eq_true rfl⟩
              · repeat (exact trivial)
              · repeat (first | exact trivial | refine And.intro (covE_mp rfl (Nat.le_of_ble_eq_true rfl) rfl rfl) ?_ | (refine And.intro (covE_id (Nat.le_of_ble_eq_true rfl) (by first | exact wf_ints _ _ | simp [C.wf]) rfl (by rfl)) ?_))
            | none =>
              cases hw : wetB cs f (k : Int) with
              | false =>
                rw [hw] at hwt
                have e : fs (pre ++ [(k : Int)]) = fs pre := by rw [hst]; unfold stepW; rw [hdk]; simp only [hw]; rfl
                have e2 : wk (pre ++ [(k : Int)]) = wk pre := by rw [hwkd, e, hwd]
                repeat ((conv => whnf); first | refine And.intro (by omega) ?_ | with_reducible refine lkm (stepF_none hdk) ?_ | refine Exists.intro _ (And.intro rfl ?_) | refine fun (K' : K3) hK' => ?_ | (refine hK' _ _ _ ?_; clear hK' K') | refine CallK.val (R := []) hwt (by kernel_rfl) rfl (by simp [V.wf, A.wf, C.wf]) ⟨roE_ints (l := 0) rfl (by omega) rfl (.inl rfl), roE_map (l := 1) rfl (by omega) rfl, trivial⟩ rfl rfl trivial ?_ | refine And.intro (Eq.refl ob) ?_ | refine br_bf (Eq.refl false) ?_ | refine CallK.m ?_)
                refine .inl ⟨rfl, by rw [e]; exact hI.keep fun hh => absurd (nbW_iff.1 hh).2.2.2 (by rw [hw]; simp), [], rfl, ?_⟩
                rw [e2, e]
                refine ⟨?_, ?_, rfl, rfl, by exact Nat.le_of_ble_eq_true rfl⟩
                · repeat (exact trivial)
                · repeat (first | exact trivial | refine And.intro (covE_mp rfl (Nat.le_of_ble_eq_true rfl) rfl rfl) ?_ | (refine And.intro (covE_id (Nat.le_of_ble_eq_true rfl) (by first | exact wf_ints _ _ | simp [C.wf]) rfl (by rfl)) ?_))
              | true =>
                rw [hw] at hwt
                have hni : (k : Int) ∈ nbW W H cs.length (wetB cs f) i := nbW_iff.2 ⟨hir, hwi, hnk, hw⟩
                have e : fs (pre ++ [(k : Int)]) = (updI (fs pre).1 (k : Int) (h + 1), (fs pre).2 ++ [(k : Int)]) := by rw [hst]; unfold stepW; rw [hdk]; simp only [hw]; rfl
                have e2 : wk (pre ++ [(k : Int)]) = wk pre ++ [(k : Int)] := by rw [hwkd, e, hwd]; exact List.drop_append_of_le_length hhere
                have hd : updF (stepF (fs pre).1) [(k : Int)] (.i (h + 1)) = stepF (updI (fs pre).1 (k : Int) (h + 1)) := stepF_upd _ _ _
                have hput := hI.put hdk hni (nbW_sym hW0 hcl _ _ hni)
                repeat ((conv => whnf); first | (refine And.intro (by first | omega | exact Nat.le_of_ble_eq_true rfl | (dsimp only [inK]; omega) | (exact ⟨rfl, rfl, rfl, Nat.le_of_ble_eq_true rfl, by simp; done, by exact Nat.le_of_ble_eq_true rfl, by omega, Nat.le_of_ble_eq_true rfl⟩)) ?_) | with_reducible refine lkm (stepF_none hdk) ?_ | with_reducible refine lkm (stepF_some hcur) ?_ | refine Exists.intro _ (And.intro rfl ?_) | refine fun (K' : K3) hK' => ?_ | (refine hK' _ _ _ ?_; clear hK' K') | refine CallK.val (R := []) hwt (by kernel_rfl) rfl (by simp [V.wf, A.wf, C.wf]) ⟨roE_ints (l := 0) rfl (by omega) rfl (.inl rfl), roE_map (l := 1) rfl (by omega) rfl, trivial⟩ rfl rfl trivial ?_ | refine And.intro (Eq.refl ob) ?_ | refine br_bt (Eq.refl true) ?_ | refine CallK.m ?_)
                refine .inl ⟨rfl, by rw [e]; exact hput, [(20, some 42)], rfl, ?_⟩
                rw [e2, e, List.length_append]
                refine ⟨?_, ?_, rfl, rfl, by exact Nat.le_of_ble_eq_true rfl⟩
                · repeat (exact trivial)
                · repeat (first | exact trivial | refine And.intro (covE_bR (b := false) rfl (Nat.le_of_ble_eq_true rfl) rfl rfl rfl) ?_ | refine And.intro (covE_mp rfl (Nat.le_of_ble_eq_true rfl) rfl hd) ?_ | refine And.intro (covE_mp rfl (Nat.le_of_ble_eq_true rfl) rfl rfl) ?_ | (refine And.intro (covE_some rfl (Nat.le_of_ble_eq_true rfl) (by first | exact wf_ints _ _ | simp [C.wf]) rfl (by first | exact ren_ints _ _ | (refine (ren_ints _ _).trans (congrArg some ?_); rw [List.map_append]; rfl) | rfl)) ?_))
          · intro oo od hI
            refine Or.inl ?_
            refine And.intro rfl ?_
            conv => whnf
            refine hK' _ _ _ _ ?_
            repeat ((conv => whnf); refine And.intro (by omega) ?_)
            have hBn := hI.close fun k hk => (nbW_iff.1 hk).2.2.1
            refine ⟨(((fs (nearL W H false i)).1, (fs (nearL W H false i)).2), (p + 1, (wk (nearL W H false i)).length)), [(6, some 20)], ⟨hBn, by rw [hwkd]⟩, by simp only; omega, ?_⟩
            rw [hwkd]
            refine ⟨?_, ?_, rfl, rfl, by exact Nat.le_of_ble_eq_true rfl⟩
            · repeat (first | exact trivial | refine And.intro (covS_syn (by rfl) rfl (by exact Nat.le_of_ble_eq_true rfl)) ?_)
            · repeat (first | exact trivial | refine And.intro (covE_mp rfl (Nat.le_of_ble_eq_true rfl) rfl rfl) ?_ | (refine And.intro (covE_some rfl (Nat.le_of_ble_eq_true rfl) (by first | exact wf_ints _ _ | simp [C.wf]) rfl (by first | exact ren_ints _ _ | rfl)) ?_))
end Go.Proofs.Ytbhpnhcdjmcaoaa

/- Boom: the shortest channel that comes first, and whether booms block. -/
namespace Go.Proofs.Ytbhpnhcdjmcaoaa
open Go.RowKit
set_option linter.unusedVariables false
set_option linter.unusedSimpArgs false
/-- What channel gives back. -/
def chanR (o : Option (List Int)) (v : V) (L' : List E) : Prop :=
  match o with
  | none => v = V.tup [A.c .nil, A.c .ff]
  | some l => ∃ lab, v = V.tup [A.c (.sl lab l.length), A.c .tt] ∧ find L' lab = some ⟨lab, .vec 3 1, l.map C.i⟩
section
variable {P : Program} {n0 nx nac : Nat} {f : FuncId} {vs vs' : List V} {Lc L : List E} {R : Rn} {K : V → List E → Nat → Prop}
theorem CallK.chanN {o : Option (List Int)} (ho : o = none) (spec : Spec P f vs Lc nac (fun v L' _ => chanR o v L')) (hok : callB P f = true)
    (hv : renVs R vs = some vs') (hvw : ∀ v ∈ vs, v.wf nac) (hL : roL R nac L Lc) (hLc : injB [] Lc = true)
    (hK : K (V.tup [A.c .nil, A.c .ff]) [] nx) : CallK P n0 f vs' L nx K := by
  refine CallK.mk' hok spec hv hvw hL hLc ?_
  intro v L' nx' hw hq
  subst ho
  have hq : v = V.tup [A.c .nil, A.c .ff] := hq
  subst hq
  exact ⟨V.tup [A.c .nil, A.c .ff], [], nx, [], ⟨Nat.le_refl _, rfl, rfl, trivial, rfl, rfl⟩, hK⟩
theorem CallK.chanS {o : Option (List Int)} {l : List Int} (ho : o = some l) (spec : Spec P f vs Lc nac (fun v L' _ => chanR o v L')) (hok : callB P f = true)
    (hv : renVs R vs = some vs') (hvw : ∀ v ∈ vs, v.wf nac) (hL : roL R nac L Lc) (hLc : injB [] Lc = true)
    (hK : K (V.tup [A.c (.sl nx l.length), A.c .tt]) [⟨nx, .vec 3 1, l.map C.i⟩] (nx + 1)) : CallK P n0 f vs' L nx K := by
  refine CallK.mk' hok spec hv hvw hL hLc ?_
  intro v L' nx' hw hq
  subst ho
  obtain ⟨lab, rfl, hf⟩ := hq
  refine ⟨V.tup [A.c (.sl nx l.length), A.c .tt], [⟨nx, .vec 3 1, l.map C.i⟩], nx + 1, [(nx, some lab)], ⟨Nat.le_succ _, ?_, ?_, ⟨covE_some (renL_one _ _) (Nat.lt_succ_self nx) (wf_ints _ _) hf (ren_ints _ _), trivial⟩, rfl, ?_⟩, hK⟩
  · simp [V.ren, A.ren, C.ren, renL_one, seqO]
  · simp [V.chk, A.chk, C.chk, inLab_one]
  · simp only [List.all_cons, List.all_nil, Bool.and_true, inLab_one, Kd.isRo, Bool.not_false, Bool.true_and]
    exact chk_ints _ _
end
set_option maxRecDepth 10000 in
set_option maxHeartbeats 8000000 in
theorem channel_spec (W H : Int) (cs : List Int) (f : Int → Bool) (hok : CO W H cs) :
    Spec Try.prog 85 [chV W H cs.length] [⟨0, .ro 0, cs.map C.i⟩, ⟨1, .mp false .int (bmF f), []⟩] 2 (fun v L' _ => chanR (chanO W H cs.length (wetB cs f)) v L') := by
  have hlm : (cs.map C.i).length = cs.length := by simp
  obtain ⟨hW, hH, hcl, hcost⟩ := hok
  have hok : CO W H cs := ⟨hW, hH, hcl, hcost⟩
  have hn : (cs.length : Int) ≤ 100 := by have := Int.mul_le_mul hW.2 hH.2 (by omega) (by omega : (0:Int) ≤ 10); omega
  obtain ⟨h0, rfl⟩ : ∃ h0 : Nat, H = h0 := ⟨H.toNat, by omega⟩
  have hW0 : 0 < W := by omega
  have hfr := from_spec W h0 cs f (W - 1) hok (by omega)
  have hcho : chanO W h0 cs.length (wetB cs f) = chanD W h0 (distW W h0 cs.length (wetB cs f) (W - 1)) := rfl
  have hdom : ∀ {i m : Int}, distW W h0 cs.length (wetB cs f) (W - 1) i = some m → 0 ≤ i ∧ i < cs.length := fun h => (distW_dom hW0 hcl h).1
  have hbd : ∀ {i m : Int}, distW W h0 cs.length (wetB cs f) (W - 1) i = some m → 0 ≤ m ∧ m < cs.length := fun h => distW_bd hW0 hcl h
  have hnx : ∀ {i m : Int}, distW W h0 cs.length (wetB cs f) (W - 1) i = some m → 0 < m → ∃ k, nextC W h0 (distW W h0 cs.length (wetB cs f) (W - 1)) i (m - 1) = some k ∧ distW W h0 cs.length (wetB cs f) (W - 1) k = some (m - 1) ∧ k ∈ nearL W h0 false i := fun h h1 => nextC_some h h1
  obtain ⟨d, hd⟩ : ∃ d, d = distW W h0 cs.length (wetB cs f) (W - 1) := ⟨_, rfl⟩
  rw [← hd] at hcho hfr
  simp only [← hd] at hdom hbd hnx
  rw [hcho]
  unfold chanD
  rw [Int.toNat_natCast]
  clear hcho
  refine Spec.of tok Try.func85 rfl rfl rfl fun n0 cx => vc_ok tok ?_
  repeat ((conv => whnf); first | (refine And.intro (by first | omega | exact Nat.le_of_ble_eq_true rfl | (dsimp only [inK]; omega)) ?_) | refine Exists.intro _ (And.intro rfl ?_) | refine fun (K' : K3) hK' => ?_ | (refine hK' _ _ _ ?_; clear hK' K') | refine CallK.mapR (R := []) hfr (by kernel_rfl) rfl (by simp [V.wf, A.wf, C.wf, V.i]) ⟨roE_ints (l := 0) rfl (by omega) rfl (.inl rfl), roE_map (l := 1) rfl (by omega) rfl, trivial⟩ rfl ?_ | refine CallK.m ?_)
  refine Tri.loop (γ := Nat) (fun k => k ≤ h0) (fun k => [(1, V.c (.ptr 2 0)), (4, V.c (.ptr 4 0)), (5, V.i (bestC W d k)), (23, V.i h0), (24, V.i (k : Nat))])
    (fun k => [⟨4, .own 108, [.mp 3]⟩, ⟨3, .mp true .int (stepF d), []⟩, ⟨2, .own 65, [C.i W, C.i h0, .sl 0 cs.length, .mp 1]⟩, ⟨0, .ro 0, cs.map C.i⟩, ⟨1, .mp false .int (bmF f), []⟩]) 5 (fun k => h0 - k) 0 (R0 := []) ?_ ?_ ?_
  · omega
  · skip
    refine ⟨?_, ?_, rfl, rfl, by exact Nat.le_of_ble_eq_true rfl⟩
    · repeat (first | exact trivial | (refine And.intro (covS_syn (by rfl) rfl (by first | exact trivial | exact Nat.le_of_ble_eq_true rfl)) ?_))
    · repeat (first | exact trivial | refine And.intro (covE_mp rfl (Nat.le_of_ble_eq_true rfl) rfl rfl) ?_ | (refine And.intro (covE_id (Nat.le_of_ble_eq_true rfl) (by first | exact wf_ints _ _ | simp [C.wf]) rfl (by rfl)) ?_))
  · intro k hk
    refine vc_ok tok ?_
    by_cases hlt : k < h0
    · have hkw : 0 ≤ (k : Int) * W ∧ (k : Int) * W ≤ 100 := by
        have h1 : 0 ≤ (k : Int) * W := Int.mul_nonneg (by omega) (by omega)
        have h2 := Int.mul_le_mul (show (k : Int) ≤ 10 by omega) hW.2 (by omega) (by omega : (0:Int) ≤ 10)
        omega
      cases hdk : d ((k : Int) * W) with
      | none =>
        have hst : bestC W d (k + 1) = bestC W d k := by simp only [bestC, hdk]
        repeat ((conv => whnf); first | (refine And.intro (by first | omega | exact Nat.le_of_ble_eq_true rfl | (dsimp only [inK]; omega)) ?_) | with_reducible refine lkm (stepF_none hdk) ?_ | refine Exists.intro _ (And.intro rfl ?_) | refine br_t (by omega) ?_ | refine fun (K' : K3) hK' => ?_ | (refine hK' _ _ _ ?_; clear hK' K'))
        refine ⟨k + 1, [], by omega, by omega, ?_⟩
        refine ⟨?_, ?_, rfl, rfl, by exact Nat.le_of_ble_eq_true rfl⟩
        · repeat (first | exact trivial | (refine And.intro (covS_syn (by first | rfl | (refine congrArg some (congrArg V.i ?_); first | omega | exact hst.symm)) rfl (by first | exact trivial | exact Nat.le_of_ble_eq_true rfl)) ?_))
        · repeat (first | exact trivial | refine And.intro (covE_mp rfl (Nat.le_of_ble_eq_true rfl) rfl rfl) ?_ | (refine And.intro (covE_id (Nat.le_of_ble_eq_true rfl) (by first | exact wf_ints _ _ | simp [C.wf]) rfl (by rfl)) ?_))
      | some n =>
        have hb1 := hbd hdk
        rcases bestC_spec hW0 d k with ⟨h1, h2⟩ | ⟨b, n', h1, h2, h3⟩
        · have hst : bestC W d (k + 1) = k * W := by simp only [bestC, hdk, h1]; simp
          rw [h1]
          repeat ((conv => whnf); first | (refine And.intro (by first | omega | exact Nat.le_of_ble_eq_true rfl | (dsimp only [inK]; omega)) ?_) | with_reducible refine lkm (stepF_some hdk) ?_ | refine Exists.intro _ (And.intro rfl ?_) | refine br_t (by omega) ?_ | refine bs_t (by omega) ?_ | refine fun (K' : K3) hK' => ?_ | (refine hK' _ _ _ ?_; clear hK' K'))
          refine ⟨k + 1, [], by omega, by omega, ?_⟩
          refine ⟨?_, ?_, rfl, rfl, by exact Nat.le_of_ble_eq_true rfl⟩
          · repeat (first | exact trivial | (refine And.intro (covS_syn (by first | rfl | (refine congrArg some (congrArg V.i ?_); first | omega | exact hst.symm)) rfl (by first | exact trivial | exact Nat.le_of_ble_eq_true rfl)) ?_))
          · repeat (first | exact trivial | refine And.intro (covE_mp rfl (Nat.le_of_ble_eq_true rfl) rfl rfl) ?_ | (refine And.intro (covE_id (Nat.le_of_ble_eq_true rfl) (by first | exact wf_ints _ _ | simp [C.wf]) rfl (by rfl)) ?_))
        · have hb2 := hbd h3
          have hbw := hdom h3
          have hst : bestC W d (k + 1) = if n < n' then (k : Int) * W else (b : Int) * W := by
            simp only [bestC, hdk, h1, h3]; rw [if_neg (by omega)]
          rw [h1]
          by_cases hl : n < n'
          · rw [if_pos hl] at hst
            repeat ((conv => whnf); first | (refine And.intro (by first | omega | exact Nat.le_of_ble_eq_true rfl | (dsimp only [inK]; omega)) ?_) | with_reducible refine lkm (stepF_some hdk) ?_ | with_reducible refine lkm (stepF_some h3) ?_ | refine Exists.intro _ (And.intro rfl ?_) | refine br_t (by omega) ?_ | refine bs_f (by omega) ?_ | refine fun (K' : K3) hK' => ?_ | (refine hK' _ _ _ ?_; clear hK' K'))
            refine ⟨k + 1, [], by omega, by omega, ?_⟩
            refine ⟨?_, ?_, rfl, rfl, by exact Nat.le_of_ble_eq_true rfl⟩
            · repeat (first | exact trivial | (refine And.intro (covS_syn (by first | rfl | (refine congrArg some (congrArg V.i ?_); first | omega | exact hst.symm)) rfl (by first | exact trivial | exact Nat.le_of_ble_eq_true rfl)) ?_))
            · repeat (first | exact trivial | refine And.intro (covE_mp rfl (Nat.le_of_ble_eq_true rfl) rfl rfl) ?_ | (refine And.intro (covE_id (Nat.le_of_ble_eq_true rfl) (by first | exact wf_ints _ _ | simp [C.wf]) rfl (by rfl)) ?_))
          · rw [if_neg hl] at hst
            repeat ((conv => whnf); first | (refine And.intro (by first | omega | exact Nat.le_of_ble_eq_true rfl | (dsimp only [inK]; omega)) ?_) | with_reducible refine lkm (stepF_some hdk) ?_ | with_reducible refine lkm (stepF_some h3) ?_ | refine Exists.intro _ (And.intro rfl ?_) | refine br_t (by omega) ?_ | refine br_f (by omega) ?_ | refine bs_f (by omega) ?_ | refine fun (K' : K3) hK' => ?_ | (refine hK' _ _ _ ?_; clear hK' K'))
            refine ⟨k + 1, [], by omega, by omega, ?_⟩
            refine ⟨?_, ?_, rfl, rfl, by exact Nat.le_of_ble_eq_true rfl⟩
            · repeat (first | exact trivial | (refine And.intro (covS_syn (by first | rfl | (refine congrArg some (congrArg V.i ?_); first | omega | exact hst.symm)) rfl (by first | exact trivial | exact Nat.le_of_ble_eq_true rfl)) ?_))
            · repeat (first | exact trivial | refine And.intro (covE_mp rfl (Nat.le_of_ble_eq_true rfl) rfl rfl) ?_ | (refine And.intro (covE_id (Nat.le_of_ble_eq_true rfl) (by first | exact wf_ints _ _ | simp [C.wf]) rfl (by rfl)) ?_))
    · have hkw : k = h0 := by omega
      subst hkw
      rcases bestC_spec hW0 d k with ⟨h1, h2⟩ | ⟨b, nb, h1, h2, h3⟩
      · have hno : d (-1) = none := by
          cases hh : d (-1) with
          | none => rfl
          | some w => have := hdom hh; omega
        rw [h1, hno]
        repeat ((conv => whnf); first | refine br_t (by omega) ?_ | refine br_f (by omega) ?_ | refine fun (K' : K3) hK' => ?_ | (refine hK' _ _ _ ?_; clear hK' K'))
        rfl
      · have hb2 := hbd h3
        have hbw := hdom h3
        rw [h1, h3]
        repeat ((conv => whnf); first | (refine And.intro (by first | omega | exact Nat.le_of_ble_eq_true rfl | (dsimp only [inK]; omega)) ?_) | refine br_f (by omega) ?_ | refine fun (K' : K3) hK' => ?_ | (refine hK' _ _ _ ?_; clear hK' K'))
        refine Tri.loop (γ := List Int × Int × Nat) (fun g => ∃ n, d g.2.1 = some n ∧ g.1 ++ pathC W k d n.toNat g.2.1 = pathC W k d nb.toNat ((b : Int) * W) ∧ g.1.length = g.2.2 ∧ g.2.2 + n.toNat = nb.toNat) (fun g => [(1, V.c (.ptr 2 0)), (4, V.c (.ptr 4 0)), (10, V.c (.sl 5 (g.2.2 + 1))), (11, V.c (.ptr 6 0))])
          (fun g => [⟨5, .vec 3 1, (g.1 ++ [g.2.1]).map C.i⟩, ⟨6, .own 3, [C.i g.2.1]⟩, ⟨4, .own 108, [.mp 3]⟩, ⟨3, .mp true .int (stepF d), []⟩, ⟨2, .own 65, [C.i W, C.i k, .sl 0 cs.length, .mp 1]⟩, ⟨0, .ro 0, cs.map C.i⟩, ⟨1, .mp false .int (bmF f), []⟩]) 13 (fun g => match d g.2.1 with | some n => n.toNat | none => 0) ([], (b : Int) * W, 0) (R0 := []) ?_ ?_ ?_
        · exact ⟨nb, h3, rfl, rfl, by simp⟩
        · skip
          refine ⟨?_, ?_, rfl, rfl, by exact Nat.le_of_ble_eq_true rfl⟩
          · repeat (first | exact trivial | refine And.intro (covS_syn (by rfl) rfl (by exact Nat.le_of_ble_eq_true rfl)) ?_)
          · repeat (first | exact trivial | refine And.intro (covE_mp rfl (Nat.le_of_ble_eq_true rfl) rfl rfl) ?_ | (refine And.intro (covE_id (Nat.le_of_ble_eq_true rfl) (by first | exact wf_ints _ _ | simp [C.wf]) rfl (by rfl)) ?_))
        · rintro ⟨pre, at_, m⟩ ⟨n, hw, hp, hlen, hlen2⟩
          simp only at hw hp hlen hlen2 ⊢
          have hwd := hbd hw
          have hat := hdom hw
          refine vc_ok tok ?_
          by_cases h1w : 0 < n
          · obtain ⟨kn, hkn, hdn, hknm⟩ := hnx hw h1w
            obtain ⟨a, rfl⟩ : ∃ a : Nat, at_ = a := ⟨at_.toNat, by omega⟩
            have hfu : n.toNat = (n - 1).toNat + 1 := by omega
            have hstep : pathC W k d n.toNat a = (a : Int) :: pathC W k d (n - 1).toNat kn := by
              rw [hfu]; simp only [pathC, hw, hkn]; rw [if_pos (by omega)]
            repeat ((conv => whnf); first | refine And.intro (by omega) ?_ | with_reducible refine lkm (stepF_some hw) ?_ | refine Exists.intro _ (And.intro rfl ?_) | refine br_t (by omega) ?_ | refine fun (K' : K3) hK' => ?_ | (refine hK' _ _ _ ?_; clear hK' K') | refine CallK.fresh (by kernel_rfl) (near_spec _ _ _ _) rfl ?_ | refine CallK.m ?_)
            refine Tri.opq fun K' hK' => ?_
            refine Tri.near (R0 := []) (W := W) (H := k) (n := cs.length) (i := (a : Int)) (e := false) (fun pre0 => ∀ x ∈ pre0, (decide (d x = some (n - 1))) = false)
              (fun _ => [⟨5, .vec 3 1, (pre ++ [(a : Int)]).map C.i⟩, ⟨6, .own 3, [C.i (a : Int)]⟩, ⟨4, .own 108, [.mp 3]⟩, ⟨3, .mp true .int (stepF d), []⟩, ⟨2, .own 65, [C.i W, C.i k, .sl 0 cs.length, .mp 1]⟩, ⟨0, .ro 0, cs.map C.i⟩, ⟨1, .mp false .int (bmF f), []⟩])
              (fun x hx => by cases hx) (by omega) (by omega) (by omega) (by exact rfl) (by exact rfl) (by exact rfl) ?_ ?_ ?_
            · intro oo
              refine ⟨?_, ?_, rfl, rfl, by exact Nat.le_of_ble_eq_true rfl⟩
              · repeat (exact trivial)
              · repeat (first | exact trivial | refine And.intro (covE_b1 (b := false) (Nat.le_of_ble_eq_true rfl) rfl rfl rfl) ?_ | refine And.intro (covE_mp rfl (Nat.le_of_ble_eq_true rfl) rfl rfl) ?_ | (refine And.intro (covE_id (Nat.le_of_ble_eq_true rfl) (by first | exact wf_ints _ _ | simp [C.wf]) rfl (by rfl)) ?_))
            · intro oo ob od pre0 post kk hsp hk0 hk1 hI cxb hcx
              have next : decide (d kk = some (n - 1)) = false → ∀ x ∈ pre0 ++ [kk], decide (d x = some (n - 1)) = false := fun h x hx => by
                rcases List.mem_append.1 hx with hx | hx
                · exact hI x hx
                · rw [List.mem_singleton.1 hx]; exact h
              refine vc_ok tok ?_
              repeat ((conv => whnf); first | refine fun (K' : K3) hK' => ?_ | (refine hK' _ _ _ ?_; clear hK' K') | refine And.intro (Eq.refl oo) ?_)
              refine vc_ok tok ?_
              cases hdk : d kk with
              | none =>
                repeat ((conv => whnf); first | refine And.intro (by omega) ?_ | with_reducible refine lkm (stepF_none hdk) ?_ | refine Exists.intro _ (And.intro rfl ?_) | refine fun (K' : K3) hK' => ?_ | (refine hK' _ _ _ ?_; clear hK' K') | refine And.intro (Eq.refl ob) ?_)
                refine .inl ⟨rfl, next (by rw [hdk]; simp), [], rfl, ?_⟩
                refine ⟨?_, ?_, rfl, rfl, by exact Nat.le_of_ble_eq_true rfl⟩
                · repeat (exact trivial)
                · repeat (first | exact trivial | refine And.intro (covE_mp rfl (Nat.le_of_ble_eq_true rfl) rfl rfl) ?_ | (refine And.intro (covE_id (Nat.le_of_ble_eq_true rfl) (by first | exact wf_ints _ _ | simp [C.wf]) rfl (by rfl)) ?_))
              | some wk =>
                have hwk := hbd hdk
                by_cases heq : wk = n - 1
                · have hkk : kn = kk := by
                    have := find_first (p := fun x => decide (d x = some (n - 1))) hsp hI (by simp [hdk, heq])
                    unfold nextC at hkn
                    rw [this] at hkn; cases hkn; rfl
                  repeat ((conv => whnf); first | (refine And.intro (by first | omega | exact Nat.le_of_ble_eq_true rfl | (dsimp only [inK]; omega)) ?_) | with_reducible refine lkm (stepF_some hdk) ?_ | with_reducible refine lkm (stepF_some hw) ?_ | refine Exists.intro _ (And.intro rfl ?_) | refine br_t (by omega) ?_ | refine fun (K' : K3) hK' => ?_ | (refine hK' _ _ _ ?_; clear hK' K') | refine And.intro (Eq.refl ob) ?_)
                  refine .inr ⟨rfl, .inr (.inr ⟨4, ?_⟩)⟩
                  refine And.intro (Eq.refl (od (Code.exit 4))) ?_
                  conv => whnf
                  refine hK' _ _ _ _ ?_
                  repeat ((conv => whnf); first | (refine And.intro (by first | omega | exact Nat.le_of_ble_eq_true rfl | (dsimp only [inK]; omega) | (exact ⟨rfl, rfl, rfl, Nat.le_of_ble_eq_true rfl, by simp; omega, by exact Nat.le_of_ble_eq_true rfl, by omega, Nat.le_of_ble_eq_true rfl⟩)) ?_) | refine Exists.intro _ (And.intro rfl ?_) | refine fun (K' : K3) hK' => ?_ | (refine hK' _ _ _ ?_; clear hK' K'))
                  subst hkk
                  refine ⟨(pre ++ [(a : Int)], kn, m + 1), [(5, some 42), (6, some 43)], ⟨_, hdn, ?_, by simp [hlen], by simp only; omega⟩, ?_, ?_⟩
                  · rw [← hp, hstep]; simp
                  · simp only [hdn, hw]; omega
                  · skip
                    refine ⟨?_, ?_, rfl, rfl, by exact Nat.le_of_ble_eq_true rfl⟩
                    · repeat (first | exact trivial | refine And.intro (covS_syn (by rfl) rfl (by exact Nat.le_of_ble_eq_true rfl)) ?_)
                    · repeat (first | exact trivial | refine And.intro (covE_mp rfl (Nat.le_of_ble_eq_true rfl) rfl rfl) ?_ | (refine And.intro (covE_some rfl (Nat.le_of_ble_eq_true rfl) (by first | exact wf_ints _ _ | simp [C.wf]) rfl (by first | exact ren_ints _ _ | (refine (ren_ints _ _).trans (congrArg some ?_); rw [List.map_append]; rfl) | rfl)) ?_))
                · repeat ((conv => whnf); first | (refine And.intro (by first | omega | (dsimp only [inK]; omega)) ?_) | with_reducible refine lkm (stepF_some hdk) ?_ | with_reducible refine lkm (stepF_some hw) ?_ | refine Exists.intro _ (And.intro rfl ?_) | refine br_f (by omega) ?_ | refine fun (K' : K3) hK' => ?_ | (refine hK' _ _ _ ?_; clear hK' K') | refine And.intro (Eq.refl ob) ?_)
                  refine .inl ⟨rfl, next ?_, [], rfl, ?_⟩
                  · rw [hdk]; simp [heq]
                  · skip
                    refine ⟨?_, ?_, rfl, rfl, by exact Nat.le_of_ble_eq_true rfl⟩
                    · repeat (exact trivial)
                    · repeat (first | exact trivial | refine And.intro (covE_mp rfl (Nat.le_of_ble_eq_true rfl) rfl rfl) ?_ | (refine And.intro (covE_id (Nat.le_of_ble_eq_true rfl) (by first | exact wf_ints _ _ | simp [C.wf]) rfl (by rfl)) ?_))
            · intro oo od hI
              have := hI kn hknm
              rw [hdn] at this; simp at this
          · have hone : pathC W k d n.toNat at_ = [at_] := by
              rw [show n.toNat = 0 by omega]; rfl
            rw [hone] at hp
            repeat ((conv => whnf); first | refine And.intro (by omega) ?_ | with_reducible refine lkm (stepF_some hw) ?_ | refine Exists.intro _ (And.intro rfl ?_) | refine br_f (by omega) ?_ | refine fun (K' : K3) hK' => ?_ | (refine hK' _ _ _ ?_; clear hK' K'))
            refine ⟨5, ?_, ?_⟩
            · rw [← hp, List.length_append, hlen]; rfl
            · rw [← hp]; rfl
theorem blocks_spec (W H : Int) (cs : List Int) (f : Int → Bool) (hok : CO W H cs) :
    Spec Try.prog 83 [chV W H cs.length] [⟨0, .ro 0, cs.map C.i⟩, ⟨1, .mp false .int (bmF f), []⟩] 2 (Is (V.c (.bool (chanO W H cs.length (wetB cs f)).isNone))) := by
  have hch := channel_spec W H cs f hok
  refine Spec.of tok Try.func83 rfl rfl rfl fun n0 cx => vc_ok tok ?_
  cases ho : chanO W H cs.length (wetB cs f) with
  | none =>
    repeat ((conv => whnf); first | refine Exists.intro _ (And.intro rfl ?_) | refine fun (K' : K3) hK' => ?_ | (refine hK' _ _ _ ?_; clear hK' K') | refine CallK.chanN (R := []) ho hch (by kernel_rfl) rfl (by simp [V.wf, A.wf, C.wf]) ⟨roE_ints (l := 0) rfl (by omega) rfl (.inl rfl), roE_map (l := 1) rfl (by omega) rfl, trivial⟩ rfl ?_ | refine CallK.m ?_)
    intro ρ; rfl
  | some l =>
    repeat ((conv => whnf); first | refine Exists.intro _ (And.intro rfl ?_) | refine fun (K' : K3) hK' => ?_ | (refine hK' _ _ _ ?_; clear hK' K') | refine CallK.chanS (R := []) ho hch (by kernel_rfl) rfl (by simp [V.wf, A.wf, C.wf]) ⟨roE_ints (l := 0) rfl (by omega) rfl (.inl rfl), roE_map (l := 1) rfl (by omega) rfl, trivial⟩ rfl ?_ | refine CallK.m ?_)
    intro ρ; rfl
noncomputable def chC (W H : Int) (cs : List Int) (bs : List Cell) : List Cell := if okC W H cs && okB W H cs bs then (match chanO W H cs.length (wetB cs (boomF W H bs)) with | none => [] | some l => cellsL W l) else []
noncomputable def chE (W H : Int) (cs : List Int) (bs : List Cell) : Int := if okC W H cs then (if okB W H cs bs then (match chanO W H cs.length (wetB cs (boomF W H bs)) with | none => 5 | some _ => 0) else 2) else 30
noncomputable def blB (W H : Int) (cs : List Int) (bs : List Cell) : Bool := (okC W H cs && okB W H cs bs) && (chanO W H cs.length (wetB cs (boomF W H bs))).isNone
def blE (W H : Int) (cs : List Int) (bs : List Cell) : Int := if okC W H cs then (if okB W H cs bs then 0 else 2) else 30
theorem pBlocks_spec (W H : Int) (cs : List Int) (bs : List Cell) (hl : cs.length ≤ 300) (hb : bs.length ≤ 300) :
    Spec Try.prog 42 [chR W H cs.length, V.c (.sl 1 bs.length)] [⟨0, .ro 0, cs.map C.i⟩, ⟨1, .ro 0, cellC bs⟩] 2 (Is (V.tup [A.c (.bool (blB W H cs bs)), A.c (C.i (blE W H cs bs))])) := by
  unfold blB blE
  refine Spec.of tok Try.func42 rfl rfl rfl fun n0 cx => vc_ok tok ?_
  cases hv : okC W H cs with
  | false =>
    repeat ((conv => whnf); first | (refine And.intro (by first | omega | exact Nat.le_of_ble_eq_true rfl) ?_) | refine Exists.intro _ (And.intro rfl ?_) | refine br_t (by omega) ?_ | refine fun (K' : K3) hK' => ?_ | (refine hK' _ _ _ ?_; clear hK' K') | refine CallK.newNo (a := 0) (bs := bs) (R := []) 30 hl hb (.inl ⟨hv, rfl⟩) rfl rfl ⟨roE_ints (l := 0) rfl (by omega) rfl (.inl rfl), roE_cells (l := 1) rfl (by omega) rfl (.inl rfl), trivial⟩ ?_ | refine CallK.m ?_)
    intro ρ; rfl
  | true =>
    cases hB : okB W H cs bs with
    | false =>
      repeat ((conv => whnf); first | (refine And.intro (by first | omega | exact Nat.le_of_ble_eq_true rfl) ?_) | refine Exists.intro _ (And.intro rfl ?_) | refine br_t (by omega) ?_ | refine fun (K' : K3) hK' => ?_ | (refine hK' _ _ _ ?_; clear hK' K') | refine CallK.newNo (a := 0) (bs := bs) (R := []) 2 hl hb (.inr ⟨hv, hB, rfl⟩) rfl rfl ⟨roE_ints (l := 0) rfl (by omega) rfl (.inl rfl), roE_cells (l := 1) rfl (by omega) rfl (.inl rfl), trivial⟩ ?_ | refine CallK.m ?_)
      intro ρ; rfl
    | true =>
      have hbl := blocks_spec W H cs (boomF W H bs) (okC_iff.1 hv)
      repeat ((conv => whnf); first | (refine And.intro (by first | omega | exact Nat.le_of_ble_eq_true rfl) ?_) | refine Exists.intro _ (And.intro rfl ?_) | refine br_f (by omega) ?_ | refine fun (K' : K3) hK' => ?_ | (refine hK' _ _ _ ?_; clear hK' K') | refine CallK.newOk (a := 0) (bs := bs) (R := []) hl hb hv hB rfl rfl (by omega) ⟨roE_ints (l := 0) rfl (by omega) rfl (.inl rfl), roE_cells (l := 1) rfl (by omega) rfl (.inl rfl), trivial⟩ ?_ | refine CallK.val (R := [(1, some 3)]) hbl (by kernel_rfl) rfl (by simp [V.wf, A.wf, C.wf]) ⟨roE_ints (l := 0) rfl (by omega) rfl (.inl rfl), roE_map (l := 3) rfl (by omega) rfl, trivial⟩ rfl rfl trivial ?_ | refine CallK.m ?_)
      intro ρ; rfl
/-- The channel's cells are of the chart. -/
theorem pathC_in {W H : Int} {n : Nat} {wet : Int → Bool} {col : Int} (hW : 0 < W) (hn : (n : Int) = W * H) : ∀ (f : Nat) {i m : Int}, distW W H n wet col i = some m → m.toNat ≤ f → (∀ x ∈ pathC W H (distW W H n wet col) f i, ∃ u, distW W H n wet col x = some u) ∧ (pathC W H (distW W H n wet col) f i).length = m.toNat + 1
  | 0, i, m, h, hf => by
    refine ⟨fun x hx => ?_, by simp [pathC]; omega⟩
    simp only [pathC, List.mem_singleton] at hx
    exact ⟨m, hx ▸ h⟩
  | f + 1, i, m, h, hf => by
    by_cases h0 : 0 < m
    · obtain ⟨k, hk, hd, _⟩ := nextC_some h h0
      obtain ⟨i1, i2⟩ := pathC_in hW hn f hd (by omega)
      have hp : pathC W H (distW W H n wet col) (f + 1) i = i :: pathC W H (distW W H n wet col) f k := by simp only [pathC, h, hk]; rw [if_pos (by omega)]
      rw [hp]
      refine ⟨fun x hx => ?_, by simp [i2]; omega⟩
      rcases List.mem_cons.1 hx with rfl | hx
      · exact ⟨m, h⟩
      · exact i1 x hx
    · have hp : pathC W H (distW W H n wet col) (f + 1) i = [i] := by simp only [pathC, h]; rw [if_neg (by omega)]
      rw [hp]
      refine ⟨fun x hx => ?_, by simp; omega⟩
      rw [List.mem_singleton.1 hx]; exact ⟨m, h⟩
theorem chan_in {W H : Int} {n : Nat} {wet : Int → Bool} (hW : 0 < W) (hn : (n : Int) = W * H) {l : List Int} (h : chanO W H n wet = some l) : (∀ x ∈ l, 0 ≤ x ∧ x < n) ∧ l.length ≤ n := by
  unfold chanO chanD at h
  cases hd : distW W H n wet (W - 1) (bestC W (distW W H n wet (W - 1)) H.toNat) with
  | none => rw [hd] at h; cases h
  | some m =>
    rw [hd] at h
    cases h
    obtain ⟨h1, h2⟩ := pathC_in hW hn m.toNat hd (Nat.le_refl _)
    refine ⟨fun x hx => ?_, ?_⟩
    · obtain ⟨u, hu⟩ := h1 x hx
      exact (distW_dom hW hn hu).1
    · have := distW_bd hW hn hd
      rw [h2]; omega
theorem pChannel_spec (W H : Int) (cs : List Int) (bs : List Cell) (hl : cs.length ≤ 300) (hb : bs.length ≤ 300) :
    Spec Try.prog 45 [chR W H cs.length, V.c (.sl 1 bs.length)] [⟨0, .ro 0, cs.map C.i⟩, ⟨1, .ro 0, cellC bs⟩] 2 (fun v L' _ => cellsE (chC W H cs bs) (chE W H cs bs) v L') := by
  unfold chC chE
  refine Spec.of tok Try.func45 rfl rfl rfl fun n0 cx => vc_ok tok ?_
  cases hv : okC W H cs with
  | false =>
    repeat ((conv => whnf); first | (refine And.intro (by first | omega | exact Nat.le_of_ble_eq_true rfl) ?_) | refine Exists.intro _ (And.intro rfl ?_) | refine br_t (by omega) ?_ | refine fun (K' : K3) hK' => ?_ | (refine hK' _ _ _ ?_; clear hK' K') | refine CallK.newNo (a := 0) (bs := bs) (R := []) 30 hl hb (.inl ⟨hv, rfl⟩) rfl rfl ⟨roE_ints (l := 0) rfl (by omega) rfl (.inl rfl), roE_cells (l := 1) rfl (by omega) rfl (.inl rfl), trivial⟩ ?_ | refine CallK.m ?_)
    exact .inl ⟨rfl, rfl⟩
  | true =>
    cases hB : okB W H cs bs with
    | false =>
      repeat ((conv => whnf); first | (refine And.intro (by first | omega | exact Nat.le_of_ble_eq_true rfl) ?_) | refine Exists.intro _ (And.intro rfl ?_) | refine br_t (by omega) ?_ | refine fun (K' : K3) hK' => ?_ | (refine hK' _ _ _ ?_; clear hK' K') | refine CallK.newNo (a := 0) (bs := bs) (R := []) 2 hl hb (.inr ⟨hv, hB, rfl⟩) rfl rfl ⟨roE_ints (l := 0) rfl (by omega) rfl (.inl rfl), roE_cells (l := 1) rfl (by omega) rfl (.inl rfl), trivial⟩ ?_ | refine CallK.m ?_)
      exact .inl ⟨rfl, rfl⟩
    | true =>
      have hok := okC_iff.1 hv
      have hch := channel_spec W H cs (boomF W H bs) hok
      cases ho : chanO W H cs.length (wetB cs (boomF W H bs)) with
      | none =>
        repeat ((conv => whnf); first | (refine And.intro (by first | omega | exact Nat.le_of_ble_eq_true rfl) ?_) | refine Exists.intro _ (And.intro rfl ?_) | refine br_f (by omega) ?_ | refine fun (K' : K3) hK' => ?_ | (refine hK' _ _ _ ?_; clear hK' K') | refine CallK.newOk (a := 0) (bs := bs) (R := []) hl hb hv hB rfl rfl (by omega) ⟨roE_ints (l := 0) rfl (by omega) rfl (.inl rfl), roE_cells (l := 1) rfl (by omega) rfl (.inl rfl), trivial⟩ ?_ | refine CallK.chanN (R := [(1, some 3)]) ho hch (by kernel_rfl) rfl (by simp [V.wf, A.wf, C.wf]) ⟨roE_ints (l := 0) rfl (by omega) rfl (.inl rfl), roE_map (l := 3) rfl (by omega) rfl, trivial⟩ rfl ?_ | refine CallK.m ?_)
        exact .inl ⟨rfl, rfl⟩
      | some l =>
        have hW := hok.w
        have hlen := hok.len
        obtain ⟨hin, hln⟩ := chan_in (by omega) hlen ho
        have hce := cells_spec W H cs.length l (by omega) (by omega) (fun k hk => by have := hin _ (getD_mem hk); omega)
        repeat ((conv => whnf); first | (refine And.intro (by first | omega | exact Nat.le_of_ble_eq_true rfl) ?_) | refine Exists.intro _ (And.intro rfl ?_) | refine br_f (by omega) ?_ | refine fun (K' : K3) hK' => ?_ | (refine hK' _ _ _ ?_; clear hK' K') | refine CallK.newOk (a := 0) (bs := bs) (R := []) hl hb hv hB rfl rfl (by omega) ⟨roE_ints (l := 0) rfl (by omega) rfl (.inl rfl), roE_cells (l := 1) rfl (by omega) rfl (.inl rfl), trivial⟩ ?_ | refine CallK.chanS (R := [(1, some 3)]) ho hch (by kernel_rfl) rfl (by simp [V.wf, A.wf, C.wf]) ⟨roE_ints (l := 0) rfl (by omega) rfl (.inl rfl), roE_map (l := 3) rfl (by omega) rfl, trivial⟩ rfl ?_ | refine CallK.cellsR (R := [(1, some 3), (2, some 5)]) hce (by kernel_rfl) rfl (by simp [V.wf, A.wf, C.wf]) ⟨roE_ints (l := 5) rfl (by omega) rfl (.inl rfl), trivial⟩ rfl ?_ | refine CallK.m ?_)
        exact .inr ⟨_, rfl, rfl⟩
end Go.Proofs.Ytbhpnhcdjmcaoaa

/- Boom, plain: rows of bools, and the steps level by level. -/
namespace Go.Proofs.Ytbhpnhcdjmcaoaa
open Go.RowKit
set_option linter.unusedVariables false
set_option linter.unusedSimpArgs false
def bL (n : Nat) (g : Int → Bool) : List Bool := (List.range n).map fun i : Nat => g (i : Int)
def updG (g : Int → Bool) (k : Int) (b : Bool) : Int → Bool := fun i => if i = k then b else g i
/-- What is open: the first k cells told; then the booms told. -/
def opA (cs : List Int) (k : Nat) (i : Int) : Bool := decide (i < k) && decide (cs.getD i.toNat 0 ≥ 0)
def opB (W H : Int) (cs : List Int) (bs : List Cell) (j : Nat) (i : Int) : Bool := decide (cs.getD i.toNat 0 ≥ 0) && !boomP W H bs j i
/-- Booms that are in order are of the chart. -/
theorem okB_on {W H : Int} {cs : List Int} {bs : List Cell} (hW : 0 < W) (h : okB W H cs bs = true) : ∀ k, k < bs.length → onB W H (bs.getD k (0, 0)).1 (bs.getD k (0, 0)).2 = true := fun k hk => by
  unfold okB okBk at h
  have := List.all_eq_true.1 h k (List.mem_range.2 hk)
  unfold badK at this
  simp only [Bool.not_eq_true', Bool.or_eq_false_iff, decide_eq_false_iff_not] at this
  exact idx_on (by omega) hW
/-- The steps that are at most so many, and one more of each. -/
def lvl (d : Int → Option Int) (t i : Int) : Int := match d i with
  | some m => if m + 1 ≤ t then m + 1 else 0
  | none => 0
def lef (d : Int → Option Int) (i : Int) : Int := match d i with
  | some m => m + 1
  | none => 0
def iL (n : Nat) (g : Int → Int) : List Int := (List.range n).map fun i : Nat => g (i : Int)
theorem iL_len (n : Nat) (g : Int → Int) : (iL n g).length = n := by simp [iL]
theorem iL_of {L : List Int} {n : Nat} {g : Int → Int} (hl : L.length = n) (h : ∀ i : Nat, i < n → hL L i = g i) : L = iL n g := by
  apply List.ext_getElem
  · rw [hl, iL_len]
  · intro j h1 h2
    have := h j (by omega)
    unfold hL at this
    rw [Int.toNat_natCast, List.getD_eq_getElem?_getD, List.getElem?_eq_getElem h1] at this
    simp only [iL, List.getElem_map, List.getElem_range]
    exact this
section
variable {W H : Int} {n : Nat} {wet : Int → Bool} {col : Int}
/-- A level under way: the cells in front of j have told theirs, j has told those of pre. -/
structure LI (W H : Int) (n : Nat) (wet : Int → Bool) (d : Int → Option Int) (t : Int) (j : Int) (pre : List Int) (L : List Int) : Prop where
  len : L.length = n
  val : ∀ i : Int, 0 ≤ i → i < n → hL L i = lvl d t i ∨ (hL L i = t + 1 ∧ d i = some t)
  done : ∀ i : Int, 0 ≤ i → i ≤ j → d i = some (t - 1) → ∀ k ∈ nbW W H n wet i, (i = j → k ∈ pre) → hL L k ≠ 0
theorem LI.told {d : Int → Option Int} {t j : Int} {pre L : List Int} (h : LI W H n wet d t j pre L) (ht : 1 ≤ t) (h0 : 0 ≤ j) (hj : j < n) : hL L j = t ↔ d j = some (t - 1) := by
  rcases h.val j h0 hj with h1 | ⟨h1, h2⟩
  · rw [h1]
    unfold lvl
    cases hd : d j with
    | none => simp only; exact ⟨fun e => by omega, fun e => by cases e⟩
    | some m =>
      simp only [Option.some.injEq]
      split <;> omega
  · rw [h1, h2, Option.some.injEq]; omega
theorem LI.row {d : Int → Option Int} {t j : Int} {pre L : List Int} (h : LI W H n wet d t j pre L) (hj : -1 ≤ j) (hall : d j = some (t - 1) → ∀ k ∈ nbW W H n wet j, k ∈ pre) : LI W H n wet d t (j + 1) [] L := by
  refine ⟨h.len, h.val, fun i h0 h1 hd k hk hp => ?_⟩
  by_cases he : i = j + 1
  · have := hp he; cases this
  · exact h.done i h0 (by omega) hd k hk (fun e => hall (e ▸ hd) k (e ▸ hk))
theorem LI.skip {d : Int → Option Int} {t j k : Int} {pre L : List Int} (h : LI W H n wet d t j pre L) (hk : k ∈ nbW W H n wet j → hL L k ≠ 0) : LI W H n wet d t j (pre ++ [k]) L := by
  refine ⟨h.len, h.val, fun i h0 h1 hd k' hk' hp => ?_⟩
  by_cases he : i = j ∧ k' = k
  · obtain ⟨rfl, rfl⟩ := he; exact hk hk'
  · exact h.done i h0 h1 hd k' hk' (fun e => by
      rcases List.mem_append.1 (hp e) with hh | hh
      · exact hh
      · exact absurd ⟨e, List.mem_singleton.1 hh⟩ he)
theorem lvl_pos {d : Int → Option Int} {t i m : Int} (hd : d i = some m) (h0 : 0 ≤ m) : lvl d t i = 0 → t < m + 1 := by
  unfold lvl; rw [hd]; simp only; split <;> omega
theorem LI.put (hW : 0 < W) (hn : (n : Int) = W * H) {t j k : Int} {pre L : List Int} (h : LI W H n wet (distW W H n wet col) t j pre L) (ht : 1 ≤ t) (hj : distW W H n wet col j = some (t - 1)) (hk : k ∈ nbW W H n wet j) (h0 : hL L k = 0) :
    LI W H n wet (distW W H n wet col) t j (pre ++ [k]) (L.set k.toNat (t + 1)) := by
  have hD := distO_is (iniW W n wet col) (nbW W H n wet)
  have hin := nbW_in hW hn j k hk
  have hdk : distW W H n wet col k = some t := by
    obtain ⟨l, h1, h2⟩ := hD.sound j (t - 1) hj
    obtain ⟨m, h3, h4⟩ := hD.comp k (j :: l) ⟨nbW_sym hW hn j k hk, h1⟩
    have h3' : distW W H n wet col k = some m := h3
    have hp := hD.pos h3
    rcases h.val k hin.2.1 hin.2.2 with h5 | ⟨h5, _⟩
    · have := lvl_pos h3' hp (by rw [← h5]; exact h0)
      rw [h3']; congr 1; simp at h4; omega
    · omega
  have hset := fun i (hi : 0 ≤ i) => hL_set (hs := L) (b := k) (j := i) (x := t + 1) hin.2.1 hi (by rw [h.len]; exact hin.2.2)
  refine ⟨by rw [List.length_set, h.len], fun i i0 i1 => ?_, fun i i0 i1 hd k' hk' hp => ?_⟩
  · rw [hset i i0]
    by_cases he : i = k
    · subst he; rw [if_pos rfl]; exact .inr ⟨rfl, hdk⟩
    · rw [if_neg he]; exact h.val i i0 i1
  · have hin' := nbW_in hW hn i k' hk'
    rw [hset k' hin'.2.1]
    by_cases he : k' = k
    · rw [if_pos he]; omega
    · rw [if_neg he]
      exact h.done i i0 i1 hd k' hk' (fun e => by
        rcases List.mem_append.1 (hp e) with hh | hh
        · exact hh
        · exact absurd (List.mem_singleton.1 hh) he)
theorem LI.last (hW : 0 < W) (hn : (n : Int) = W * H) {t : Int} {L : List Int} {pre : List Int} (h : LI W H n wet (distW W H n wet col) t n pre L) (ht : 1 ≤ t) : L = iL n (lvl (distW W H n wet col) (t + 1)) := by
  have hD := distO_is (iniW W n wet col) (nbW W H n wet)
  refine iL_of h.len fun i hi => ?_
  rcases h.val i (by omega) (by omega) with h1 | ⟨h1, h2⟩
  · rw [h1]
    unfold lvl
    cases hd : distW W H n wet col i with
    | none => rfl
    | some m =>
      have hp := hD.pos (show distO (iniW W n wet col) (nbW W H n wet) i = some m from hd)
      simp only
      by_cases hm : m + 1 ≤ t
      · rw [if_pos hm, if_pos (by omega)]
      · rw [if_neg hm]
        by_cases hm2 : m = t
        · exfalso
          obtain ⟨k, hk, hdk⟩ := hD.next (show distO (iniW W n wet col) (nbW W H n wet) i = some m from hd) (by omega)
          have hin := nbW_in hW hn i k hk
          have hz := h.done k hin.2.1 (by omega) (by rw [← hm2]; exact hdk) i (nbW_sym hW hn i k hk) (fun e => by omega)
          apply hz
          rw [h1]; unfold lvl; rw [hd]; simp only; rw [if_neg hm]
        · rw [if_neg (by omega)]
  · rw [h1]
    unfold lvl
    rw [h2]; simp only; rw [if_pos (by omega)]
/-- The last column, the first k rows of it. -/
def colK (W : Int) (n : Nat) (wet : Int → Bool) (col : Int) (k : Nat) (i : Int) : Int := if iniW W n wet col i = true ∧ i / W < k then 1 else 0
end
end Go.Proofs.Ytbhpnhcdjmcaoaa

/- Boom, the reference: what is open, and how many cells are left. -/
namespace Go.Proofs.Ytbhpnhcdjmcaoaa
open Go.RowKit
set_option linter.unusedVariables false
set_option linter.unusedSimpArgs false
def boolsR (l : List Bool) (v : V) (L' : List E) : Prop := ∃ lab, v = V.c (.sl lab l.length) ∧ find L' lab = some ⟨lab, .vec 4 1, l.map C.bool⟩
theorem chk_bools (p : Nat → Bool) (l : List Bool) : (l.map C.bool).all (C.chk p) = true := List.all_eq_true.2 fun c hc => by
  obtain ⟨b, _, rfl⟩ := List.mem_map.1 hc; rfl
theorem CallK.boolsR {P : Program} {n0 nx nac : Nat} {f : FuncId} {vs vs' : List V} {Lc L : List E} {R : Rn} {K : V → List E → Nat → Prop} {l : List Bool} (spec : Spec P f vs Lc nac (fun v L' _ => boolsR l v L')) (hok : callB P f = true)
    (hv : renVs R vs = some vs') (hvw : ∀ v ∈ vs, v.wf nac) (hL : roL R nac L Lc) (hLc : injB [] Lc = true)
    (hK : K (V.c (.sl nx l.length)) [⟨nx, .vec 4 1, l.map C.bool⟩] (nx + 1)) : CallK P n0 f vs' L nx K := by
  refine CallK.mk' hok spec hv hvw hL hLc ?_
  rintro v L' nx' hw ⟨lab, rfl, hf⟩
  refine ⟨V.c (.sl nx l.length), [⟨nx, .vec 4 1, l.map C.bool⟩], nx + 1, [(nx, some lab)], ⟨Nat.le_succ _, ?_, ?_, ⟨covE_some (renL_one _ _) (Nat.lt_succ_self nx) (wf_bools _ _) hf (ren_bools _ _), trivial⟩, rfl, ?_⟩, hK⟩
  · simp only [V.ren, A.ren, C.ren, renL_one]
  · simp only [V.chk, A.chk, C.chk]; exact inLab_one nx
  · simp only [List.all_cons, List.all_nil, Bool.and_true, inLab_one, Kd.isRo, Bool.not_false, Bool.true_and]
    exact chk_bools _ _
end Go.Proofs.Ytbhpnhcdjmcaoaa

/- Boom: charts that are told cell by cell. -/
namespace Go.Proofs.Ytbhpnhcdjmcaoaa
open Go.RowKit
set_option linter.unusedVariables false
set_option linter.unusedSimpArgs false
theorem fn_wf3 {nx : Nat} {f : FuncId} {caps : List (Nat × Nat)} (h : (caps.all fun p => Nat.blt p.1 nx) = true) : (V.c (.fn f caps)).wf nx := fun p hp => Nat.le_of_ble_eq_true (List.all_eq_true.1 h p hp)
theorem chk_rowA (p : Nat → Bool) (l : List Int) (z : Int) (lab : Nat) (kd : Kd) : (([⟨lab, kd, l.map C.i ++ [C.i z]⟩] : List E).all fun e => e.cs.all (C.chk p)) = true := by
  simp only [List.all_cons, List.all_nil, Bool.and_true, List.all_append]
  rw [chk_ints]; rfl
def chgL (cs : List Int) (g : Int → Int) : List Int := (List.range cs.length).map fun i : Nat => g (i : Int)
def chgK (g : Int → Int) (k : Nat) : List Int := (List.range k).map fun i : Nat => g (i : Int)
theorem chgK_succ (g : Int → Int) (k : Nat) : (chgK g (k + 1)).map C.i = (chgK g k).map C.i ++ [C.i (g (k : Int))] := by simp [chgK, List.range_succ]
theorem chgL_len (cs : List Int) (g : Int → Int) : (chgL cs g).length = cs.length := by simp [chgL]
def dryG (W H : Int) (cs : List Int) (bs : List Cell) (i : Int) : Int := if boomF W H bs i then -1 else cs.getD i.toNat 0
def turnI (W H i : Int) : Int := (H - 1 - i / W) * W + i % W
def turnG (W H : Int) (cs : List Int) (i : Int) : Int := cs.getD (turnI W H i).toNat 0
def strG (cs : List Int) (most : Int) (i : Int) : Int := if cs.getD i.toNat 0 > most then 0 else cs.getD i.toNat 0
theorem turnI_bd {W H i : Int} (hW : 0 < W) (hi : 0 ≤ i) (hn : i < W * H) : 0 ≤ turnI W H i ∧ turnI W H i < W * H := by
  have h1 := Int.emod_nonneg i (show W ≠ 0 by omega)
  have h2 := Int.emod_lt_of_pos i hW
  have h4 : 0 ≤ i / W := Int.ediv_nonneg hi (by omega)
  have h5 : i / W < H := Int.ediv_lt_of_lt_mul hW (by rw [Int.mul_comm]; exact hn)
  unfold turnI
  have h6 : 0 ≤ (H - 1 - i / W) * W := Int.mul_nonneg (by omega) (by omega)
  have h7 : (H - 1 - i / W) * W ≤ (H - 1) * W := Int.mul_le_mul_of_nonneg_right (by omega) (by omega)
  have h8 : (H - 1) * W = W * H - W := by rw [Int.sub_mul, Int.mul_comm H W]; omega
  omega
theorem turn1_spec (W H : Int) (cs : List Int) (i : Nat) (hok : CO W H cs) (hi : i < cs.length) : Spec Try.prog 70 [V.i i, V.c (.ptr 2 0)] [⟨0, .ro 0, cs.map C.i⟩, ⟨2, .ro 0, [C.i W, C.i H, .sl 0 cs.length]⟩] 4 (Is (V.i (turnG W H cs i))) := by
  have hlm : (cs.map C.i).length = cs.length := by simp
  have hW := hok.w
  have hH := hok.h
  have hcn := hok.len
  have hn100 : (cs.length : Int) ≤ 100 := by have := Int.mul_le_mul hW.2 hH.2 (by omega) (by omega : (0:Int) ≤ 10); omega
  have h1 := Int.emod_nonneg (i : Int) (show W ≠ 0 by omega)
  have h2 := Int.emod_lt_of_pos (i : Int) (show 0 < W by omega)
  have h4 : 0 ≤ (i : Int) / W := Int.ediv_nonneg (by omega) (by omega)
  have h5 : (i : Int) / W < H := Int.ediv_lt_of_lt_mul (by omega) (by rw [Int.mul_comm]; omega)
  have h6 : 0 ≤ (H - 1 - (i : Int) / W) * W := Int.mul_nonneg (by omega) (by omega)
  have h7 : (H - 1 - (i : Int) / W) * W ≤ 10 * 10 := Int.mul_le_mul (by omega) (by omega) (by omega) (by omega)
  have hb := turnI_bd (W := W) (H := H) (i := (i : Int)) (by omega) (by omega) (by omega)
  have hld : (cs.map C.i)[mulS (turnI W H (i : Int)).toNat 1]? = some (C.i (turnG W H cs i)) := intLz (k := (turnI W H (i : Int)).toNat) (by omega) (by omega)
  unfold turnI at hld hb
  refine Spec.of tok Try.func70 rfl rfl rfl fun n0 cx => vc_ok tok ?_
  repeat ((conv => whnf); first | (refine And.intro (by first | omega | exact Nat.le_of_ble_eq_true rfl | (dsimp only [inK]; omega)) ?_) | with_reducible refine ld (hld) ?_ | refine Exists.intro _ (And.intro rfl ?_) | refine fun (K' : K3) hK' => ?_ | (refine hK' _ _ _ ?_; clear hK' K') | refine draw_auto tok mixed (by kernel_rfl) ?_)
  intro ρ; rfl
/-- A chart that comes about, and an error. -/
def chgR (W H : Int) (l : List Int) (v : V) (L' : List E) : Prop := ∃ lab, v = V.agg [C.i W, C.i H, .sl lab l.length] ∧ find L' lab = some ⟨lab, .vec 3 1, l.map C.i⟩

set_option maxHeartbeats 4000000 in
theorem changed_turn (W H : Int) (cs : List Int)  (hl : cs.length ≤ 300) (hok : CO W H cs) :
    Spec Try.prog 65 [chV W H cs.length, V.c (.fn 70 [(2, 0)])] [⟨0, .ro 0, cs.map C.i⟩, ⟨2, .ro 0, [C.i W, C.i H, .sl 0 cs.length]⟩] 4 (fun v L' _ => chgR W H (chgL cs (turnG W H cs)) v L') := by
  have hlm : (cs.map C.i).length = cs.length := by simp
  refine Spec.of tok Try.func65 rfl rfl rfl fun n0 cx => vc_ok tok ?_
  repeat ((conv => whnf); first | (refine And.intro (by first | omega | exact Nat.le_of_ble_eq_true rfl) ?_) | refine Exists.intro _ (And.intro rfl ?_) | refine fun (K' : K3) hK' => ?_ | (refine hK' _ _ _ ?_; clear hK' K'))
  refine Tri.loop (γ := Nat) (fun k => k ≤ cs.length) (fun k => [(1, V.c (.fn 70 [(2, 0)])), (2, V.c (.ptr 4 0)), (4, V.c (.ptr 5 0)), (5, V.c (.ptr 6 0)), (17, V.i cs.length), (18, V.i (k : Nat))])
    (fun k => [⟨7, .vec 3 1, (chgK (turnG W H cs) k).map C.i⟩, ⟨6, .own 24, [C.i W, C.i H, .sl 7 k]⟩, ⟨5, .own 24, [C.i 0, C.i 0, .nil]⟩, ⟨4, .own 65, [C.i W, C.i H, .sl 0 cs.length, .mp 1]⟩, ⟨0, .ro 0, cs.map C.i⟩, ⟨2, .ro 0, [C.i W, C.i H, .sl 0 cs.length]⟩]) 8 (fun k => cs.length - k) 0 (R0 := [(7, none)]) ?_ ?_ ?_
  · omega
  · refine ⟨?_, ?_, rfl, rfl, Nat.le_of_ble_eq_true rfl⟩
    · repeat (first | exact trivial | refine And.intro (covS_syn rfl rfl (by first | exact trivial | exact Nat.le_of_ble_eq_true rfl | exact fn_wf3 rfl)) ?_)
    · repeat (first | exact trivial | refine And.intro (covE_nil rfl (Nat.le_of_ble_eq_true rfl) rfl rfl) ?_ | refine And.intro (covE_mp rfl (Nat.le_of_ble_eq_true rfl) rfl rfl) ?_ | refine And.intro (covE_some rfl (Nat.le_of_ble_eq_true rfl) (by first | exact wf_ints _ _ | simp [C.wf]) rfl (by first | exact ren_ints _ _ | rfl)) ?_)
  · intro k hk
    refine vc_ok tok ?_
    by_cases hlt : k < cs.length
    · have hsp := turn1_spec W H cs k hok hlt
      have hrow : ((chgK (turnG W H cs) k).map C.i).length = k := by simp [chgK]
      have hsucc := chgK_succ (turnG W H cs) k
      obtain ⟨x, hx⟩ : ∃ x, x = (turnG W H cs) (k : Int) := ⟨_, rfl⟩
      rw [← hx] at hsp hsucc
      repeat ((conv => whnf); first | (refine And.intro (by first | omega | exact Nat.le_of_ble_eq_true rfl | (dsimp only [inK]; omega) | (exact ⟨rfl, rfl, rfl, Nat.le_of_ble_eq_true rfl, by dsimp only; omega, by exact Nat.le_of_ble_eq_true rfl, by omega, Nat.le_of_ble_eq_true rfl⟩) | exact Eq.refl true) ?_) | refine Exists.intro _ (And.intro rfl ?_) | refine br_t (by omega) ?_ | refine fun (K' : K3) hK' => ?_ | (refine hK' _ _ _ ?_; clear hK' K') | refine draw_kill [7] tok mixed (by decide +kernel) ?_ | (refine HD_mk (fun _ h => CallK.val (R := []) hsp (by kernel_rfl) rfl (by simp [V.wf, A.wf, C.wf]) ⟨roE_ints (l := 0) rfl (by omega) rfl (.inl rfl), ⟨by show 2 < 4; omega, by simp [C.wf], _, _, rfl, .inl rfl, rfl⟩, trivial⟩ rfl rfl trivial h) ?_) | refine And.intro (And.intro rfl (chk_rowA _ _ _ _ _)) ?_ | refine And.intro (And.intro rfl rfl) ?_)
      refine ⟨k + 1, [(7, some 9)], by omega, by omega, ?_⟩
      refine ⟨?_, ?_, rfl, rfl, Nat.le_of_ble_eq_true rfl⟩
      · repeat (first | exact trivial | refine And.intro (covS_syn (by first | rfl | (refine congrArg some (congrArg V.i ?_); omega)) rfl (by first | exact trivial | exact Nat.le_of_ble_eq_true rfl | exact fn_wf3 rfl)) ?_)
      · repeat (first | exact trivial | refine And.intro (covE_mp rfl (Nat.le_of_ble_eq_true rfl) rfl rfl) ?_ | refine And.intro (covE_some rfl (Nat.le_of_ble_eq_true rfl) (by first | exact wf_ints _ _ | simp [C.wf]) rfl (by first | exact (ren_ints _ _).trans (congrArg some (by rw [hsucc]; rfl)) | exact ren_ints _ _ | rfl)) ?_)
    · have hkn : k = cs.length := by omega
      subst hkn
      repeat ((conv => whnf); first | (refine And.intro (by first | omega | exact Nat.le_of_ble_eq_true rfl) ?_) | refine Exists.intro _ (And.intro rfl ?_) | refine br_f (by omega) ?_ | refine fun (K' : K3) hK' => ?_ | (refine hK' _ _ _ ?_; clear hK' K'))
      exact ⟨7, by rw [chgL_len]; rfl, rfl⟩

end Go.Proofs.Ytbhpnhcdjmcaoaa

/- Boom: Dry, Turned, Strong. -/
namespace Go.Proofs.Ytbhpnhcdjmcaoaa
open Go.RowKit
set_option linter.unusedVariables false
set_option linter.unusedSimpArgs false
section
variable {P : Program} {n0 nx nac : Nat} {f : FuncId} {vs vs' : List V} {Lc L : List E} {R : Rn} {K : V → List E → Nat → Prop}
theorem CallK.chg {W H : Int} {l : List Int} (spec : Spec P f vs Lc nac (fun v L' _ => chgR W H l v L')) (hok : callB P f = true)
    (hv : renVs R vs = some vs') (hvw : ∀ v ∈ vs, v.wf nac) (hL : roL R nac L Lc) (hLc : injB [] Lc = true)
    (hK : K (V.agg [C.i W, C.i H, .sl nx l.length]) [⟨nx, .vec 3 1, l.map C.i⟩] (nx + 1)) : CallK P n0 f vs' L nx K := by
  refine CallK.mk' hok spec hv hvw hL hLc ?_
  rintro v L' nx' hw ⟨lab, rfl, hf⟩
  refine ⟨V.agg [C.i W, C.i H, .sl nx l.length], [⟨nx, .vec 3 1, l.map C.i⟩], nx + 1, [(nx, some lab)], ⟨Nat.le_succ _, ?_, ?_, ⟨covE_some (renL_one _ _) (Nat.lt_succ_self nx) (wf_ints _ _) hf (ren_ints _ _), trivial⟩, rfl, ?_⟩, hK⟩
  · simp [V.ren, A.ren, C.ren, renL_one, C.i, seqO]
  · simp [V.chk, A.chk, C.chk, inLab_one, C.i]
  · simp only [List.all_cons, List.all_nil, Bool.and_true, inLab_one, Kd.isRo, Bool.not_false, Bool.true_and]
    exact chk_ints _ _
/-- A chart and an error. -/
def chrE (o : Option (List Int)) (W H Er : Int) (v : V) (L' : List E) : Prop := match o with
  | none => v = V.tup [A.agg [C.i 0, C.i 0, .nil], A.c (C.i Er)]
  | some l => ∃ lab, v = V.tup [A.agg [C.i W, C.i H, .sl lab l.length], A.c (C.i 0)] ∧ find L' lab = some ⟨lab, .vec 3 1, l.map C.i⟩
theorem CallK.chS {o : Option (List Int)} {W H Er : Int} {l : List Int} (ho : o = some l) (spec : Spec P f vs Lc nac (fun v L' _ => chrE o W H Er v L')) (hok : callB P f = true)
    (hv : renVs R vs = some vs') (hvw : ∀ v ∈ vs, v.wf nac) (hL : roL R nac L Lc) (hLc : injB [] Lc = true)
    (hK : K (V.tup [A.agg [C.i W, C.i H, .sl nx l.length], A.c (C.i 0)]) [⟨nx, .vec 3 1, l.map C.i⟩] (nx + 1)) : CallK P n0 f vs' L nx K := by
  refine CallK.mk' hok spec hv hvw hL hLc ?_
  intro v L' nx' hw hq
  subst ho
  obtain ⟨lab, rfl, hf⟩ := hq
  refine ⟨V.tup [A.agg [C.i W, C.i H, .sl nx l.length], A.c (C.i 0)], [⟨nx, .vec 3 1, l.map C.i⟩], nx + 1, [(nx, some lab)], ⟨Nat.le_succ _, ?_, ?_, ⟨covE_some (renL_one _ _) (Nat.lt_succ_self nx) (wf_ints _ _) hf (ren_ints _ _), trivial⟩, rfl, ?_⟩, hK⟩
  · simp [V.ren, A.ren, C.ren, renL_one, seqO, C.i]
  · simp [V.chk, A.chk, C.chk, inLab_one, C.i]
  · simp only [List.all_cons, List.all_nil, Bool.and_true, inLab_one, Kd.isRo, Bool.not_false, Bool.true_and]
    exact chk_ints _ _
end
def dryO (W H : Int) (cs : List Int) (bs : List Cell) : Option (List Int) := if okC W H cs = true ∧ okB W H cs bs = true then some (chgL cs (dryG W H cs bs)) else none
def dryE (W H : Int) (cs : List Int) (bs : List Cell) : Int := if okC W H cs = true then (if okB W H cs bs = true then 0 else 2) else 30
def turnO (W H : Int) (cs : List Int) : Option (List Int) := if okC W H cs = true then some (chgL cs (turnG W H cs)) else none
def turnE (W H : Int) (cs : List Int) : Int := if okC W H cs = true then 0 else 30
def strO (W H : Int) (cs : List Int) (most : Int) : Option (List Int) := if okC W H cs = true ∧ (0 ≤ most ∧ most ≤ 100) then some (chgL cs (strG cs most)) else none
def strE (W H : Int) (cs : List Int) (most : Int) : Int := if okC W H cs = true then (if 0 ≤ most ∧ most ≤ 100 then 0 else 2) else 30
set_option maxHeartbeats 4000000 in
theorem turned_spec (W H : Int) (cs : List Int) (hl : cs.length ≤ 300) :
    Spec Try.prog 27 [chR W H cs.length] [⟨0, .ro 0, cs.map C.i⟩] 1 (fun v L' _ => chrE (turnO W H cs) W H (turnE W H cs) v L') := by
  refine Spec.of tok Try.func27 rfl rfl rfl fun n0 cx => vc_ok tok ?_
  cases hv : okC W H cs with
  | false =>
    have r1 : turnO W H cs = none := by unfold turnO; rw [hv]; rfl
    have r2 : turnE W H cs = 30 := by unfold turnE; rw [hv]; rfl
    rw [r1, r2]
    repeat ((conv => whnf); first | (refine And.intro (by first | omega | exact Nat.le_of_ble_eq_true rfl) ?_) | refine Exists.intro _ (And.intro rfl ?_) | refine br_t (by omega) ?_ | refine fun (K' : K3) hK' => ?_ | (refine hK' _ _ _ ?_; clear hK' K') | refine CallK.newNo (a := 0) (bs := []) (R := [(1, none)]) 30 hl (by simp) (.inl ⟨hv, rfl⟩) rfl rfl (roNil rfl) ?_ | refine CallK.m ?_)
    rfl
  | true =>
    have r1 : turnO W H cs = some (chgL cs (turnG W H cs)) := by unfold turnO; rw [hv]; rfl
    have hch := changed_turn W H cs hl (okC_iff.1 hv)
    rw [r1]
    repeat ((conv => whnf); first | (refine And.intro (by first | omega | exact Nat.le_of_ble_eq_true rfl) ?_) | refine Exists.intro _ (And.intro rfl ?_) | refine br_f (by omega) ?_ | refine fun (K' : K3) hK' => ?_ | (refine hK' _ _ _ ?_; clear hK' K') | refine CallK.newOk (a := 0) (bs := []) (R := [(1, none)]) hl (by simp) hv (okB_nil _ _ _) rfl rfl (by omega) (roNil rfl) ?_ | (refine CallK.chg (R := [(1, some 3), (2, some 1)]) hch (by kernel_rfl) rfl (by intro v hv; simp only [List.mem_cons, List.not_mem_nil, or_false] at hv; rcases hv with rfl | rfl; simp [V.wf, A.wf, C.wf]; exact fn_wf3 rfl) ⟨roE_ints (l := 0) rfl (by omega) rfl (.inl rfl), ⟨by show 2 < 4; omega, by simp [C.wf], _, _, rfl, .inl rfl, rfl⟩, trivial⟩ rfl ?_) | refine CallK.m ?_)
    rfl
end Go.Proofs.Ytbhpnhcdjmcaoaa

/- Boom, the reference: booms; Dry, Turned, Strong; charts that are the same. -/
namespace Go.Proofs.Ytbhpnhcdjmcaoaa
open Go.RowKit
set_option linter.unusedVariables false
set_option linter.unusedSimpArgs false
theorem cmp_ge (a b : Cell) : cmpC a b ≥ 0 ↔ (b.2 < a.2 ∨ (b.2 = a.2 ∧ b.1 ≤ a.1)) := by
  unfold cmpC orI cmpI
  by_cases h1 : a.2 < b.2
  · simp [h1]; omega
  · by_cases h2 : a.2 > b.2
    · simp [h1, h2]
    · have h3 : a.2 = b.2 := by omega
      simp only [h3]
      by_cases h4 : a.1 < b.1
      · simp [h4]
        try omega
      · by_cases h5 : a.1 > b.1
        · simp [h4, h5]; omega
        · simp [h4, h5]; omega
set_option maxRecDepth 10000 in
set_option maxHeartbeats 8000000 in
theorem areBooms_spec (W H : Int) (cs : List Int) (bs : List Cell) (hok : CO W H cs) (hb : bs.length ≤ 300) :
    Spec Try.prog 44 [chR W H cs.length, V.c (.sl 1 bs.length)] [⟨0, .ro 0, cs.map C.i⟩, ⟨1, .ro 0, cellC bs⟩] 2 (Is (V.c (.bool (okB W H cs bs)))) := by
  have hlm : (cs.map C.i).length = cs.length := by simp
  have hcl := cellC_len bs
  have hW := hok.w
  have hH := hok.h
  have hcn := hok.len
  have hn100 : W * H ≤ 100 := by have := Int.mul_le_mul hW.2 hH.2 (by omega) (by omega : (0:Int) ≤ 10); omega
  refine Spec.of tok Try.func44 rfl rfl rfl fun n0 cx => vc_ok tok ?_
  repeat ((conv => whnf); first | refine fun (K' : K3) hK' => ?_ | (refine hK' _ _ _ ?_; clear hK' K'))
  refine Tri.loop (γ := Nat) (fun k => k ≤ bs.length ∧ okBk W H cs bs k = true ∧ (0 < k → onB W H (bs.getD (k - 1) (0, 0)).1 (bs.getD (k - 1) (0, 0)).2 = true)) (fun k => [(1, V.c (.sl 1 bs.length)), (2, V.c (.ptr 2 0)), (7, V.c (.sl 1 bs.length)), (8, V.i bs.length), (9, V.i (k : Nat))])
    (fun k => [⟨2, .own 24, [C.i W, C.i H, .sl 0 cs.length]⟩, ⟨1, .ro 0, cellC bs⟩, ⟨0, .ro 0, cs.map C.i⟩]) 3 (fun k => bs.length - k) 0 (R0 := []) ?_ ?_ ?_
  · exact ⟨by omega, rfl, by omega⟩
  · skip
    refine ⟨?_, ?_, rfl, rfl, by exact Nat.le_of_ble_eq_true rfl⟩
    · repeat (first | exact trivial | (refine And.intro (covS_syn (by rfl) rfl (by first | exact trivial | exact Nat.le_of_ble_eq_true rfl)) ?_))
    · repeat (first | exact trivial | (refine And.intro (covE_id (Nat.le_of_ble_eq_true rfl) (by first | exact wf_ints _ _ | first | exact wf_cells _ _ | exact wf_zc _ | simp [C.wf]) rfl (by rfl)) ?_))
  · rintro k ⟨hk, hokk, hprev⟩
    refine vc_ok tok ?_
    by_cases hlt : k < bs.length
    · have hbad : badK W H cs bs k = (decide (idxC W H (bs.getD k (0, 0)) < 0) || (decide (cs.getD (idxC W H (bs.getD k (0, 0))).toNat 0 ≤ 0) || (decide ((k : Int) > 0) && decide (cmpC (bs.getD (k - 1) (0, 0)) (bs.getD k (0, 0)) ≥ 0)))) := rfl
      have hld := cellT (l := bs) (k := k) rfl hlt
      have hno := fun h => okBk_false (W := W) (H := H) (cs := cs) hlt h
      have hon := on_spec W H cs.length (bs.getD k (0, 0)).1 (bs.getD k (0, 0)).2
      have hne : (k + 1 - 1 : Nat) = k := by omega
      obtain ⟨p, hp⟩ : ∃ p, p = bs.getD k (0, 0) := ⟨_, rfl⟩
      rw [← hp] at hbad hld hon
      cases ho : onB W H p.1 p.2 with
      | false =>
        have hlt0 : idxC W H p < 0 := by have := idxI_off ho; unfold idxC; omega
        have hr := hno (by rw [hbad, dd_t hlt0]; rfl)
        repeat ((conv => whnf); first | (refine And.intro (by first | omega | exact Nat.le_of_ble_eq_true rfl | (dsimp only [inK]; omega)) ?_) | with_reducible refine ld (hld) ?_ | refine Exists.intro _ (And.intro rfl ?_) | refine br_t (by omega) ?_ | refine fun (K' : K3) hK' => ?_ | (refine hK' _ _ _ ?_; clear hK' K') | refine draw_auto tok mixed (by kernel_rfl) ?_ | refine HD_mk (fun _ h => CallK.val (R := []) hon (by kernel_rfl) rfl (by simp [V.wf, A.wf, C.wf]) trivial rfl rfl trivial h) ?_ | refine bs_bt (congrArg Bool.not ho) ?_)
        intro ρ; rw [hr]; rfl
      | true =>
        have hpo := onB_t ho
        obtain ⟨q1, q2⟩ := idxI_on ho
        have hil := (idxI_lt (by omega) q2).1
        have hix := rindex_spec W H cs.length p.1 p.2 (by omega) (by omega) (by omega)
        obtain ⟨i, hi⟩ : ∃ i : Nat, (i : Int) = p.2 * W + p.1 := ⟨(p.2 * W + p.1).toNat, by omega⟩
        have hie : idxC W H p = i := by unfold idxC; omega
        rw [← hi] at hix
        rw [hie, dd_f (show ¬ (i : Int) < 0 by omega), Bool.false_or, Int.toNat_natCast] at hbad
        have hldc := intL (l := cs) (k := i) (by unfold idxC at hie; omega)
        have hic : i < cs.length := by unfold idxC at hie; omega
        obtain ⟨ci, hci⟩ : ∃ ci, ci = cs.getD i 0 := ⟨_, rfl⟩
        rw [← hci] at hldc hbad
        by_cases g1 : ci ≤ 0
        · have hr := hno (by rw [hbad, dd_t g1]; rfl)
          repeat ((conv => whnf); first | (refine And.intro (by first | omega | exact Nat.le_of_ble_eq_true rfl | (dsimp only [inK]; omega)) ?_) | with_reducible refine ld (hld) ?_ | with_reducible refine ld (hldc) ?_ | refine Exists.intro _ (And.intro rfl ?_) | refine br_t (by omega) ?_ | refine bs_t (by omega) ?_ | refine fun (K' : K3) hK' => ?_ | (refine hK' _ _ _ ?_; clear hK' K') | refine draw_auto tok mixed (by kernel_rfl) ?_ | refine HD_mk (fun _ h => CallK.val (R := []) hon (by kernel_rfl) rfl (by simp [V.wf, A.wf, C.wf]) trivial rfl rfl trivial h) ?_ | refine bs_bf (congrArg Bool.not ho) ?_ | refine HD_mk (fun _ h => CallK.val (R := []) hix (by kernel_rfl) rfl (by simp [V.wf, A.wf, C.wf]) trivial rfl rfl trivial h) ?_)
          intro ρ; rw [hr]; rfl
        · rw [dd_f g1, Bool.false_or] at hbad
          by_cases g2 : (k : Int) > 0
          · rw [dd_t g2, Bool.true_and] at hbad
            have hqo := onB_t (hprev (by omega))
            have hl0 := cellL0 (l := bs) (k := k - 1) (z := (k : Int) - 1) (by omega) (by omega)
            have hl1 := cellL1 (l := bs) (k := k - 1) (z := (k : Int) - 1) (by omega) (by omega)
            have hge := cmp_ge (bs.getD (k - 1) (0, 0)) p
            obtain ⟨q, hq⟩ : ∃ q, q = bs.getD (k - 1) (0, 0) := ⟨_, rfl⟩
            rw [← hq] at hbad hl0 hl1 hge hqo
            by_cases g3 : p.2 < q.2
            · have hr := hno (by rw [hbad, dd_t (hge.2 (.inl g3))])
              repeat ((conv => whnf); first | (refine And.intro (by first | omega | exact Nat.le_of_ble_eq_true rfl | (dsimp only [inK]; omega)) ?_) | with_reducible refine ld (hld) ?_ | with_reducible refine ld (hldc) ?_ | with_reducible refine ld (hl1) ?_ | refine Exists.intro _ (And.intro rfl ?_) | refine br_t (by omega) ?_ | refine bs_t (by omega) ?_ | refine bs_f (by omega) ?_ | refine fun (K' : K3) hK' => ?_ | (refine hK' _ _ _ ?_; clear hK' K') | refine draw_auto tok mixed (by kernel_rfl) ?_ | refine HD_mk (fun _ h => CallK.val (R := []) hon (by kernel_rfl) rfl (by simp [V.wf, A.wf, C.wf]) trivial rfl rfl trivial h) ?_ | refine bs_bf (congrArg Bool.not ho) ?_ | refine HD_mk (fun _ h => CallK.val (R := []) hix (by kernel_rfl) rfl (by simp [V.wf, A.wf, C.wf]) trivial rfl rfl trivial h) ?_)
              intro ρ; rw [hr]; rfl
            · by_cases g4 : p.2 = q.2
              · by_cases g5 : p.1 ≤ q.1
                · have hr := hno (by rw [hbad, dd_t (hge.2 (.inr ⟨g4, g5⟩))])
                  repeat ((conv => whnf); first | (refine And.intro (by first | omega | exact Nat.le_of_ble_eq_true rfl | (dsimp only [inK]; omega)) ?_) | with_reducible refine ld (hld) ?_ | with_reducible refine ld (hldc) ?_ | with_reducible refine ld (hl0) ?_ | with_reducible refine ld (hl1) ?_ | refine Exists.intro _ (And.intro rfl ?_) | refine br_t (by omega) ?_ | refine bs_f (by omega) ?_ | refine fun (K' : K3) hK' => ?_ | (refine hK' _ _ _ ?_; clear hK' K') | refine draw_auto tok mixed (by kernel_rfl) ?_ | refine HD_mk (fun _ h => CallK.val (R := []) hon (by kernel_rfl) rfl (by simp [V.wf, A.wf, C.wf]) trivial rfl rfl trivial h) ?_ | refine bs_bf (congrArg Bool.not ho) ?_ | refine HD_mk (fun _ h => CallK.val (R := []) hix (by kernel_rfl) rfl (by simp [V.wf, A.wf, C.wf]) trivial rfl rfl trivial h) ?_)
                  intro ρ; rw [hr]; rfl
                · have hgo : okBk W H cs bs (k + 1) = true := by rw [okBk_succ, hokk, hbad, dd_f (fun h => by have := hge.1 h; omega)]; rfl
                  repeat ((conv => whnf); first | (refine And.intro (by first | omega | exact Nat.le_of_ble_eq_true rfl | (dsimp only [inK]; omega)) ?_) | with_reducible refine ld (hld) ?_ | with_reducible refine ld (hldc) ?_ | with_reducible refine ld (hl0) ?_ | with_reducible refine ld (hl1) ?_ | refine Exists.intro _ (And.intro rfl ?_) | refine br_t (by omega) ?_ | refine br_f (by omega) ?_ | refine bs_f (by omega) ?_ | refine fun (K' : K3) hK' => ?_ | (refine hK' _ _ _ ?_; clear hK' K') | refine draw_auto tok mixed (by kernel_rfl) ?_ | refine HD_mk (fun _ h => CallK.val (R := []) hon (by kernel_rfl) rfl (by simp [V.wf, A.wf, C.wf]) trivial rfl rfl trivial h) ?_ | refine bs_bf (congrArg Bool.not ho) ?_ | refine HD_mk (fun _ h => CallK.val (R := []) hix (by kernel_rfl) rfl (by simp [V.wf, A.wf, C.wf]) trivial rfl rfl trivial h) ?_)
                  refine ⟨k + 1, [], ⟨by omega, hgo, fun _ => by rw [hne, ← hp]; exact ho⟩, by omega, ?_⟩
                  refine ⟨?_, ?_, rfl, rfl, by exact Nat.le_of_ble_eq_true rfl⟩
                  · repeat (first | exact trivial | (refine And.intro (covS_syn (by rfl) rfl (by first | exact trivial | exact Nat.le_of_ble_eq_true rfl)) ?_))
                  · repeat (first | exact trivial | (refine And.intro (covE_id (Nat.le_of_ble_eq_true rfl) (by first | exact wf_ints _ _ | first | exact wf_cells _ _ | exact wf_zc _ | simp [C.wf]) rfl (by rfl)) ?_))
              · have hgo : okBk W H cs bs (k + 1) = true := by rw [okBk_succ, hokk, hbad, dd_f (fun h => by have := hge.1 h; omega)]; rfl
                repeat ((conv => whnf); first | (refine And.intro (by first | omega | exact Nat.le_of_ble_eq_true rfl | (dsimp only [inK]; omega)) ?_) | with_reducible refine ld (hld) ?_ | with_reducible refine ld (hldc) ?_ | with_reducible refine ld (hl1) ?_ | refine Exists.intro _ (And.intro rfl ?_) | refine br_t (by omega) ?_ | refine br_f (by omega) ?_ | refine bs_f (by omega) ?_ | refine fun (K' : K3) hK' => ?_ | (refine hK' _ _ _ ?_; clear hK' K') | refine draw_auto tok mixed (by kernel_rfl) ?_ | refine HD_mk (fun _ h => CallK.val (R := []) hon (by kernel_rfl) rfl (by simp [V.wf, A.wf, C.wf]) trivial rfl rfl trivial h) ?_ | refine bs_bf (congrArg Bool.not ho) ?_ | refine HD_mk (fun _ h => CallK.val (R := []) hix (by kernel_rfl) rfl (by simp [V.wf, A.wf, C.wf]) trivial rfl rfl trivial h) ?_)
                refine ⟨k + 1, [], ⟨by omega, hgo, fun _ => by rw [hne, ← hp]; exact ho⟩, by omega, ?_⟩
                refine ⟨?_, ?_, rfl, rfl, by exact Nat.le_of_ble_eq_true rfl⟩
                · repeat (first | exact trivial | (refine And.intro (covS_syn (by rfl) rfl (by first | exact trivial | exact Nat.le_of_ble_eq_true rfl)) ?_))
                · repeat (first | exact trivial | (refine And.intro (covE_id (Nat.le_of_ble_eq_true rfl) (by first | exact wf_ints _ _ | first | exact wf_cells _ _ | exact wf_zc _ | simp [C.wf]) rfl (by rfl)) ?_))
          · have hgo : okBk W H cs bs (k + 1) = true := by rw [okBk_succ, hokk, hbad, dd_f g2]; rfl
            repeat ((conv => whnf); first | (refine And.intro (by first | omega | exact Nat.le_of_ble_eq_true rfl | (dsimp only [inK]; omega)) ?_) | with_reducible refine ld (hld) ?_ | with_reducible refine ld (hldc) ?_ | refine Exists.intro _ (And.intro rfl ?_) | refine br_t (by omega) ?_ | refine br_f (by omega) ?_ | refine bs_f (by omega) ?_ | refine fun (K' : K3) hK' => ?_ | (refine hK' _ _ _ ?_; clear hK' K') | refine draw_auto tok mixed (by kernel_rfl) ?_ | refine HD_mk (fun _ h => CallK.val (R := []) hon (by kernel_rfl) rfl (by simp [V.wf, A.wf, C.wf]) trivial rfl rfl trivial h) ?_ | refine bs_bf (congrArg Bool.not ho) ?_ | refine HD_mk (fun _ h => CallK.val (R := []) hix (by kernel_rfl) rfl (by simp [V.wf, A.wf, C.wf]) trivial rfl rfl trivial h) ?_)
            refine ⟨k + 1, [], ⟨by omega, hgo, fun _ => by rw [hne, ← hp]; exact ho⟩, by omega, ?_⟩
            refine ⟨?_, ?_, rfl, rfl, by exact Nat.le_of_ble_eq_true rfl⟩
            · repeat (first | exact trivial | (refine And.intro (covS_syn (by rfl) rfl (by first | exact trivial | exact Nat.le_of_ble_eq_true rfl)) ?_))
            · repeat (first | exact trivial | (refine And.intro (covE_id (Nat.le_of_ble_eq_true rfl) (by first | exact wf_ints _ _ | first | exact wf_cells _ _ | exact wf_zc _ | simp [C.wf]) rfl (by rfl)) ?_))
    · have hkl : k = bs.length := by omega
      subst hkl
      have hr : okB W H cs bs = true := hokk
      repeat ((conv => whnf); first | refine br_f (by omega) ?_ | refine fun (K' : K3) hK' => ?_ | (refine hK' _ _ _ ?_; clear hK' K'))
      intro ρ; rw [hr]; rfl
def askE (W H : Int) (cs : List Int) (bs : List Cell) : Int := if okC W H cs = true then (if okB W H cs bs = true then 0 else 2) else 30
/-- What comes about, cell by cell. -/
def mixL (cs : List Int) (b : Int → Bool) (g : Int → Int) : List Int := (List.range cs.length).map fun i : Nat => if b (i : Int) then g (i : Int) else cs.getD i 0
end Go.Proofs.Ytbhpnhcdjmcaoaa

/- Boom, the reference: the shortest channel that comes first, and whether booms block. -/
namespace Go.Proofs.Ytbhpnhcdjmcaoaa
open Go.RowKit
set_option linter.unusedVariables false
set_option linter.unusedSimpArgs false
/-- The first of some cells that is wanted; -1: none is. -/
def firstF (p : Int → Bool) (l : List Int) : Int := match l.find? p with
  | some k => k
  | none => -1
end Go.Proofs.Ytbhpnhcdjmcaoaa

/- Boom: which lists are channels. -/
namespace Go.Proofs.Ytbhpnhcdjmcaoaa
open Go.RowKit
set_option linter.unusedVariables false
set_option linter.unusedSimpArgs false
/-- What a channel by booms is. -/
structure ChanP (W H : Int) (wet : Int → Bool) (l : List Cell) : Prop where
  on : ∀ j, j < l.length → onB W H (l.getD j cz).1 (l.getD j cz).2 = true
  nd : ∀ j i, j < l.length → i < j → ¬ l.getD j cz = l.getD i cz
  len : 1 ≤ l.length ∧ l.length ≤ 100
  adj : ∀ j, j + 1 < l.length → adj false (l.getD (j + 1) cz) (l.getD j cz)
  wet : ∀ j, j < l.length → wet (idxU W (l.getD j cz)) = true
  left : (l.getD 0 cz).1 = 0
  right : (l.getD (l.length - 1) cz).1 = W - 1
def isChP (W H : Int) (wet : Int → Bool) (l : List Cell) : Bool := listOkK W H l l.length && (lenOk l && ((decide ((listI W H l).getD 0 0 % W = 0) && decide ((listI W H l).getD (l.length - 1) 0 % W = W - 1)) && ((!(listI W H l).any fun i => !wet i) && follB W H false (listI W H l) l.length)))
def isChR (W H : Int) (wet : Int → Bool) (l : List Cell) : Bool := isWayB W H l false && ((decide ((l.getD 0 cz).1 = 0) && decide ((l.getD (l.length - 1) cz).1 = W - 1)) && l.all fun p => wet (idxU W p))
theorem getD_all {l : List Cell} {p : Cell → Bool} : (l.all p) = true ↔ ∀ j, j < l.length → p (l.getD j cz) = true := by
  rw [List.all_eq_true]
  constructor
  · intro h j hj
    refine h _ ?_
    rw [List.getD_eq_getElem?_getD, List.getElem?_eq_getElem hj]; exact List.getElem_mem hj
  · intro h x hx
    obtain ⟨j, hj, rfl⟩ := List.getElem_of_mem hx
    have := h j hj
    rwa [List.getD_eq_getElem?_getD, List.getElem?_eq_getElem hj] at this
theorem isChR_iff {W H : Int} {wet : Int → Bool} {l : List Cell} : isChR W H wet l = true ↔ ChanP W H wet l := by
  unfold isChR
  rw [Bool.and_eq_true, Bool.and_eq_true, Bool.and_eq_true, isWay_iff, getD_all, decide_eq_true_eq, decide_eq_true_eq]
  exact ⟨fun ⟨⟨h1, h2, h3, h4⟩, ⟨h5, h6⟩, h7⟩ => ⟨h1, h2, h3, h4, h7, h5, h6⟩, fun h => ⟨⟨h.on, h.nd, h.len, h.adj⟩, ⟨h.left, h.right⟩, h.wet⟩⟩
theorem isChP_iff {W H : Int} {wet : Int → Bool} {l : List Cell} (hW : 0 < W) : isChP W H wet l = true ↔ ChanP W H wet l := by
  unfold isChP
  rw [Bool.and_eq_true, listOk_iff hW]
  have key : ∀ (hon : ∀ j, j < l.length → onB W H (l.getD j cz).1 (l.getD j cz).2 = true), (lenOk l && ((decide ((listI W H l).getD 0 0 % W = 0) && decide ((listI W H l).getD (l.length - 1) 0 % W = W - 1)) && ((!(listI W H l).any fun i => !wet i) && follB W H false (listI W H l) l.length))) = true ↔
      (1 ≤ l.length ∧ l.length ≤ 100) ∧ ((l.getD 0 cz).1 = 0 ∧ (l.getD (l.length - 1) cz).1 = W - 1) ∧ (∀ j, j < l.length → wet (idxU W (l.getD j cz)) = true) ∧ ∀ j, j + 1 < l.length → adj false (l.getD (j + 1) cz) (l.getD j cz) := by
    intro hon
    rw [Bool.and_eq_true]
    have hlen : lenOk l = true ↔ 1 ≤ l.length ∧ l.length ≤ 100 := by unfold lenOk; rw [decide_eq_true_eq]; omega
    rw [hlen]
    constructor
    · rintro ⟨h1, h2⟩
      refine ⟨h1, ?_⟩
      rw [Bool.and_eq_true, Bool.and_eq_true, Bool.and_eq_true, decide_eq_true_eq, decide_eq_true_eq, listI_get (by omega), listI_get (by omega), (idxC_mod (hon 0 (by omega))).2.1, (idxC_mod (hon (l.length - 1) (by omega))).2.1] at h2
      obtain ⟨⟨h3, h4⟩, h5, h6⟩ := h2
      have h7 := (foll_iff (e := false) hon).1 h6
      refine ⟨⟨h3, h4⟩, fun j hj => ?_, h7⟩
      simp only [Bool.not_eq_true', List.any_eq_false] at h5
      have := h5 ((listI W H l).getD j 0) (getD_mem (by rw [listI_len]; exact hj))
      rw [listI_get hj, (idxC_mod (hon j hj)).1] at this
      simpa using this
    · rintro ⟨h1, h2, h3, h4⟩
      refine ⟨h1, ?_⟩
      rw [Bool.and_eq_true, Bool.and_eq_true, Bool.and_eq_true, decide_eq_true_eq, decide_eq_true_eq, listI_get (by omega), listI_get (by omega), (idxC_mod (hon 0 (by omega))).2.1, (idxC_mod (hon (l.length - 1) (by omega))).2.1]
      refine ⟨h2, ?_, ?_⟩
      · simp only [Bool.not_eq_true', List.any_eq_false]
        intro x hx
        obtain ⟨j, hj, rfl⟩ := List.getElem_of_mem hx
        rw [listI_len] at hj
        have e : (listI W H l)[j]'(by rw [listI_len]; exact hj) = (listI W H l).getD j 0 := by rw [List.getD_eq_getElem?_getD, List.getElem?_eq_getElem]; rfl
        rw [e, listI_get hj, (idxC_mod (hon j hj)).1]
        simpa using h3 j hj
      · exact (foll_iff (e := false) hon).2 h4
  constructor
  · rintro ⟨⟨h1, h2⟩, h3⟩
    obtain ⟨h4, ⟨h5, h6⟩, h7, h8⟩ := (key h1).1 h3
    exact ⟨h1, h2, h4, h8, h7, h5, h6⟩
  · intro h
    exact ⟨⟨h.on, h.nd⟩, (key h.on).2 ⟨h.len, ⟨h.left, h.right⟩, h.wet, h.adj⟩⟩
theorem isCh_eq {W H : Int} {wet : Int → Bool} {l : List Cell} (hW : 0 < W) : isChP W H wet l = isChR W H wet l := by
  rw [Bool.eq_iff_iff, isChP_iff hW, isChR_iff]
def isChB (W H : Int) (cs : List Int) (bs l : List Cell) : Bool := (okC W H cs && okB W H cs bs) && isChR W H (wetB cs (boomF W H bs)) l
theorem dry92_spec (W H : Int) (cs : List Int) (f : Int → Bool) (i : Nat) (hi : i < cs.length) (hl : cs.length ≤ 300) : Spec Try.prog 92 [V.i i, V.c (.ptr 3 0)] [⟨1, .mp false .int (bmF f), []⟩, ⟨2, .ro 0, cs.map C.i⟩, ⟨3, .ro 0, [C.i W, C.i H, .sl 2 cs.length, .mp 1]⟩] 4 (Is (V.c (.bool (!wetB cs f i)))) := by
  have hwt := wet_spec W H cs f i hi hl
  have hwe : wetB cs f (i : Int) = (decide (cs.getD i 0 ≠ -1) && !f i) := by simp [wetB]
  rw [← hwe] at hwt
  refine Spec.of tok Try.func92 rfl rfl rfl fun n0 cx => vc_ok tok ?_
  repeat ((conv => whnf); first | refine Exists.intro _ (And.intro rfl ?_) | refine fun (K' : K3) hK' => ?_ | (refine hK' _ _ _ ?_; clear hK' K') | refine CallK.val (R := [(0, some 2)]) hwt (by kernel_rfl) rfl (by simp [V.wf, A.wf, C.wf]) ⟨roE_ints (l := 2) rfl (by omega) rfl (.inl rfl), roE_map (l := 1) rfl (by omega) rfl, trivial⟩ rfl rfl trivial ?_ | refine CallK.m ?_)
  intro ρ; rfl
theorem anyDry_spec (W H : Int) (cs : List Int) (f : Int → Bool) (l : List Int) (hl : l.length ≤ 300) (hc : cs.length ≤ 300) (hin : ∀ k, k < l.length → 0 ≤ l.getD k 0 ∧ l.getD k 0 < cs.length) :
    Spec Try.prog 77 [V.c (.sl 0 l.length), V.c (.fn 92 [(3, 0)])] [⟨0, .ro 0, l.map C.i⟩, ⟨1, .mp false .int (bmF f), []⟩, ⟨2, .ro 0, cs.map C.i⟩, ⟨3, .ro 0, [C.i W, C.i H, .sl 2 cs.length, .mp 1]⟩] 4 (Is (V.c (.bool (l.any fun i => !wetB cs f i)))) := by
  have hwf : ∀ e ∈ [(⟨1, .mp false .int (bmF f), []⟩ : E), ⟨2, .ro 0, cs.map C.i⟩, ⟨3, .ro 0, [C.i W, C.i H, .sl 2 cs.length, .mp 1]⟩], e.lab < 4 ∧ ∀ c ∈ e.cs, c.wf 4 := by
    intro e he
    simp only [List.mem_cons, List.not_mem_nil, or_false] at he
    rcases he with rfl | rfl | rfl
    · exact ⟨by show 1 < 4; omega, fun c hc => by cases hc⟩
    · exact ⟨by show 2 < 4; omega, wf_ints _ _⟩
    · exact ⟨by show 3 < 4; omega, by simp [C.wf]⟩
  refine contains_any (p := fun i => !wetB cs f i) (Lc := [(⟨1, .mp false .int (bmF f), []⟩ : E), ⟨2, .ro 0, cs.map C.i⟩, ⟨3, .ro 0, [C.i W, C.i H, .sl 2 cs.length, .mp 1]⟩]) hl (by kernel_rfl) (fun i hi => ?_) (by simp) (by omega) hwf (fun L h => ?_) rfl ?_
  · obtain ⟨k, hk⟩ : ∃ k : Nat, (k : Int) = l.getD i 0 := ⟨(l.getD i 0).toNat, by have := hin i hi; omega⟩
    rw [← hk]
    exact dry92_spec W H cs f k (by have := hin i hi; omega) hc
  · have h1 := h _ (List.mem_cons_self ..)
    have h2 := h _ (List.mem_cons_of_mem _ (List.mem_cons_self ..))
    have h3 := h _ (List.mem_cons_of_mem _ (List.mem_cons_of_mem _ (List.mem_cons_self ..)))
    exact ⟨roE_map (l := 1) rfl (by omega) h1, roE_ints (l := 2) rfl (by omega) h2 (.inl rfl), ⟨by show 3 < 4; omega, by simp [C.wf], _, _, h3, .inl rfl, rfl⟩, trivial⟩
  · exact ⟨roE_ints (l := 0) rfl (by omega) rfl (.inl rfl), roE_map (l := 1) rfl (by omega) rfl, roE_ints (l := 2) rfl (by omega) rfl (.inl rfl), ⟨by show 3 < 4; omega, by simp [C.wf], _, _, rfl, .inl rfl, rfl⟩, trivial⟩
set_option maxRecDepth 10000 in
set_option maxHeartbeats 8000000 in
theorem pIsChannel_spec (W H : Int) (cs : List Int) (bs l : List Cell) (hl : cs.length ≤ 300) (hb : bs.length ≤ 300) (hc : l.length ≤ 300) :
    Spec Try.prog 49 [chR W H cs.length, V.c (.sl 1 bs.length), V.c (.sl 2 l.length)] [⟨0, .ro 0, cs.map C.i⟩, ⟨1, .ro 0, cellC bs⟩, ⟨2, .ro 2, cellC l⟩] 3 (Is (V.tup [A.c (.bool (isChB W H cs bs l)), A.c (C.i (blE W H cs bs))])) := by
  unfold isChB blE
  refine Spec.of tok Try.func49 rfl rfl rfl fun n0 cx => vc_ok tok ?_
  cases hv : okC W H cs with
  | false =>
    repeat ((conv => whnf); first | (refine And.intro (by first | omega | exact Nat.le_of_ble_eq_true rfl) ?_) | refine Exists.intro _ (And.intro rfl ?_) | refine br_t (by omega) ?_ | refine fun (K' : K3) hK' => ?_ | (refine hK' _ _ _ ?_; clear hK' K') | refine CallK.newNo (a := 0) (bs := bs) (R := []) 30 hl hb (.inl ⟨hv, rfl⟩) rfl rfl ⟨roE_ints (l := 0) rfl (by omega) rfl (.inl rfl), roE_cells (l := 1) rfl (by omega) rfl (.inl rfl), trivial⟩ ?_ | refine CallK.m ?_)
    intro ρ; rfl
  | true =>
    cases hB : okB W H cs bs with
    | false =>
      repeat ((conv => whnf); first | (refine And.intro (by first | omega | exact Nat.le_of_ble_eq_true rfl) ?_) | refine Exists.intro _ (And.intro rfl ?_) | refine br_t (by omega) ?_ | refine fun (K' : K3) hK' => ?_ | (refine hK' _ _ _ ?_; clear hK' K') | refine CallK.newNo (a := 0) (bs := bs) (R := []) 2 hl hb (.inr ⟨hv, hB, rfl⟩) rfl rfl ⟨roE_ints (l := 0) rfl (by omega) rfl (.inl rfl), roE_cells (l := 1) rfl (by omega) rfl (.inl rfl), trivial⟩ ?_ | refine CallK.m ?_)
      intro ρ; rfl
    | true =>
      have hok := okC_iff.1 hv
      have hW := hok.w
      have hH := hok.h
      have hcl := hok.len
      have hn : (cs.length : Int) ≤ 100 := by have := Int.mul_le_mul hW.2 hH.2 (by omega) (by omega : (0:Int) ≤ 10); omega
      have hli := listed_spec W H cs.length l (by omega) (by omega) hc
      have hieq := isCh_eq (H := H) (wet := wetB cs (boomF W H bs)) (l := l) (show 0 < W by omega)
      unfold isChP at hieq
      cases hlo : listOkK W H l l.length with
      | false =>
        rw [hlo] at hieq
        rw [← hieq]
        repeat ((conv => whnf); first | (refine And.intro (by first | omega | exact Nat.le_of_ble_eq_true rfl) ?_) | refine Exists.intro _ (And.intro rfl ?_) | refine br_f (by omega) ?_ | refine fun (K' : K3) hK' => ?_ | (refine hK' _ _ _ ?_; clear hK' K') | refine draw_auto tok mixed (by kernel_rfl) ?_ | refine CallK.newOk (a := 0) (bs := bs) (R := []) hl hb hv hB rfl rfl (by omega) ⟨roE_ints (l := 0) rfl (by omega) rfl (.inl rfl), roE_cells (l := 1) rfl (by omega) rfl (.inl rfl), trivial⟩ ?_ | refine CallK.lisF (R := [(1, some 4)]) hlo hli (by kernel_rfl) rfl (by simp [V.wf, A.wf, C.wf]) ⟨roE_cells rfl (by omega) rfl (.inr rfl), trivial⟩ rfl ?_ | refine CallK.m ?_)
        intro ρ; rfl
      | true =>
        rw [hlo] at hieq
        cases hle : lenOk l with
        | false =>
          rw [hle] at hieq
          rw [← hieq]
          repeat ((conv => whnf); first | (refine And.intro (by first | omega | exact Nat.le_of_ble_eq_true rfl) ?_) | refine Exists.intro _ (And.intro rfl ?_) | refine br_f (by omega) ?_ | refine fun (K' : K3) hK' => ?_ | (refine hK' _ _ _ ?_; clear hK' K') | refine draw_auto tok mixed (by kernel_rfl) ?_ | refine CallK.newOk (a := 0) (bs := bs) (R := []) hl hb hv hB rfl rfl (by omega) ⟨roE_ints (l := 0) rfl (by omega) rfl (.inl rfl), roE_cells (l := 1) rfl (by omega) rfl (.inl rfl), trivial⟩ ?_ | refine CallK.lisT (R := [(1, some 4)]) hlo hli (by kernel_rfl) rfl (by simp [V.wf, A.wf, C.wf]) ⟨roE_cells rfl (by omega) rfl (.inr rfl), trivial⟩ rfl ?_ | refine bs_bt (congrArg Bool.not hle) ?_ | refine CallK.m ?_)
          intro ρ; rfl
        | true =>
          rw [hle] at hieq
          have hlen : 1 ≤ l.length ∧ l.length ≤ 100 := by unfold lenOk at hle; rw [decide_eq_true_eq] at hle; omega
          have hin := listOk_in (show 0 < W by omega) hlo
          have hkl := listI_len W H l
          have hfo := follows_spec W H cs.length false (listI W H l) (by omega) (by omega) (by omega) hin
          have han := anyDry_spec W H cs (boomF W H bs) (listI W H l) (by omega) hl (fun k hk => by have := hin k hk; omega)
          have h0 := intLz (l := listI W H l) (k := 0) (z := 0) rfl (by omega)
          have h9 := intLz (l := listI W H l) (k := l.length - 1) (z := (l.length : Int) - 1) (by omega) (by omega)
          have hi0 := hin 0 (by omega)
          have hi9 := hin (l.length - 1) (by omega)
          rw [hkl] at hfo han
          obtain ⟨x0, hx0⟩ : ∃ x, x = (listI W H l).getD 0 0 := ⟨_, rfl⟩
          obtain ⟨x9, hx9⟩ : ∃ x, x = (listI W H l).getD (l.length - 1) 0 := ⟨_, rfl⟩
          rw [← hx0] at h0 hi0 hieq
          rw [← hx9] at h9 hi9 hieq
          obtain ⟨fo, hfoe⟩ : ∃ b, b = follB W H false (listI W H l) l.length := ⟨_, rfl⟩
          rw [← hfoe] at hfo hieq
          obtain ⟨an, hane⟩ : ∃ b, b = (listI W H l).any fun i => !wetB cs (boomF W H bs) i := ⟨_, rfl⟩
          rw [← hane] at han hieq
          have hkm : ((listI W H l).map C.i).length = l.length := by simp [listI]
          by_cases g0 : x0 % W = 0
          · by_cases g9 : x9 % W = W - 1
            · rw [dd_t g0, dd_t g9] at hieq
              cases an with
              | true =>
                rw [← hieq]
                repeat ((conv => whnf); first | (refine And.intro (by first | omega | exact Nat.le_of_ble_eq_true rfl | (dsimp only [inK]; omega)) ?_) | with_reducible refine ld (h0) ?_ | with_reducible refine ld (h9) ?_ | refine Exists.intro _ (And.intro rfl ?_) | refine br_f (by omega) ?_ | refine bs_f (by omega) ?_ | refine fun (K' : K3) hK' => ?_ | (refine hK' _ _ _ ?_; clear hK' K') | refine draw_auto tok mixed (by kernel_rfl) ?_ | refine CallK.newOk (a := 0) (bs := bs) (R := []) hl hb hv hB rfl rfl (by omega) ⟨roE_ints (l := 0) rfl (by omega) rfl (.inl rfl), roE_cells (l := 1) rfl (by omega) rfl (.inl rfl), trivial⟩ ?_ | refine CallK.lisT (R := [(1, some 4)]) hlo hli (by kernel_rfl) rfl (by simp [V.wf, A.wf, C.wf]) ⟨roE_cells rfl (by omega) rfl (.inr rfl), trivial⟩ rfl ?_ | refine bs_bf (congrArg Bool.not hle) ?_ | (refine HD_mk (fun _ h => CallK.val (R := [(0, some 6), (1, some 4), (2, some 0), (3, some 5)]) han (by kernel_rfl) rfl (by intro v hv; simp only [List.mem_cons, List.not_mem_nil, or_false] at hv; rcases hv with rfl | rfl; simp [V.wf, A.wf, C.wf]; exact fn_wf3 rfl) ⟨roE_ints (l := 6) rfl (by omega) rfl (.inl rfl), roE_map (l := 4) rfl (by omega) rfl, roE_ints (l := 0) rfl (by omega) rfl (.inl rfl), ⟨by show 3 < 4; omega, by simp [C.wf], _, _, rfl, .inl rfl, rfl⟩, trivial⟩ rfl rfl trivial h) ?_) | refine br_bt (Eq.refl true) ?_ | refine CallK.m ?_)
                intro ρ; rfl
              | false =>
                rw [← hieq]
                repeat ((conv => whnf); first | (refine And.intro (by first | omega | exact Nat.le_of_ble_eq_true rfl | (dsimp only [inK]; omega)) ?_) | with_reducible refine ld (h0) ?_ | with_reducible refine ld (h9) ?_ | refine Exists.intro _ (And.intro rfl ?_) | refine br_f (by omega) ?_ | refine bs_f (by omega) ?_ | refine fun (K' : K3) hK' => ?_ | (refine hK' _ _ _ ?_; clear hK' K') | refine draw_auto tok mixed (by kernel_rfl) ?_ | refine CallK.newOk (a := 0) (bs := bs) (R := []) hl hb hv hB rfl rfl (by omega) ⟨roE_ints (l := 0) rfl (by omega) rfl (.inl rfl), roE_cells (l := 1) rfl (by omega) rfl (.inl rfl), trivial⟩ ?_ | refine CallK.lisT (R := [(1, some 4)]) hlo hli (by kernel_rfl) rfl (by simp [V.wf, A.wf, C.wf]) ⟨roE_cells rfl (by omega) rfl (.inr rfl), trivial⟩ rfl ?_ | refine bs_bf (congrArg Bool.not hle) ?_ | (refine HD_mk (fun _ h => CallK.val (R := [(0, some 6), (1, some 4), (2, some 0), (3, some 5)]) han (by kernel_rfl) rfl (by intro v hv; simp only [List.mem_cons, List.not_mem_nil, or_false] at hv; rcases hv with rfl | rfl; simp [V.wf, A.wf, C.wf]; exact fn_wf3 rfl) ⟨roE_ints (l := 6) rfl (by omega) rfl (.inl rfl), roE_map (l := 4) rfl (by omega) rfl, roE_ints (l := 0) rfl (by omega) rfl (.inl rfl), ⟨by show 3 < 4; omega, by simp [C.wf], _, _, rfl, .inl rfl, rfl⟩, trivial⟩ rfl rfl trivial h) ?_) | refine CallK.den (vs := [V.agg [C.i W, C.i H, C.sl 0 cs.length, C.mp 4], V.c (.sl 6 l.length), V.c (.bool false)]) (fun ρ => rfl) (by simp [V.wf, A.wf, C.wf]) (CallK.val (R := [(1, some 4), (2, some 6)]) hfo (by kernel_rfl) rfl (by simp [V.wf, A.wf, C.wf]) ⟨roE_ints (l := 6) rfl (by omega) rfl (.inl rfl), trivial⟩ rfl rfl trivial ?_) | refine br_bf (Eq.refl false) ?_ | refine CallK.m ?_)
                intro ρ; rfl
            · rw [dd_t g0, dd_f g9] at hieq
              rw [← hieq]
              repeat ((conv => whnf); first | (refine And.intro (by first | omega | exact Nat.le_of_ble_eq_true rfl | (dsimp only [inK]; omega)) ?_) | with_reducible refine ld (h0) ?_ | with_reducible refine ld (h9) ?_ | refine Exists.intro _ (And.intro rfl ?_) | refine br_f (by omega) ?_ | refine bs_t (by omega) ?_ | refine bs_f (by omega) ?_ | refine fun (K' : K3) hK' => ?_ | (refine hK' _ _ _ ?_; clear hK' K') | refine draw_auto tok mixed (by kernel_rfl) ?_ | refine CallK.newOk (a := 0) (bs := bs) (R := []) hl hb hv hB rfl rfl (by omega) ⟨roE_ints (l := 0) rfl (by omega) rfl (.inl rfl), roE_cells (l := 1) rfl (by omega) rfl (.inl rfl), trivial⟩ ?_ | refine CallK.lisT (R := [(1, some 4)]) hlo hli (by kernel_rfl) rfl (by simp [V.wf, A.wf, C.wf]) ⟨roE_cells rfl (by omega) rfl (.inr rfl), trivial⟩ rfl ?_ | refine bs_bf (congrArg Bool.not hle) ?_ | refine CallK.m ?_)
              intro ρ; rfl
          · rw [dd_f g0] at hieq
            rw [← hieq]
            repeat ((conv => whnf); first | (refine And.intro (by first | omega | exact Nat.le_of_ble_eq_true rfl | (dsimp only [inK]; omega)) ?_) | with_reducible refine ld (h0) ?_ | refine Exists.intro _ (And.intro rfl ?_) | refine br_f (by omega) ?_ | refine bs_t (by omega) ?_ | refine fun (K' : K3) hK' => ?_ | (refine hK' _ _ _ ?_; clear hK' K') | refine draw_auto tok mixed (by kernel_rfl) ?_ | refine CallK.newOk (a := 0) (bs := bs) (R := []) hl hb hv hB rfl rfl (by omega) ⟨roE_ints (l := 0) rfl (by omega) rfl (.inl rfl), roE_cells (l := 1) rfl (by omega) rfl (.inl rfl), trivial⟩ ?_ | refine CallK.lisT (R := [(1, some 4)]) hlo hli (by kernel_rfl) rfl (by simp [V.wf, A.wf, C.wf]) ⟨roE_cells rfl (by omega) rfl (.inr rfl), trivial⟩ rfl ?_ | refine bs_bf (congrArg Bool.not hle) ?_ | refine CallK.m ?_)
            intro ρ; rfl
end Go.Proofs.Ytbhpnhcdjmcaoaa

/- Boom, plain: barriers of the charts that are upside down, with dead cells, with dry booms. -/
namespace Go.Proofs.Ytbhpnhcdjmcaoaa
open Go.RowKit
set_option linter.unusedVariables false
set_option linter.unusedSimpArgs false
theorem chgL_get {cs : List Int} (g : Int → Int) {i : Int} (h0 : 0 ≤ i) (h : i < cs.length) : (chgL cs g).getD i.toNat 0 = g i := by
  have hk : i.toNat < cs.length := by omega
  unfold chgL
  rw [List.getD_eq_getElem?_getD, List.getElem?_map, List.getElem?_eq_getElem (by simpa using hk)]
  simp only [Option.map_some, Option.getD_some, List.getElem_range]
  congr 1; omega
section
variable {W H : Int} {cs : List Int}
theorem CO.chg (hok : CO W H cs) {g : Int → Int} (hg : ∀ i : Int, 0 ≤ i → i < cs.length → -1 ≤ g i ∧ g i ≤ 100) : CO W H (chgL cs g) :=
  ⟨hok.w, hok.h, by rw [chgL_len]; exact hok.len, fun x hx => by
    unfold chgL at hx
    obtain ⟨i, hi, rfl⟩ := List.mem_map.1 hx
    have := List.mem_range.1 hi
    exact hg _ (by omega) (by omega)⟩
theorem CO.get (hok : CO W H cs) {i : Int} (h0 : 0 ≤ i) (h : i < cs.length) : -1 ≤ cs.getD i.toNat 0 ∧ cs.getD i.toNat 0 ≤ 100 := by
  have hk : i.toNat < cs.length := by omega
  rw [List.getD_eq_getElem?_getD, List.getElem?_eq_getElem hk]
  exact hok.cost _ (List.getElem_mem hk)
theorem CO.turn (hok : CO W H cs) : CO W H (chgL cs (turnG W H cs)) := hok.chg fun i h0 h => by
  have hw := hok.w
  have := turnI_bd (W := W) (H := H) (by omega) h0 (by have := hok.len; omega)
  exact hok.get this.1 (by have := hok.len; omega)
theorem CO.str (hok : CO W H cs) (most : Int) : CO W H (chgL cs (strG cs most)) := hok.chg fun i h0 h => by
  have := hok.get h0 h
  unfold strG; split <;> omega
theorem CO.dry (hok : CO W H cs) (bs : List Cell) : CO W H (chgL cs (dryG W H cs bs)) := hok.chg fun i h0 h => by
  have := hok.get h0 h
  unfold dryG; split <;> omega
def tp (H : Int) (p : Cell) : Cell := (p.1, H - 1 - p.2)
theorem tp_on {p : Cell} (h : onB W H p.1 p.2 = true) : onB W H (tp H p).1 (tp H p).2 = true := by
  have ho := onB_t h
  simp only [onB, tp, Bool.and_eq_true]
  exact ⟨dd_t ho.1.1, dd_t ho.1.2, dd_t (by omega), dd_t (by omega)⟩
theorem tp_tp (p : Cell) : tp H (tp H p) = p := Prod.ext rfl (by simp only [tp]; omega)
theorem tp_idx (hok : CO W H cs) {p : Cell} (h : onB W H p.1 p.2 = true) : turnI W H (idxU W p) = idxU W (tp H p) := by
  obtain ⟨_, _, h3, h4⟩ := idxU_in hok h
  unfold turnI; rw [h3, h4]; rfl
theorem turn_at (hok : CO W H cs) {p : Cell} (h : onB W H p.1 p.2 = true) : (chgL cs (turnG W H cs)).getD (idxU W (tp H p)).toNat 0 = cs.getD (idxU W p).toNat 0 := by
  have h1 := idxU_in hok (tp_on h)
  rw [chgL_get _ h1.1 h1.2.1]
  unfold turnG
  rw [tp_idx hok (tp_on h), tp_tp]
theorem getD_rev {l : List Cell} {j : Nat} (hj : j < l.length) : (l.map (tp H)).reverse.getD j cz = tp H (l.getD (l.length - 1 - j) cz) := by
  rw [List.getD_eq_getElem?_getD, List.getElem?_reverse (by simpa using hj), List.getElem?_map, List.length_map, List.getElem?_eq_getElem (by omega), List.getD_eq_getElem?_getD, List.getElem?_eq_getElem (by omega)]
  rfl
theorem adj_tp {e : Bool} {p q : Cell} (h : adj e p q) : adj e (tp H p) (tp H q) := by
  obtain ⟨h1, h2, h3, h4⟩ := h
  refine ⟨h1, by simp only [tp]; omega, fun hh => h3 ⟨hh.1, by have := hh.2; simp only [tp] at this; omega⟩, ?_⟩
  rcases h4 with h4 | h4 | h4
  · exact .inl h4
  · exact .inr (.inl h4)
  · exact .inr (.inr (by simp only [tp]; omega))
/-- A barrier upside down. -/
theorem bar_turn (hok : CO W H cs) {l : List Cell} (hb : BarP W H cs l) : BarP W H (chgL cs (turnG W H cs)) (l.map (tp H)).reverse := by
  have hl : (l.map (tp H)).reverse.length = l.length := by simp
  refine ⟨fun j hj => ?_, fun j i hj hi he => ?_, by rw [hl]; exact hb.len, fun j hj => ?_, fun j hj => ?_, fun j hj => ?_, fun j hj => ?_⟩
  · rw [hl] at hj; rw [getD_rev hj]; exact tp_on (hb.on _ (by omega))
  · rw [hl] at hj
    rw [getD_rev hj, getD_rev (by omega)] at he
    have he' := congrArg (tp H) he
    rw [tp_tp, tp_tp] at he'
    exact hb.nd (l.length - 1 - i) (l.length - 1 - j) (by omega) (by omega) he'.symm
  · rw [hl] at hj
    rw [getD_rev hj, getD_rev (by omega)]
    have := hb.adj (l.length - 1 - (j + 1)) (by omega)
    rw [show l.length - 1 - (j + 1) + 1 = l.length - 1 - j from by omega] at this
    exact adj_tp (adj_symm this)
  · rw [hl] at hj
    rw [getD_rev hj, turn_at hok (hb.on _ (by omega))]
    exact hb.hold _ (by omega)
  · rw [hl] at hj
    rw [getD_rev hj]
    have := hb.bot (l.length - 1 - j) (by omega)
    simp only [tp]
    constructor
    · intro h; have := this.1 (by omega); omega
    · intro h; have := this.2 (by omega); omega
  · rw [hl] at hj ⊢
    rw [getD_rev hj]
    have := hb.top (l.length - 1 - j) (by omega)
    simp only [tp]
    constructor
    · intro h; have := this.1 (by omega); omega
    · intro h; have := this.2 (by omega); omega
theorem cst_at {cs cs' : List Int} {i j : Int} (h : cs.getD i.toNat 0 = cs'.getD j.toNat 0) : cstI cs i = cstI cs' j := by unfold cstI; rw [h]
theorem sumC_eq (W : Int) (cs : List Int) (l : List Cell) : sumC W cs l = (l.map fun p => cstI cs (idxU W p)).sum := by unfold sumC sumK; rw [List.take_length]
theorem BarP.mem {l : List Cell} (hb : BarP W H cs l) {p : Cell} (h : p ∈ l) : onB W H p.1 p.2 = true ∧ ¬ cs.getD (idxU W p).toNat 0 = 0 := by
  obtain ⟨j, hj, rfl⟩ := List.mem_iff_getElem.1 h
  have h1 := hb.on j hj
  have h2 := hb.hold j hj
  have hg : l.getD j cz = l[j] := by rw [List.getD_eq_getElem?_getD, List.getElem?_eq_getElem hj]; rfl
  rw [hg] at h1 h2
  exact ⟨h1, h2⟩
theorem sum_turn (hok : CO W H cs) {l : List Cell} (hb : BarP W H cs l) : sumC W (chgL cs (turnG W H cs)) (l.map (tp H)).reverse = sumC W cs l := by
  rw [sumC_eq, sumC_eq, List.map_reverse, List.sum_reverse, List.map_map]
  congr 1
  refine List.map_congr_left fun p hp => ?_
  exact cst_at (turn_at hok (hb.mem hp).1)
theorem turn_turn (hok : CO W H cs) : chgL (chgL cs (turnG W H cs)) (turnG W H (chgL cs (turnG W H cs))) = cs := by
  have hW := hok.w
  have hl := hok.len
  refine List.ext_getElem (by rw [chgL_len, chgL_len]) fun k h1 h2 => ?_
  have hk : (0 : Int) ≤ k ∧ (k : Int) < W * H := by omega
  have hc := cellI_idx (W := W) (H := H) (i := k) (by omega) hk.1 hk.2
  have e1 := chgL_get (cs := chgL cs (turnG W H cs)) (turnG W H (chgL cs (turnG W H cs))) (i := (k : Int)) (by omega) (by rw [chgL_len]; omega)
  rw [List.getD_eq_getElem?_getD, List.getElem?_eq_getElem (by simpa using h1)] at e1
  simp only [Int.toNat_natCast, Option.getD_some] at e1
  rw [e1]
  unfold turnG
  rw [← hc.2, tp_idx hok hc.1, ]
  have := turn_at hok hc.1
  unfold turnG at this
  rw [this, hc.2, List.getD_eq_getElem?_getD, List.getElem?_eq_getElem (by simpa using h2)]
  rfl
/-- The chart upside down has as cheap a barrier. -/
theorem turn_cost (hok : CO W H cs) : (barO W H (chgL cs (turnG W H cs))).map (fun p => p.2.1) = (barO W H cs).map fun p => p.2.1 := by
  have hok' := hok.turn
  cases h : barO W H cs with
  | none =>
    cases h' : barO W H (chgL cs (turnG W H cs)) with
    | none => rfl
    | some q =>
      obtain ⟨l, w⟩ := q
      have hb := bar_turn hok' (bar_is hok' h').1
      rw [turn_turn hok] at hb
      obtain ⟨_, _, he, _⟩ := bar_least hok hb
      rw [h] at he; cases he
  | some q =>
    obtain ⟨l, w⟩ := q
    have hi := bar_is hok h
    obtain ⟨l', w', he, hle⟩ := bar_least hok' (bar_turn hok hi.1)
    rw [sum_turn hok hi.1] at hle
    have hi' := bar_is hok' he
    have hb := bar_turn hok' hi'.1
    have hs := sum_turn hok' hi'.1
    rw [turn_turn hok] at hb hs
    obtain ⟨l2, w2, he2, hle2⟩ := bar_least hok hb
    rw [h] at he2; cases he2
    rw [he]
    simp only [Option.map_some, Option.some.injEq]
    omega
end
end Go.Proofs.Ytbhpnhcdjmcaoaa

/- Boom, plain: the booms of a list, and the chart in which those of a barrier are land. -/
namespace Go.Proofs.Ytbhpnhcdjmcaoaa
open Go.RowKit
set_option linter.unusedVariables false
set_option linter.unusedSimpArgs false
def boomsL (W : Int) (cs : List Int) : List Cell := ((List.range cs.length).filter fun i => decide (cs.getD i 0 > 0)).map fun i : Nat => cellI W (i : Int)
def cellsF (W : Int) (cs : List Int) (l : List Cell) : List Cell := (boomsL W cs).filter fun p => decide (p ∈ l)
/-- In order. -/
def ltC (a b : Cell) : Prop := a.2 < b.2 ∨ (a.2 = b.2 ∧ a.1 < b.1)
section
variable {W H : Int} {cs : List Int}
theorem cellI_lt (hW : 0 < W) {i j : Int} (hi : 0 ≤ i) (h : i < j) : ltC (cellI W i) (cellI W j) := by
  have a1 := Int.emod_nonneg i (show W ≠ 0 by omega)
  have a2 := Int.emod_lt_of_pos i hW
  have a3 := Int.mul_ediv_add_emod i W
  have b1 := Int.emod_nonneg j (show W ≠ 0 by omega)
  have b2 := Int.emod_lt_of_pos j hW
  have b3 := Int.mul_ediv_add_emod j W
  have h1 : i / W ≤ j / W := Int.ediv_le_ediv hW (by omega)
  unfold ltC cellI
  simp only
  by_cases h2 : i / W = j / W
  · rw [h2] at a3
    exact .inr ⟨h2, by omega⟩
  · exact .inl (by omega)
theorem booms_sorted (hW : 0 < W) : (boomsL W cs).Pairwise ltC := by
  unfold boomsL
  rw [List.pairwise_map]
  refine List.Pairwise.filter _ ?_
  exact List.Pairwise.imp (fun {a b} (h : a < b) => cellI_lt hW (by omega) (by omega)) List.pairwise_lt_range
theorem booms_mem (hok : CO W H cs) {p : Cell} : p ∈ boomsL W cs ↔ onB W H p.1 p.2 = true ∧ cs.getD (idxU W p).toNat 0 > 0 := by
  have hW := hok.w
  have hl := hok.len
  unfold boomsL
  rw [List.mem_map]
  constructor
  · rintro ⟨i, hi, rfl⟩
    rw [List.mem_filter, List.mem_range, decide_eq_true_eq] at hi
    have h1 := cellI_idx (W := W) (H := H) (i := (i : Int)) (by omega) (by omega) (by omega)
    refine ⟨h1.1, ?_⟩
    rw [h1.2, Int.toNat_natCast]; exact hi.2
  · rintro ⟨h1, h2⟩
    have h3 := idxU_in hok h1
    refine ⟨(idxU W p).toNat, ?_, ?_⟩
    · rw [List.mem_filter, List.mem_range, decide_eq_true_eq]
      exact ⟨by omega, h2⟩
    · have : (((idxU W p).toNat : Nat) : Int) = idxU W p := by omega
      rw [this]
      exact Prod.ext h3.2.2.2 h3.2.2.1
/-- Booms in order are booms of the chart. -/
theorem okB_of (hok : CO W H cs) {bs : List Cell} (hs : bs.Pairwise ltC) (hm : ∀ p ∈ bs, onB W H p.1 p.2 = true ∧ cs.getD (idxU W p).toNat 0 > 0) : okB W H cs bs = true := by
  unfold okB okBk
  rw [List.all_eq_true]
  intro k hk
  have hk : k < bs.length := by simpa using hk
  have hg : bs.getD k (0, 0) = bs[k] := by rw [List.getD_eq_getElem?_getD, List.getElem?_eq_getElem hk]; rfl
  obtain ⟨h1, h2⟩ := hm _ (List.getElem_mem hk)
  have h3 := idxU_in hok h1
  unfold badK
  rw [hg, (idxC_mod h1).1]
  simp only [Bool.not_eq_true', Bool.or_eq_false_iff, Bool.and_eq_false_iff, decide_eq_false_iff_not]
  refine ⟨by omega, by omega, ?_⟩
  by_cases hk0 : k = 0
  · exact .inl (by omega)
  · right
    have hg1 : bs.getD (k - 1) (0, 0) = bs[k - 1] := by rw [List.getD_eq_getElem?_getD, List.getElem?_eq_getElem (by omega)]; rfl
    rw [hg1, cmp_ge]
    have := (List.pairwise_iff_getElem.1 hs) (k - 1) k (by omega) hk (by omega)
    unfold ltC at this
    omega
theorem boomF_mem {bs : List Cell} (hon : ∀ p ∈ bs, onB W H p.1 p.2 = true) {p : Cell} (h : onB W H p.1 p.2 = true) : boomF W H bs (idxU W p) = true ↔ p ∈ bs := by
  unfold boomF boomP
  rw [List.take_length, List.any_eq_true]
  constructor
  · rintro ⟨q, hq, he⟩
    rw [decide_eq_true_eq, ← (idxC_mod h).1] at he
    rw [idxC_inj h (hon q hq) he]; exact hq
  · intro hp
    exact ⟨p, hp, by rw [decide_eq_true_eq, (idxC_mod h).1]⟩
end
end Go.Proofs.Ytbhpnhcdjmcaoaa

/- Boom, plain: booms block exactly if there is a barrier of them and of land. -/
namespace Go.Proofs.Ytbhpnhcdjmcaoaa
open Go.RowKit
set_option linter.unusedVariables false
set_option linter.unusedSimpArgs false
section
variable {W H : Int} {cs : List Int}
/-- What is wet, cell by cell. -/
def wetC (W : Int) (wet : Int → Bool) (p : Cell) : Bool := wet (idxU W p)
theorem near_adj {e : Bool} {p q : Cell} (hp : onB W H p.1 p.2 = true) (hq : onB W H q.1 q.2 = true) (h : adj e p q) : idxU W p ∈ nearL W H e (idxU W q) := by
  have := (near_iff (e := e) hp hq).2 h
  rwa [(idxC_mod hp).1, (idxC_mod hq).1] at this
theorem ra_walk (hok : CO W H cs) {wet : Int → Bool} {p : Cell} (h : RA W H (wetC W wet) p) : ∃ l, isWalk (iniW W cs.length wet (W - 1)) (nbW W H cs.length wet) (idxU W p :: l) := by
  induction h with
  | @ini p ho hw hx =>
    have hi := idxU_in hok ho
    refine ⟨[], ?_⟩
    show iniW W cs.length wet (W - 1) (idxU W p) = true
    unfold iniW
    rw [dd_t ⟨hi.1, hi.2.1⟩, show wet (idxU W p) = true from hw, dd_t (by rw [hi.2.2.2]; exact hx)]; rfl
  | @step p q ho hw ha hq ih =>
    obtain ⟨l, hl⟩ := ih
    have hi := idxU_in hok ho
    exact ⟨idxU W q :: l, nbW_iff.2 ⟨⟨hi.1, hi.2.1⟩, hw, near_adj hq.on.1 ho (adj_symm ha), hq.on.2⟩, hl⟩
theorem idx_cellI (hok : CO W H cs) {i : Int} (h0 : 0 ≤ i) (h : i < cs.length) : onB W H (cellI W i).1 (cellI W i).2 = true ∧ idxU W (cellI W i) = i :=
  cellI_idx (by have := hok.w; omega) h0 (by have := hok.len; omega)
theorem adj_near (hok : CO W H cs) {e : Bool} {i k : Int} (hi : 0 ≤ i ∧ i < cs.length) (hk : 0 ≤ k ∧ k < cs.length) (h : k ∈ nearL W H e i) : adj e (cellI W k) (cellI W i) := by
  obtain ⟨a1, a2⟩ := idx_cellI hok hi.1 hi.2
  obtain ⟨b1, b2⟩ := idx_cellI hok hk.1 hk.2
  rw [← (near_iff b1 a1), (idxC_mod a1).1, (idxC_mod b1).1, a2, b2]; exact h
theorem walk_ra (hok : CO W H cs) {wet : Int → Bool} : ∀ {l : List Int} {i : Int}, isWalk (iniW W cs.length wet (W - 1)) (nbW W H cs.length wet) (i :: l) → RA W H (wetC W wet) (cellI W i)
  | [], i, h => by
    have h : iniW W cs.length wet (W - 1) i = true := h
    unfold iniW at h
    simp only [Bool.and_eq_true, decide_eq_true_eq] at h
    obtain ⟨h1, h2, h3⟩ := h
    obtain ⟨a1, a2⟩ := idx_cellI hok h1.1 h1.2
    exact .ini a1 (by unfold wetC; rw [a2]; exact h2) h3
  | k :: r, i, h => by
    obtain ⟨h1, h2, h3, h4⟩ := nbW_iff.1 h.1
    have hk := (nbW_in (by have := hok.w; omega) hok.len i k h.1).2
    obtain ⟨a1, a2⟩ := idx_cellI hok h1.1 h1.2
    exact .step a1 (by unfold wetC; rw [a2]; exact h2) (adj_symm (adj_near hok h1 hk h3)) (walk_ra hok h.2)
/-- There is a channel exactly if water leads from one shore to the other. -/
theorem chan_some {wet : Int → Bool} (hok : CO W H cs) : (∃ l, chanO W H cs.length wet = some l) ↔ ∃ p, RA W H (wetC W wet) p ∧ p.1 = 0 := by
  have hW : 0 < W := by have := hok.w; omega
  have hD := distO_is (iniW W cs.length wet (W - 1)) (nbW W H cs.length wet)
  obtain ⟨h0, rfl⟩ : ∃ h0 : Nat, H = h0 := ⟨H.toNat, by have := hok.h; omega⟩
  constructor
  · rintro ⟨l, h⟩
    unfold chanO chanD at h
    rw [Int.toNat_natCast] at h
    cases hd : distW W h0 cs.length wet (W - 1) (bestC W (distW W h0 cs.length wet (W - 1)) h0) with
    | none => rw [hd] at h; cases h
    | some m =>
      obtain ⟨l', h1, _⟩ := hD.sound _ _ hd
      rcases bestC_spec hW (distW W h0 cs.length wet (W - 1)) h0 with ⟨h2, _⟩ | ⟨b, n, h2, h3, h4⟩
      · rw [h2] at hd
        have := (distW_dom hW hok.len hd).1; omega
      · refine ⟨_, walk_ra hok h1, ?_⟩
        rw [h2]
        show (b : Int) * W % W = 0
        exact Int.mul_emod_left _ _
  · rintro ⟨p, h1, h2⟩
    obtain ⟨l, hl⟩ := ra_walk hok h1
    obtain ⟨n, hn, _⟩ := hD.comp _ _ hl
    have ho := onB_t h1.on.1
    have hi : idxU W p = (p.2.toNat : Int) * W := by unfold idxU; rw [h2, Int.toNat_of_nonneg ho.2.1]; omega
    have hn : distW W h0 cs.length wet (W - 1) ((p.2.toNat : Int) * W) = some n := by rw [← hi]; exact hn
    unfold chanO chanD
    rw [Int.toNat_natCast]
    rcases bestC_spec hW (distW W h0 cs.length wet (W - 1)) h0 with ⟨h3, h4⟩ | ⟨b, m, h3, h4, h5⟩
    · have := h4 p.2.toNat (by omega)
      rw [this] at hn; cases hn
    · rw [h3, h5]; exact ⟨_, rfl⟩
/-- What holds, cell by cell. -/
def dryC (W : Int) (cs : List Int) (p : Cell) : Bool := !hldI cs (idxU W p)
theorem dryC_f {p : Cell} : dryC W cs p = false ↔ ¬ cs.getD (idxU W p).toNat 0 = 0 := by
  unfold dryC hldI
  rw [Bool.not_eq_false', decide_eq_true_eq]
theorem dry_loose : ∀ {l : List Cell}, dryL W H (dryC W cs) l → looseL W H cs l
  | [p], h => ⟨h.1, dryC_f.1 h.2.1, h.2.2⟩
  | p :: q :: r, h => ⟨h.1.1, dryC_f.1 h.1.2.1, adj_symm h.1.2.2, dry_loose h.2⟩
theorem loose_rb : ∀ {r : List Cell} {p : Cell}, looseL W H cs (p :: r) → RB W H (dryC W cs) p
  | [], p, h => .ini h.1 (dryC_f.2 h.2.1) h.2.2
  | q :: r, p, h => .step h.1 (dryC_f.2 h.2.1) (adj_symm h.2.2.1) (loose_rb h.2.2.2)
theorem bar_rb {l : List Cell} (h : BarP W H cs l) : ∃ p, RB W H (dryC W cs) p ∧ p.2 = 0 := by
  have h1 := h.len
  have h2 := bar_loose h (l.length - 1) 0 (by omega)
  have h3 := (h.top 0 (by omega)).2 rfl
  match l, h2, h3 with
  | p :: r, h2, h3 => exact ⟨p, loose_rb h2, h3⟩
theorem bar_some (hok : CO W H cs) : (∃ q, barO W H cs = some q) ↔ ∃ p, RB W H (dryC W cs) p ∧ p.2 = 0 := by
  constructor
  · rintro ⟨⟨l, w⟩, h⟩
    exact bar_rb (bar_is hok h).1
  · rintro ⟨p, h1, h2⟩
    obtain ⟨r, hr⟩ := h1.list
    obtain ⟨l, w, h3, _⟩ := loose_least hok (dry_loose hr) h2
    exact ⟨_, h3⟩
/-- Water and what holds are each other's contrary. -/
theorem dual (hok : CO W H cs) {cs' : List Int} (hok' : CO W H cs') {wet : Int → Bool} (h : ∀ p : Cell, onB W H p.1 p.2 = true → hldI cs' (idxU W p) = !wet (idxU W p)) : chanO W H cs.length wet = none ↔ ∃ q, barO W H cs' = some q := by
  have hW : 0 < W := by have := hok.w; omega
  have hH : 0 < H := by have := hok.h; omega
  have he : ∀ p : Cell, onB W H p.1 p.2 = true → dryC W cs' p = wetC W wet p := fun p hp => by unfold dryC wetC; rw [h p hp, Bool.not_not]
  have rb1 : ∀ {p : Cell}, RB W H (dryC W cs') p → RB W H (wetC W wet) p := fun {p} hr => by
    induction hr with
    | ini ho hw hx => exact .ini ho (by rw [← he _ ho]; exact hw) hx
    | step ho hw ha hq ih => exact .step ho (by rw [← he _ ho]; exact hw) ha ih
  have rb2 : ∀ {p : Cell}, RB W H (wetC W wet) p → RB W H (dryC W cs') p := fun {p} hr => by
    induction hr with
    | ini ho hw hx => exact .ini ho (by rw [he _ ho]; exact hw) hx
    | step ho hw ha hq ih => exact .step ho (by rw [he _ ho]; exact hw) ha ih
  rw [bar_some hok']
  constructor
  · intro hn
    rcases dual_ex (w := wetC W wet) hW hH with h1 | ⟨p, h1, h2⟩
    · obtain ⟨l, hl⟩ := (chan_some hok).2 h1
      rw [hn] at hl; cases hl
    · exact ⟨p, rb2 h1, h2⟩
  · rintro ⟨p, h1, h2⟩
    cases hc : chanO W H cs.length wet with
    | none => rfl
    | some l =>
      obtain ⟨c, h3, h4⟩ := (chan_some hok).1 ⟨l, hc⟩
      exact (dual_no h3 h4 (rb1 h1) h2).elim
/-- The channel that is found is one. -/
theorem path_ways (hok : CO W H cs) {wet : Int → Bool} {col : Int} : ∀ (f : Nat) {i m : Int}, distW W H cs.length wet col i = some m → m.toNat ≤ f → isWalk (iniW W cs.length wet col) (nbW W H cs.length wet) (pathC W H (distW W H cs.length wet col) f i) ∧ (∃ r, pathC W H (distW W H cs.length wet col) f i = i :: r) ∧ (pathC W H (distW W H cs.length wet col) f i).Nodup ∧ ∀ x ∈ pathC W H (distW W H cs.length wet col) f i, ∃ u, distW W H cs.length wet col x = some u ∧ u ≤ m
  | 0, i, m, h, hf => by
    have hD := distO_is (iniW W cs.length wet col) (nbW W H cs.length wet)
    have hp := hD.pos h
    obtain ⟨l, h1, h2⟩ := hD.sound i m h
    have : l = [] := List.length_eq_zero_iff.1 (by omega)
    subst this
    refine ⟨h1, ⟨[], rfl⟩, by simp [pathC], fun x hx => ?_⟩
    simp only [pathC, List.mem_singleton] at hx
    exact ⟨m, hx ▸ h, Int.le_refl _⟩
  | f + 1, i, m, h, hf => by
    have hD := distO_is (iniW W cs.length wet col) (nbW W H cs.length wet)
    have hW : 0 < W := by have := hok.w; omega
    have hp := hD.pos h
    by_cases h0 : 0 < m
    · obtain ⟨k, hk, hd, hnk⟩ := nextC_some h h0
      obtain ⟨i1, ⟨r, i2⟩, i3, i4⟩ := path_ways hok f hd (by omega)
      have hpp : pathC W H (distW W H cs.length wet col) (f + 1) i = i :: pathC W H (distW W H cs.length wet col) f k := by simp only [pathC, h, hk]; rw [if_pos (by omega)]
      have hdi := distW_dom hW hok.len h
      have hdk := distW_dom hW hok.len hd
      rw [hpp]
      refine ⟨by rw [i2] at i1 ⊢; exact ⟨nbW_iff.2 ⟨hdi.1, hdi.2, hnk, hdk.2⟩, i1⟩, ⟨_, rfl⟩, List.nodup_cons.2 ⟨fun hm => ?_, i3⟩, fun x hx => ?_⟩
      · obtain ⟨u, hu, hle⟩ := i4 i hm
        rw [h] at hu; cases hu; omega
      · rcases List.mem_cons.1 hx with rfl | hx
        · exact ⟨m, h, Int.le_refl _⟩
        · obtain ⟨u, hu, hle⟩ := i4 x hx
          exact ⟨u, hu, by omega⟩
    · have hpp : pathC W H (distW W H cs.length wet col) (f + 1) i = [i] := by simp only [pathC, h]; rw [if_neg (by omega)]
      obtain ⟨l, h1, h2⟩ := hD.sound i m h
      have : l = [] := List.length_eq_zero_iff.1 (by omega)
      subst this
      rw [hpp]
      exact ⟨h1, ⟨[], rfl⟩, by simp, fun x hx => by rw [List.mem_singleton.1 hx]; exact ⟨m, h, Int.le_refl _⟩⟩
theorem walkW_key {wet : Int → Bool} {col : Int} : ∀ {l : List Int}, isWalk (iniW W cs.length wet col) (nbW W H cs.length wet) l → (∀ j, j < l.length → wet (l.getD j 0) = true) ∧ (l.getD (l.length - 1) 0 % W = col) ∧ ∀ j, j + 1 < l.length → l.getD (j + 1) 0 ∈ nearL W H false (l.getD j 0)
  | [i], h => by
    have h : iniW W cs.length wet col i = true := h
    unfold iniW at h
    simp only [Bool.and_eq_true, decide_eq_true_eq] at h
    exact ⟨fun j hj => by have : j = 0 := by simp at hj; omega
                          subst this; exact h.2.1, h.2.2, fun j hj => by simp at hj⟩
  | i :: k :: r, h => by
    obtain ⟨h1, h2, h3, h4⟩ := nbW_iff.1 h.1
    obtain ⟨i1, i2, i3⟩ := walkW_key h.2
    refine ⟨fun j hj => ?_, ?_, fun j hj => ?_⟩
    · match j with
      | 0 => exact h2
      | j + 1 => exact i1 j (by simpa using hj)
    · have : (i :: k :: r).length - 1 = (k :: r).length - 1 + 1 := by simp
      rw [this]; exact i2
    · match j with
      | 0 => exact h3
      | j + 1 => exact i3 j (by simpa using hj)
theorem chan_is (hok : CO W H cs) {wet : Int → Bool} {l : List Int} (h : chanO W H cs.length wet = some l) : ChanP W H wet (cellsL W l) := by
  have hW : 0 < W := by have := hok.w; omega
  obtain ⟨h0, rfl⟩ : ∃ h0 : Nat, H = h0 := ⟨H.toNat, by have := hok.h; omega⟩
  unfold chanO chanD at h
  rw [Int.toNat_natCast] at h
  cases hd : distW W h0 cs.length wet (W - 1) (bestC W (distW W h0 cs.length wet (W - 1)) h0) with
  | none => rw [hd] at h; cases h
  | some m =>
    rw [hd] at h
    cases h
    obtain ⟨p1, ⟨r, p2⟩, p3, _⟩ := path_ways hok m.toNat hd (Nat.le_refl _)
    have hb : bestC W (distW W h0 cs.length wet (W - 1)) h0 % W = 0 := by
      rcases bestC_spec hW (distW W h0 cs.length wet (W - 1)) h0 with ⟨h2, _⟩ | ⟨b, n, h2, h3, h4⟩
      · rw [h2] at hd
        have := (distW_dom hW hok.len hd).1; omega
      · rw [h2]; exact Int.mul_emod_left _ _
    obtain ⟨k1, k2, k3⟩ := walkW_key p1
    have hin := walk_rng (n := cs.length) iniW_in (nbW_in hW hok.len) p1
    have hlen := nodup_len cs.length _ p3 hin
    have hn : W * h0 ≤ 100 := by have := Int.mul_le_mul hok.w.2 hok.h.2 (by have := hok.h; omega) (by omega : (0:Int) ≤ 10); omega
    have hcl := hok.len
    obtain ⟨q, hq⟩ : ∃ q, q = pathC W h0 (distW W h0 cs.length wet (W - 1)) m.toNat (bestC W (distW W h0 cs.length wet (W - 1)) h0) := ⟨_, rfl⟩
    rw [← hq] at p1 p2 p3 k1 k2 k3 hin hlen ⊢
    have hpos : 1 ≤ q.length := by rw [p2]; simp
    have hll : (cellsL W q).length = q.length := by simp [cellsL]
    have hget : ∀ j, j < q.length → (cellsL W q).getD j cz = cellI W (q.getD j 0) := fun j hj => by
      simp only [cellsL, List.getD_eq_getElem?_getD, List.getElem?_map, List.getElem?_eq_getElem hj]; rfl
    have hri : ∀ j, j < q.length → 0 ≤ q.getD j 0 ∧ q.getD j 0 < cs.length := fun j hj => hin _ (getD_mem hj)
    have hci : ∀ j, j < q.length → onB W h0 (cellI W (q.getD j 0)).1 (cellI W (q.getD j 0)).2 = true ∧ idxU W (cellI W (q.getD j 0)) = q.getD j 0 := fun j hj => idx_cellI hok (hri j hj).1 (hri j hj).2
    refine ⟨fun j hj => ?_, fun j i hj hi he => ?_, by rw [hll]; omega, fun j hj => ?_, fun j hj => ?_, ?_, ?_⟩
    · rw [hll] at hj; rw [hget j hj]; exact (hci j hj).1
    · rw [hll] at hj
      rw [hget j hj, hget i (by omega)] at he
      have h1 : q.getD j 0 = q.getD i 0 := by rw [← (hci j hj).2, ← (hci i (by omega)).2, he]
      rw [List.getD_eq_getElem?_getD, List.getD_eq_getElem?_getD, List.getElem?_eq_getElem hj, List.getElem?_eq_getElem (show i < q.length by omega)] at h1
      exact (List.pairwise_iff_getElem.1 p3) i j (by omega) hj hi h1.symm
    · rw [hll] at hj
      rw [hget (j + 1) hj, hget j (by omega)]
      exact adj_near hok (hri j (by omega)) (hri (j + 1) hj) (k3 j hj)
    · rw [hll] at hj
      rw [hget j hj, (hci j hj).2]; exact k1 j hj
    · rw [hget 0 (by omega), p2]; exact hb
    · rw [hll, hget (q.length - 1) (by omega)]; exact k2
end
end Go.Proofs.Ytbhpnhcdjmcaoaa

/- Boom, the laws: the chart without other booms, and what booms cost. -/
namespace Go.Proofs.Ytbhpnhcdjmcaoaa
open Go.RowKit
set_option linter.unusedVariables false
set_option linter.unusedSimpArgs false
def kpB (W : Int) (bs : List Cell) (k : Int) (j : Nat) : Bool := (bs.take j).any fun p => decide (idxU W p = k)
def deadG (W : Int) (cs : List Int) (bs : List Cell) (i : Int) : Int := if (decide (cs.getD i.toNat 0 ≤ 0) || kpB W bs i bs.length) = true then cs.getD i.toNat 0 else 0
def totK (W : Int) (cs : List Int) (l : List Cell) (k : Nat) : Int := ((l.take k).map fun p => cs.getD (idxU W p).toNat 0).sum
def totC (W : Int) (cs : List Int) (l : List Cell) : Int := (l.map fun p => cs.getD (idxU W p).toNat 0).sum
theorem totK_succ {W : Int} {cs : List Int} {l : List Cell} {k : Nat} (h : k < l.length) : totK W cs l (k + 1) = totK W cs l k + cs.getD (idxU W (l.getD k (0, 0))).toNat 0 := by
  unfold totK
  rw [List.take_add_one, show l[k]?.toList = [l.getD k (0, 0)] by rw [List.getElem?_eq_getElem h, List.getD_eq_getElem?_getD, List.getElem?_eq_getElem h]; rfl, List.map_append, List.sum_append]
  simp
theorem totK_bd {W : Int} {cs : List Int} {l : List Cell} (hc : ∀ x ∈ cs, -1 ≤ x ∧ x ≤ 100) : ∀ k : Nat, -(k : Int) ≤ totK W cs l k ∧ totK W cs l k ≤ 100 * k
  | 0 => by simp [totK]
  | k + 1 => by
    have ih := totK_bd (W := W) (l := l) hc k
    by_cases h : k < l.length
    · rw [totK_succ h]
      have : -1 ≤ cs.getD (idxU W (l.getD k (0, 0))).toNat 0 ∧ cs.getD (idxU W (l.getD k (0, 0))).toNat 0 ≤ 100 := by
        generalize (idxU W (l.getD k (0, 0))).toNat = i
        rw [List.getD_eq_getElem?_getD]
        cases hh : cs[i]? with
        | none => simp
        | some x => exact hc x (List.mem_of_getElem? hh)
      omega
    · have : totK W cs l (k + 1) = totK W cs l k := by unfold totK; rw [List.take_of_length_le (by omega), List.take_of_length_le (by omega)]
      rw [this]; omega
end Go.Proofs.Ytbhpnhcdjmcaoaa

/- Boom, plain: sets of booms that block, and what they cost. -/
namespace Go.Proofs.Ytbhpnhcdjmcaoaa
open Go.RowKit
set_option linter.unusedVariables false
set_option linter.unusedSimpArgs false
theorem cst_pos' (cs : List Int) (i : Int) : 0 ≤ cstI cs i := by unfold cstI; split <;> omega
section
variable {W H : Int} {cs : List Int}
theorem okB_mem (hW : 0 < W) {bs : List Cell} (h : okB W H cs bs = true) {p : Cell} (hp : p ∈ bs) : onB W H p.1 p.2 = true ∧ cs.getD (idxU W p).toNat 0 > 0 := by
  obtain ⟨k, hk, rfl⟩ := List.getElem_of_mem hp
  have hon := okB_on hW h k hk
  have e : bs.getD k (0, 0) = bs[k] := by rw [List.getD_eq_getElem?_getD, List.getElem?_eq_getElem hk]; rfl
  rw [e] at hon
  refine ⟨hon, ?_⟩
  unfold okB okBk at h
  have := List.all_eq_true.1 h k (List.mem_range.2 hk)
  unfold badK at this
  simp only [Bool.not_eq_true', Bool.or_eq_false_iff, decide_eq_false_iff_not] at this
  have h2 := this.2.1
  rw [e, (idxC_mod hon).1] at h2
  omega
theorem kp_iff {bs : List Cell} {i : Int} : kpB W bs i bs.length = true ↔ ∃ p ∈ bs, idxU W p = i := by
  unfold kpB
  rw [List.take_length, List.any_eq_true]
  simp
theorem idxU_inj (hok : CO W H cs) {p q : Cell} (hp : onB W H p.1 p.2 = true) (hq : onB W H q.1 q.2 = true) (h : idxU W p = idxU W q) : p = q := by
  refine idxC_inj hp hq ?_
  rw [(idxC_mod hp).1, (idxC_mod hq).1]; exact h
theorem CO.dead (hok : CO W H cs) (bs : List Cell) : CO W H (chgL cs (deadG W cs bs)) := hok.chg fun i h0 h => by
  unfold deadG
  have := hok.get h0 h
  split <;> omega
theorem dead_at (hok : CO W H cs) (bs : List Cell) {p : Cell} (hp : onB W H p.1 p.2 = true) : (chgL cs (deadG W cs bs)).getD (idxU W p).toNat 0 = if (decide (cs.getD (idxU W p).toNat 0 ≤ 0) || kpB W bs (idxU W p) bs.length) = true then cs.getD (idxU W p).toNat 0 else 0 := by
  have hi := idxU_in hok hp
  rw [chgL_get _ hi.1 hi.2.1]; rfl
theorem kp_mem (hok : CO W H cs) {bs : List Cell} (hon : ∀ p ∈ bs, onB W H p.1 p.2 = true) {p : Cell} (hp : onB W H p.1 p.2 = true) : kpB W bs (idxU W p) bs.length = decide (p ∈ bs) := by
  rw [Bool.eq_iff_iff, kp_iff, decide_eq_true_eq]
  exact ⟨fun ⟨q, h1, h2⟩ => by rw [← idxU_inj hok (hon q h1) hp h2]; exact h1, fun h => ⟨p, h, rfl⟩⟩
theorem bm_mem (hok : CO W H cs) {bs : List Cell} (hon : ∀ p ∈ bs, onB W H p.1 p.2 = true) {p : Cell} (hp : onB W H p.1 p.2 = true) : boomF W H bs (idxU W p) = decide (p ∈ bs) := by
  rw [Bool.eq_iff_iff, boomF_mem hon hp, decide_eq_true_eq]
theorem dead_hld (hok : CO W H cs) {bs : List Cell} (hB : okB W H cs bs = true) {p : Cell} (hp : onB W H p.1 p.2 = true) : hldI (chgL cs (deadG W cs bs)) (idxU W p) = !wetB cs (boomF W H bs) (idxU W p) := by
  have hW : 0 < W := by have := hok.w; omega
  have hon := fun q (hq : q ∈ bs) => (okB_mem hW hB hq).1
  have hi := idxU_in hok hp
  have hg := hok.get hi.1 hi.2.1
  unfold hldI wetB
  rw [dead_at hok bs hp, kp_mem hok hon hp, bm_mem hok hon hp]
  by_cases hm : p ∈ bs
  · have := (okB_mem hW hB hm).2
    rw [dd_t hm, Bool.or_true, if_pos rfl, dd_t (show cs.getD (idxU W p).toNat 0 ≠ 0 by omega)]; simp
  · rw [dd_f hm, Bool.or_false]
    by_cases h0 : cs.getD (idxU W p).toNat 0 ≤ 0
    · rw [dd_t h0, if_pos rfl]
      by_cases h1 : cs.getD (idxU W p).toNat 0 = 0
      · rw [dd_f (show ¬ cs.getD (idxU W p).toNat 0 ≠ 0 by omega), dd_t (show cs.getD (idxU W p).toNat 0 ≠ -1 by omega)]; rfl
      · rw [dd_t h1, dd_f (show ¬ cs.getD (idxU W p).toNat 0 ≠ -1 by omega)]; rfl
    · rw [dd_f h0, if_neg (by simp), dd_t (show cs.getD (idxU W p).toNat 0 ≠ -1 by omega)]; rfl
/-- Booms block exactly if there is a barrier of them and of land. -/
theorem either (hok : CO W H cs) {bs : List Cell} (hB : okB W H cs bs = true) : chanO W H cs.length (wetB cs (boomF W H bs)) = none ↔ ∃ q, barO W H (chgL cs (deadG W cs bs)) = some q :=
  dual hok (hok.dead bs) fun p hp => dead_hld hok hB hp
theorem dead_bar (hok : CO W H cs) {bs : List Cell} {l : List Cell} (h : BarP W H (chgL cs (deadG W cs bs)) l) : BarP W H cs l :=
  ⟨h.on, h.nd, h.len, h.adj, fun j hj e => by
    have := h.hold j hj
    rw [dead_at hok bs (h.on j hj), e] at this
    simp at this, h.top, h.bot⟩
theorem bar_mem {l : List Cell} {cs : List Int} (h : BarP W H cs l) {p : Cell} (hp : p ∈ l) : onB W H p.1 p.2 = true ∧ ¬ cs.getD (idxU W p).toNat 0 = 0 := by
  obtain ⟨k, hk, rfl⟩ := List.getElem_of_mem hp
  have h1 := h.on k hk
  have h2 := h.hold k hk
  have e : l.getD k cz = l[k] := by rw [List.getD_eq_getElem?_getD, List.getElem?_eq_getElem hk]; rfl
  rw [e] at h1 h2
  exact ⟨h1, h2⟩
theorem bar_nodup {l : List Cell} {cs : List Int} (h : BarP W H cs l) : l.Nodup := by
  rw [List.nodup_iff_pairwise_ne, List.pairwise_iff_getElem]
  intro i j hi hj hij e
  refine h.nd j i hj hij ?_
  rw [List.getD_eq_getElem?_getD, List.getD_eq_getElem?_getD, List.getElem?_eq_getElem hi, List.getElem?_eq_getElem hj]
  exact e.symm
/-- Sums over lists of cells. -/
theorem sum_erase {f : Cell → Int} : ∀ {l : List Cell} {p : Cell}, p ∈ l → (l.map f).sum = f p + ((l.erase p).map f).sum
  | x :: r, p, h => by
    by_cases hx : x = p
    · subst hx
      rw [List.erase_cons_head, List.map_cons, List.sum_cons]
    · have hp : p ∈ r := by
        rcases List.mem_cons.1 h with h | h
        · exact absurd h.symm hx
        · exact h
      rw [List.erase_cons_tail (by simpa using hx), List.map_cons, List.sum_cons, List.map_cons, List.sum_cons, sum_erase hp]
      omega
theorem sum_le {f : Cell → Int} : ∀ {l m : List Cell}, l.Nodup → (∀ p ∈ m, 0 ≤ f p) → (∀ p ∈ l, p ∉ m → f p = 0) → (l.map f).sum ≤ (m.map f).sum
  | [], m, _, hm, _ => by
    have : ∀ m : List Cell, (∀ p ∈ m, 0 ≤ f p) → 0 ≤ (m.map f).sum := by
      intro m
      induction m with
      | nil => intro _; simp
      | cons x r ih =>
        intro h
        have := ih fun p hp => h p (by simp [hp])
        have := h x (by simp)
        rw [List.map_cons, List.sum_cons]; omega
    simpa using this m hm
  | p :: l, m, hd, hm, h0 => by
    obtain ⟨h1, h2⟩ := List.nodup_cons.1 hd
    rw [List.map_cons, List.sum_cons]
    by_cases hp : p ∈ m
    · rw [sum_erase hp]
      have := sum_le (l := l) (m := m.erase p) h2 (fun q hq => hm q (List.mem_of_mem_erase hq)) (fun q hq hn => h0 q (by simp [hq]) (fun hqm => hn ((List.mem_erase_of_ne (fun e => by subst e; exact h1 hq)).2 hqm)))
      omega
    · have := sum_le (l := l) (m := m) h2 hm (fun q hq hn => h0 q (by simp [hq]) hn)
      rw [h0 p (by simp) hp]; omega
theorem tot_cst {bs : List Cell} (h : ∀ p ∈ bs, cs.getD (idxU W p).toNat 0 > 0) : totC W cs bs = (bs.map fun p => cstI cs (idxU W p)).sum := by
  unfold totC
  congr 1
  refine List.map_congr_left fun p hp => ?_
  unfold cstI
  rw [if_pos (h p hp)]
/-- Booms that block cost no less than the cheapest barrier. -/
theorem blocks_cost (hok : CO W H cs) {bs : List Cell} (hB : okB W H cs bs = true) (hn : chanO W H cs.length (wetB cs (boomF W H bs)) = none) : ∃ l w, barO W H cs = some (l, w) ∧ w.1 ≤ totC W cs bs := by
  have hW : 0 < W := by have := hok.w; omega
  obtain ⟨⟨l, w⟩, h⟩ := (either hok hB).1 hn
  obtain ⟨hb, _, _, _⟩ := bar_is (hok.dead bs) h
  have hbc := dead_bar hok hb
  obtain ⟨l', w', h1, h2⟩ := bar_least hok hbc
  refine ⟨l', w', h1, Int.le_trans h2 ?_⟩
  rw [sumC_eq, tot_cst fun p hp => (okB_mem hW hB hp).2]
  refine sum_le (bar_nodup hbc) (fun p hp => cst_pos' cs _) fun p hp hnm => ?_
  obtain ⟨h3, h4⟩ := bar_mem hb hp
  rw [dead_at hok bs h3, kp_mem hok (fun q hq => (okB_mem hW hB hq).1) h3, dd_f hnm, Bool.or_false] at h4
  unfold cstI
  by_cases hc : cs.getD (idxU W p).toNat 0 > 0
  · rw [dd_f (show ¬ cs.getD (idxU W p).toNat 0 ≤ 0 by omega), if_neg (by simp)] at h4
    exact absurd rfl h4
  · rw [if_neg hc]
end
end Go.Proofs.Ytbhpnhcdjmcaoaa

/- Boom, plain: booms of which none can be left out. -/
namespace Go.Proofs.Ytbhpnhcdjmcaoaa
open Go.RowKit
set_option linter.unusedVariables false
set_option linter.unusedSimpArgs false
/-- From the last one on: leave it out if the rest still does. -/
def thinL (bl : List Cell → Bool) : Nat → List Cell → List Cell
  | 0, l => l
  | k + 1, l => thinL bl k (if bl (l.eraseIdx k) = true then l.eraseIdx k else l)
theorem thin_sub (bl : List Cell → Bool) : ∀ (k : Nat) (l : List Cell), (thinL bl k l).Sublist l
  | 0, l => List.Sublist.refl l
  | k + 1, l => by
    refine (thin_sub bl k _).trans ?_
    split
    · exact List.eraseIdx_sublist _ _
    · exact List.Sublist.refl l
theorem filter_one {α : Type} [DecidableEq α] : ∀ {l : List α} {k : Nat} (hd : l.Nodup) (hk : k < l.length), l.filter (fun p => decide (p ≠ l[k])) = l.eraseIdx k
  | x :: r, 0, hd, hk => by
    obtain ⟨h1, h2⟩ := List.nodup_cons.1 hd
    simp only [List.getElem_cons_zero, List.eraseIdx_cons_zero]
    rw [List.filter_cons_of_neg (by simp), List.filter_eq_self.2 fun p hp => by
      rw [decide_eq_true_eq]; intro e; exact h1 (e ▸ hp)]
  | x :: r, k + 1, hd, hk => by
    obtain ⟨h1, h2⟩ := List.nodup_cons.1 hd
    have hk' : k < r.length := by simpa using hk
    simp only [List.getElem_cons_succ, List.eraseIdx_cons_succ]
    rw [List.filter_cons_of_pos (by rw [decide_eq_true_eq]; intro e; exact h1 (e ▸ List.getElem_mem hk')), filter_one h2 hk']
section
variable {W H : Int} {cs : List Int}
theorem okB_sorted {bs : List Cell} (h : okB W H cs bs = true) : bs.Pairwise ltC := by
  have step : ∀ i, (hi : i + 1 < bs.length) → ltC bs[i] bs[i + 1] := by
    intro i hi
    unfold okB okBk at h
    have h1 := List.all_eq_true.1 h (i + 1) (List.mem_range.2 hi)
    unfold badK at h1
    simp only [Bool.not_eq_true', Bool.or_eq_false_iff, Bool.and_eq_false_iff, decide_eq_false_iff_not, Nat.add_sub_cancel] at h1
    have h2 := h1.2.2
    have e1 : bs.getD i (0, 0) = bs[i] := by rw [List.getD_eq_getElem?_getD, List.getElem?_eq_getElem (by omega)]; rfl
    have e2 : bs.getD (i + 1) (0, 0) = bs[i + 1] := by rw [List.getD_eq_getElem?_getD, List.getElem?_eq_getElem hi]; rfl
    rw [e1, e2, cmp_ge] at h2
    unfold ltC
    omega
  rw [List.pairwise_iff_getElem]
  have all : ∀ d i, (hi : i + d + 1 < bs.length) → ltC bs[i] bs[i + d + 1] := by
    intro d
    induction d with
    | zero => intro i hi; exact step i hi
    | succ d ih =>
      intro i hi
      have h1 := ih i (by omega)
      have h2 := step (i + d + 1) (by omega)
      unfold ltC at h1 h2 ⊢
      have e : bs[i + (d + 1) + 1] = bs[i + d + 1 + 1] := by congr 1
      rw [e]
      omega
  intro i j hi hj hij
  have := all (j - i - 1) i (by omega)
  have e : bs[i + (j - i - 1) + 1] = bs[j] := by congr 1; omega
  rw [e] at this; exact this
theorem sorted_nodup {bs : List Cell} (h : bs.Pairwise ltC) : bs.Nodup :=
  List.Pairwise.imp (fun {a b} hlt e => by subst e; unfold ltC at hlt; omega) h
theorem okB_sub (hok : CO W H cs) {bs s : List Cell} (h : okB W H cs bs = true) (hs : s.Sublist bs) : okB W H cs s = true :=
  okB_of hok (List.Pairwise.sublist hs (okB_sorted h)) fun p hp => okB_mem (by have := hok.w; omega) h (hs.subset hp)
/-- Booms but one. -/
theorem boomF_erase (hok : CO W H cs) {l : List Cell} (h : okB W H cs l = true) {k : Nat} (hk : k < l.length) : (fun j => boomF W H l j && !decide (j = idxC W H l[k])) = boomF W H (l.eraseIdx k) := by
  have hW : 0 < W := by have := hok.w; omega
  have hd := sorted_nodup (okB_sorted h)
  funext j
  rw [Bool.eq_iff_iff, ← filter_one hd hk]
  simp only [boomF, boomP, List.take_length, List.any_eq_true, Bool.and_eq_true, decide_eq_true_eq, Bool.not_eq_true', decide_eq_false_iff_not, List.mem_filter]
  constructor
  · rintro ⟨⟨p, hp, rfl⟩, hne⟩
    exact ⟨p, ⟨hp, fun e => hne (by rw [e])⟩, rfl⟩
  · rintro ⟨p, ⟨hp, hne⟩, rfl⟩
    exact ⟨⟨p, hp, rfl⟩, fun e => hne (idxC_inj (okB_mem hW h hp).1 (okB_mem hW h (List.getElem_mem hk)).1 e)⟩
theorem boomF_back {l : List Cell} {k : Nat} (hk : k < l.length) : (fun j => (boomF W H l j && !decide (j = idxC W H l[k])) || decide (j = idxC W H l[k])) = boomF W H l := by
  funext j
  have hm : boomF W H l (idxC W H l[k]) = true := by
    simp only [boomF, boomP, List.take_length, List.any_eq_true, decide_eq_true_eq]
    exact ⟨_, List.getElem_mem hk, rfl⟩
  by_cases hj : j = idxC W H l[k]
  · subst hj; rw [hm]; simp
  · simp [hj]
noncomputable def blkL (W H : Int) (cs : List Int) (l : List Cell) : Bool := (chanO W H cs.length (wetB cs (boomF W H l))).isNone
/-- Thin booms. -/
noncomputable def thinO (W H : Int) (cs : List Int) (bs : List Cell) : List Cell := thinL (blkL W H cs) bs.length bs
theorem thinO_sub (bs : List Cell) : (thinO W H cs bs).Sublist bs := thin_sub _ _ _
/-- One step from behind. -/
theorem thin_step {bs l : List Cell} {k : Nat} (ht : l.take (k + 1) = bs.take (k + 1)) (hk : k + 1 ≤ l.length) (hb : k < bs.length) : bs[k] = l[k] ∧ (l.eraseIdx k).take k = bs.take k ∧ l.take k = bs.take k ∧ k ≤ (l.eraseIdx k).length := by
  have h1 : l.take k = bs.take k := by
    have := congrArg (List.take k) ht
    rwa [List.take_take, List.take_take, Nat.min_eq_left (by omega)] at this
  refine ⟨?_, ?_, h1, ?_⟩
  · have := congrArg (fun x => x[k]?) ht
    simp only [List.getElem?_take, if_pos (show k < k + 1 by omega)] at this
    rw [List.getElem?_eq_getElem (by omega), List.getElem?_eq_getElem hb] at this
    exact (Option.some.inj this).symm
  · rw [List.eraseIdx_eq_take_drop_succ, List.take_append_of_le_length (by rw [List.length_take]; omega), List.take_take, Nat.min_self, h1]
  · rw [List.length_eraseIdx_of_lt (by omega)]; omega
end
end Go.Proofs.Ytbhpnhcdjmcaoaa

/- slices.Delete of one cell. -/
namespace Go.Proofs.Ytbhpnhcdjmcaoaa
open Go.RowKit
set_option linter.unusedVariables false
set_option linter.unusedSimpArgs false
section
variable {P : Program}
theorem run_app_in (w : World) (t ty e : TypeId) (i : TypeInfo) (ht : P.underlying t = some (.slice e)) (hi : P.info? e = some i) (hsz : i.size = 2) (g off n cap : Nat) (cur : Array Value) (hg : w.heap[g]? = some (.cells cur e (0, 0)))
    (a : Addr) (m c : Nat) (news : List Value) (hl : news.length = m * 2) (hnews : ∀ j u, news[j]? = some u → w.cell? (a.add j) = some u) (h1 : ∀ u ∈ news, u.oneCell' = true) (hroom : n + m ≤ cap) (hcs : off + cap * 2 ≤ cur.size) :
    (Builtin.append_ #[t, t] ty #[.slice (some ⟨g, off, none⟩) n cap, .slice (some a) m c]).run P w = .ok (.slice (some ⟨g, off, none⟩) (n + m) cap) (w.setRow g (cur.toList.take (off + n * 2) ++ news ++ cur.toList.drop (off + n * 2 + news.length)).toArray) := by
  have hf := run_firstCells_some (P := P) w i.size m a m c news (by rw [hsz]; exact hl) hnews
  have hst := run_storeCells_at P g (off + n * i.size) e news 0 cur w hg (by rw [hsz]; omega) h1
  simp only [Nat.add_zero] at hst
  have hadd : (⟨g, off, none⟩ : Addr).add (n * i.size) = ⟨g, off + n * i.size, none⟩ := by unfold Addr.add; split <;> simp_all
  rw [← hsz]
  simp [Builtin.append_, run_underlying ht, sizeOf, typeInfo, hi, Builtin.lenOf, hroom, hf, hadd, hst]
theorem run_clear_one (w : World) (t e ty : TypeId) (z : Value) (ht : P.underlying t = some (.slice e)) (hv : ∀ w, (zeroValue e).run P w = .ok z w) (x y : Value) (hz : z.cells = #[x, y]) (h1 : x.oneCell' = true) (h2 : y.oneCell' = true) (g o c : Nat) (cur : Array Value) (hg : w.heap[g]? = some (.cells cur e (0, 0))) (hcs : o + 2 ≤ cur.size) :
    (Builtin.clear_ #[t] ty #[.slice (some ⟨g, o, none⟩) 1 c]).run P w = .ok (.tuple #[]) (w.setRow g (cur.toList.take o ++ [x, y] ++ cur.toList.drop (o + 2)).toArray) := by
  have hst := run_storeCells_at P g o e [x, y] 0 cur w hg (by simpa using hcs) (by intro v hv; simp at hv; rcases hv with rfl | rfl; exact h1; exact h2)
  simp only [Nat.add_zero] at hst
  have hzc : (Builtin.zeroCells z.cells 1).toList = [x, y] := by rw [hz]; simp [Builtin.zeroCells, Array.toList_range, List.range_succ]
  simp [Builtin.clear_, run_underlying ht, hv, hzc, hst]
/-- An append in a region that draws its order, by its run. -/
theorem step_append_any {ops : Array Oper} {o : Oper} {a : Act} {w : World} {K : Act → World → Prop} {Q : Exit → Act → World → Prop} {E : Prop}
    (hg : o.guard = none) (s x : Operand) (t : TypeId) (hop : o.op = Op.call { callee := Callee.builtin Builtin.append, args := #[s, x], argTypes := #[t, t] })
    (vs vx v' : Value) (w' : World) (hs : a.eval s = vs) (hx : a.eval x = vx) (hrun : ∀ ty, (Builtin.append_ #[t, t] ty #[vs, vx]).run P w = .ok v' w') (hK : K (a.put o.dst v') w') :
    if Region.wanted o (yielded ops a.tmps) = true then Oper.wp P o a w K Q else E := by
  have hw : Region.wanted o (yielded ops a.tmps) = true := by simp [Region.wanted, hg]
  rw [if_pos hw]
  unfold Oper.wp
  simp [execOp, hop, resolve, invoke, builtin, hs, hx, hrun, Result.andThen]
  exact hK
end
theorem row_del {w : World} {n0 g off n cap i : Nat} {xs : List Value} {cur : Array Value} {x y : Value} (hg : w.heap[g]? = some (.cells cur 57 (0, 0))) (hx : xs.length = n * 2) (hb : n0 ≤ g) (hnc : n ≤ cap) (hcm : cap ≤ maxLen) (hcs : off + cap * 2 ≤ cur.size) (htake : (cur.toList.drop off).take (n * 2) = xs) (hi : i < n) (w1 w2 : World)
    (hw1 : w1 = w.drew.setRow g (cur.toList.take (off + i * 2) ++ xs.drop ((i + 1) * 2) ++ cur.toList.drop (off + i * 2 + (xs.drop ((i + 1) * 2)).length)).toArray)
    (hw2 : ∀ cur1, w1.heap[g]? = some (.cells cur1 57 (0, 0)) → w2 = w1.setRow g (cur1.toList.take (off + (i + (n - (i + 1))) * 2) ++ [x, y] ++ cur1.toList.drop (off + (i + (n - (i + 1))) * 2 + 2)).toArray) :
    w.grownBy w2 (some g) ∧ rowO w2 n0 57 2 (.slice (some ⟨g, off, none⟩) (i + (n - (i + 1))) cap) (i + (n - (i + 1))) (xs.take (i * 2) ++ xs.drop ((i + 1) * 2)) := by
  have hlx : (xs.drop ((i + 1) * 2)).length = (n - (i + 1)) * 2 := by rw [List.length_drop, hx]; omega
  have hg1 : w1.heap[g]? = some (.cells (cur.toList.take (off + i * 2) ++ xs.drop ((i + 1) * 2) ++ cur.toList.drop (off + i * 2 + (xs.drop ((i + 1) * 2)).length)).toArray 57 (0, 0)) := by
    rw [hw1]; exact setRow_heap w.drew g cur _ 57 _ hg
  have h2 := hw2 _ hg1
  have hcl : cur.toList.length = cur.size := Array.length_toList
  have ht1 : (cur.toList.take (off + i * 2)).length = off + i * 2 := by rw [List.length_take]; omega
  have hgg := setRow_heap w1 g _ (List.toArray (List.take (off + (i + (n - (i + 1))) * 2) (cur.toList.take (off + i * 2) ++ xs.drop ((i + 1) * 2) ++ cur.toList.drop (off + i * 2 + (xs.drop ((i + 1) * 2)).length)) ++ [x, y] ++ List.drop (off + (i + (n - (i + 1))) * 2 + 2) (cur.toList.take (off + i * 2) ++ xs.drop ((i + 1) * 2) ++ cur.toList.drop (off + i * 2 + (xs.drop ((i + 1) * 2)).length)))) 57 _ hg1
  simp only [List.toList_toArray] at h2
  rw [← h2] at hgg
  have e1 : (cur.toList.take (off + i * 2) ++ xs.drop ((i + 1) * 2) ++ cur.toList.drop (off + i * 2 + (xs.drop ((i + 1) * 2)).length)).take (off + (i + (n - (i + 1))) * 2) = cur.toList.take (off + i * 2) ++ xs.drop ((i + 1) * 2) := by
    rw [List.take_left' (by rw [List.length_append, ht1, hlx]; omega)]
  rw [e1] at hgg
  refine ⟨?_, ?_, .inr ⟨g, off, cap, _, rfl, hb, hgg, by omega, hcm, ?_, ?_⟩⟩
  · rw [h2, hw1]
    exact ⟨rfl, rfl, rfl, by simp, fun k hk hne => by rw [setRow_other _ g k _ (fun e => hne (by rw [e])), setRow_other _ g k _ (fun e => hne (by rw [e]))]; rfl⟩
  · rw [List.length_append, List.length_take, hlx, hx]; omega
  · simp only [List.size_toArray, List.length_append, List.length_drop, ht1, hlx, List.length_cons, List.length_nil]; omega
  · rw [List.append_assoc, List.append_assoc, List.drop_append_of_le_length (by rw [ht1]; omega), List.drop_take, show off + i * 2 - off = i * 2 by omega]
    have : (cur.toList.drop off).take (i * 2) = xs.take (i * 2) := by rw [← htake, List.take_take]; congr 1; omega
    rw [this, ← List.append_assoc, List.take_left' (by rw [List.length_append, List.length_take, hlx, hx]; omega)]
set_option maxRecDepth 1000000 in
set_option maxHeartbeats 4000000 in
theorem delete_any (g off n cap i j : Nat) (w : World) (n0 : Nat) (xs : List Value) (hown : rowO w n0 57 2 (.slice (some ⟨g, off, none⟩) n cap) n xs) (h1 : ∀ u ∈ xs, u.oneCell' = true) (hij : j = i + 1) (hj : j ≤ n) :
    Calls Try.prog 91 #[.slice (some ⟨g, off, none⟩) n cap, .int .i64 i, .int .i64 j] w fun e w' => e = .returned (.slice (some ⟨g, off, none⟩) (i + (n - j)) cap) ∧ w.grownBy w' (some g) ∧ rowO w' n0 57 2 (.slice (some ⟨g, off, none⟩) (i + (n - j)) cap) (i + (n - j)) (xs.take (i * 2) ++ xs.drop (j * 2)) := by
  obtain ⟨hx, ⟨h', _⟩ | ⟨g', off', cap', cur, h', hb, hg, hnc, hcm, hcs, htake⟩⟩ := hown
  · simp at h'
  simp only [Value.slice.injEq, Option.some.injEq, Addr.mk.injEq, and_true, true_and] at h'
  obtain ⟨⟨rfl, rfl⟩, rfl⟩ := h'
  obtain ⟨i0, hi0, hz0⟩ : ∃ i, Try.prog.info? 57 = some i ∧ i.size = 2 := ⟨(Try.prog.info? 57).getD default, by kernel_rfl, by kernel_rfl⟩
  have hcell : ∀ t u, xs[t]? = some u → w.drew.cell? ⟨g, off + t, none⟩ = some u := by
    intro t u hu
    have ht : t < n * 2 := by rw [← hx]; exact (List.getElem?_eq_some_iff.1 hu).1
    show w.cell? _ = _
    rw [cell_of_row w g (off + t) cur 57 (0, 0) hg, ← hu, ← htake, List.getElem?_take, if_pos ht, List.getElem?_drop]
    simp
  obtain ⟨news, hnews⟩ : ∃ news, news = xs.drop (j * 2) := ⟨_, rfl⟩
  have hlen : news.length = (n - j) * 2 := by rw [hnews, List.length_drop, hx]; omega
  obtain ⟨A, hA, hsrc⟩ : ∃ A : Addr, (if cap = j then some (⟨g, off, none⟩ : Addr) else some ⟨g, off + j * 2, none⟩) = some A ∧ (∀ t u, news[t]? = some u → w.drew.cell? (A.add t) = some u) := by
    by_cases h : cap = j
    · refine ⟨⟨g, off, none⟩, by simp [h], fun t u hu => ?_⟩
      have h0 : news.length = 0 := by rw [hlen]; omega
      rw [List.length_eq_zero_iff.1 h0] at hu
      simp at hu
    · refine ⟨⟨g, off + j * 2, none⟩, by simp [h], fun t u hu => ?_⟩
      rw [hnews, List.getElem?_drop] at hu
      rw [Addr.add_lit, Nat.add_assoc]
      exact hcell _ _ hu
  obtain ⟨W1, hW1⟩ : ∃ W1, W1 = w.drew.setRow g (cur.toList.take (off + i * 2) ++ news ++ cur.toList.drop (off + i * 2 + news.length)).toArray := ⟨_, rfl⟩
  have hrun : ∀ ty, (Builtin.append_ #[30, 30] ty #[.slice (some ⟨g, off, none⟩) i cap, .slice (some A) (n - j) (cap - j)]).run Try.prog w.drew = .ok (.slice (some ⟨g, off, none⟩) (i + (n - j)) cap) W1 := fun ty => by
    rw [hW1]
    exact run_app_in w.drew 30 ty 57 i0 Try.underlying30 hi0 hz0 g off i cap cur hg A (n - j) (cap - j) news hlen hsrc (fun u hu => h1 u (List.mem_of_mem_drop (hnews ▸ hu))) (by omega) hcs
  have hg1 : W1.heap[g]? = some (.cells (cur.toList.take (off + i * 2) ++ news ++ cur.toList.drop (off + i * 2 + news.length)).toArray 57 (0, 0)) := by
    rw [hW1]; exact setRow_heap w.drew g cur _ 57 _ hg
  have hsz1 : off + (i + (n - j)) * 2 + 2 ≤ (cur.toList.take (off + i * 2) ++ news ++ cur.toList.drop (off + i * 2 + news.length)).toArray.size := by
    simp only [List.size_toArray, List.length_append, List.length_take, List.length_drop, Array.length_toList, hlen]; omega
  obtain ⟨cur1, hcur1⟩ : ∃ c, c = (cur.toList.take (off + i * 2) ++ news ++ cur.toList.drop (off + i * 2 + news.length)).toArray := ⟨_, rfl⟩
  rw [← hcur1] at hg1 hsz1
  have hone : n - (i + (n - j)) = 1 := by omega
  obtain ⟨W2, hW2⟩ : ∃ W2, W2 = W1.setRow g (cur1.toList.take (off + (i + (n - j)) * 2) ++ [Value.int .i64 0, Value.int .i64 0] ++ cur1.toList.drop (off + (i + (n - j)) * 2 + 2)).toArray := ⟨_, rfl⟩
  have hcl : ∀ ty, (Builtin.clear_ #[30] ty #[.slice (some ⟨g, off + (i + (n - j)) * 2, none⟩) (n - (i + (n - j))) (cap - (i + (n - j)))]).run Try.prog W1 = .ok (.tuple #[]) W2 := fun ty => by
    rw [hone, hW2]
    exact run_clear_one W1 30 57 ty _ Try.underlying30 (fun w => Try.zeroValue57 w) _ _ rfl rfl rfl g _ _ cur1 hg1 hsz1
  have hfin := row_del (w := w) (n0 := n0) (x := .int .i64 0) (y := .int .i64 0) hg hx hb hnc hcm hcs htake (i := i) (by omega) W1 W2 (by rw [hW1, hnews, hij]) (fun c hc => by rw [hg1] at hc; cases hc; rw [hW2, hij])
  rw [← hij] at hfin
  have hic : i ≤ cap := by omega
  have hjc : j ≤ cap := by omega
  have hij' : i ≠ j := by omega
  have hle : i ≤ j := by omega
  have H1 : Hid (∀ ty, (Builtin.append_ #[30, 30] ty #[.slice (some ⟨g, off, none⟩) i cap, .slice (some A) (n - j) (cap - j)]).run Try.prog w.drew = .ok (.slice (some ⟨g, off, none⟩) (i + (n - j)) cap) W1) := hrun
  clear hij hrun hcell hsrc hW1 hW2 hg1 hsz1 hcur1 hg htake h1 hone hnews hlen
  go_enter Try.func91, Try.ntmps91
  go_wp2_with fail
  go_region_law (refine step_append_any rfl (.tmp 22) (.tmp 25) 30 rfl (.slice (some ⟨g, off, none⟩) i cap) (.slice (some A) (n - j) (cap - j)) (.slice (some ⟨g, off, none⟩) (i + (n - j)) cap) W1 (by simp [Act.eval, Act.put]) (by simp [Act.eval, Act.put, *]) H1.out ?_)
  go_wp2
  go_ret
  exact ⟨rfl, hfin⟩
end Go.Proofs.Ytbhpnhcdjmcaoaa

/- slices.Clone, slices.Delete, slices.Backward at cells: calls of the calculus. -/
namespace Go.Proofs.Ytbhpnhcdjmcaoaa
open Go.RowKit
set_option linter.unusedVariables false
set_option linter.unusedSimpArgs false
theorem own_baseC {w : World} {b b' e sz n : Nat} {v : Value} {xs : List Value} (h : w.ownsRow b e sz v n xs) (hb : b' ≤ b) : w.ownsRow b' e sz v n xs := by
  obtain ⟨h1, h2 | ⟨g, cap, cur, hv, hg, hh, hn, hm, hs, ht⟩⟩ := h
  · exact ⟨h1, .inl h2⟩
  · exact ⟨h1, .inr ⟨g, cap, cur, hv, by omega, hh, hn, hm, hs, ht⟩⟩
theorem own_sliceC {w : World} {base n : Nat} {v : Value} {xs : List Value} (h : w.ownsRow base 57 2 v n xs) : ∃ ao c, v = .slice ao n c ∧ ∀ a, ao = some a → base ≤ a.block := by
  obtain ⟨h1, ⟨rfl, h2⟩ | ⟨g, cap, cur, rfl, hb, hh, hn, hm, hs, ht⟩⟩ := h
  · exact ⟨none, 0, by rw [h2], fun a ha => by cases ha⟩
  · exact ⟨_, _, rfl, fun a ha => by cases ha; exact hb⟩
theorem ro_getC {w : World} {ao : Option Addr} {l : List Value} {k : Nat} (h : RoAt w ao l) (hk : k < l.length) : ∃ b off, ao = some ⟨b, off, none⟩ ∧ b < w.heap.size ∧ w.cell? ⟨b, off + k, none⟩ = some (l.getD k undef) := by
  obtain ⟨b, off, h1, h2, h3⟩ := h (by intro e; rw [e] at hk; simp at hk)
  exact ⟨b, off, h1, h2, h3 k hk⟩
set_option maxRecDepth 100000 in
set_option maxHeartbeats 400000 in
theorem cloneC_any (ao : Option Addr) (c n : Nat) (xs : List Value) (w : World) (hl : RoAt w ao xs) (h2 : xs.length = n * 2) (h1 : ∀ u ∈ xs, u.oneCell' = true) (hn : n ≤ 1000000) :
    Calls Try.prog 88 #[.slice ao n c] w fun e w' => ∃ rv, e = .returned rv ∧ w'.ownsRow w.heap.size 57 2 rv n xs ∧ Below w.heap.size w w' := by
  cases ao with
  | none =>
    have h0 : n = 0 := by
      cases n with
      | zero => rfl
      | succ n => obtain ⟨b, off, h, _⟩ := ro_getC hl (k := 0) (by omega); cases h
    subst h0
    have hx : xs = [] := List.eq_nil_of_length_eq_zero (by simpa using h2)
    subst hx
    have he := fun W => Lib.run_eql_slice_nil (P := Try.prog) W 30 57 none 0 c 0 0 Try.underlying30
    go_enter Try.func88, Try.ntmps88
    go_wp2
    go_ret
    exact ⟨_, rfl, World.ownsRow_nil _ _ _ _, Below.refl _ _⟩
  | some a =>
    have he := fun W => Lib.run_eql_slice_nil (P := Try.prog) W 30 57 (some a) n c 0 0 Try.underlying30
    obtain ⟨i0, hi, hz0, hz1, hz2⟩ : ∃ i, Try.prog.info? 57 = some i ∧ i.size = 2 ∧ i.bytes = 16 ∧ i.zero = some (.agg #[.int .i64 0, .int .i64 0]) := ⟨(Try.prog.info? 57).getD default, by kernel_rfl, by kernel_rfl, by kernel_rfl, by kernel_rfl⟩
    have hown : (w.alloc (.cells #[] 57)).ownsRow w.heap.size 57 2 (.slice (some ⟨w.heap.size, 0, none⟩) 0 0) 0 [] :=
      ⟨rfl, .inr ⟨w.heap.size, 0, #[], rfl, Nat.le_refl _, World.alloc_heap_new _ _, Nat.le_refl _, by simp [maxLen], rfl, rfl⟩⟩
    have hnews : ∀ j u, xs[j]? = some u → (w.alloc (.cells #[] 57)).cell? (a.add j) = some u := by
      intro j u hj
      obtain ⟨hj1, hj2⟩ := List.getElem?_eq_some_iff.1 hj
      obtain ⟨b, off, ha, hb, hc⟩ := ro_getC hl hj1
      obtain rfl : a = ⟨b, off, none⟩ := by simpa using ha
      have : (⟨b, off, none⟩ : Addr).add j = ⟨b, off + j, none⟩ := by
        unfold Addr.add; split
        · rename_i h; subst h; rfl
        · rfl
      rw [this, World.cell?_alloc_lt _ _ _ hb, hc, ← hj2]
      simp [List.getD_eq_getElem?_getD, List.getElem?_eq_getElem hj1]
    have hxl : xs.length = n * 2 := h2
    go_enter Try.func88, Try.ntmps88
    go_wp2_with (first | (at_builtin; go_loud (refine wpList_append_own _ rfl _ _ 30 rfl w.heap.size 57 i0 (.agg #[.int .i64 0, .int .i64 0]) 2 16 Try.underlying30 hi hz2 hz0 hz1 rfl (by decide) _ _ _ rfl hown a n c xs rfl hxl hnews h1 (by simp [maxLen]; omega) (by omega) (by simp) ?_; intro v' w1 hown1 hgrow1 _)))
    go_ret
    exact ⟨_, rfl, by simpa using hown1, ((Below.refl _ _).alloc (Nat.le_refl _) _).grown hgrow1 (by simp) (fun k e => by cases e; exact Nat.le_refl _)⟩
theorem cloneC_k {n0 nx a : Nat} {k : Kd} {l : List Cell} {L : List E} {K : V → List E → Nat → Prop} (hn : l.length ≤ 1000000) (ha : find L a = some ⟨a, k, cellC l⟩) (hK : K (V.c (.sl nx l.length)) [⟨nx, .vec 57 2, cellC l⟩] (nx + 1)) : CallK Try.prog n0 88 [V.c (.sl a l.length)] L nx K := by
  refine ⟨by kernel_rfl, fun ρ w hp _ => ?_⟩
  have hag : ∀ ρ' : Env, (cellC l).map (C.den ρ') = (cellC l).map (C.den ρ) := fun ρ' => List.map_congr_left fun c hc => by obtain ⟨z, rfl⟩ := cellC_mem hc; rfl
  have hc := cloneC_any (ρ a).1 (ρ a).2 l.length ((cellC l).map (C.den ρ)) w (hp.row ha).1 (by rw [List.length_map, cellC_len]; omega) (fun u hu => by
    obtain ⟨c, hc, rfl⟩ := List.mem_map.1 hu
    obtain ⟨z, rfl⟩ := cellC_mem hc; rfl) hn
  refine Calls.mono (show Calls Try.prog 88 ([V.c (.sl a l.length)].map (V.den ρ)).toArray w _ from hc) ?_
  rintro e w' ⟨rv, rfl, hown, hbw⟩
  obtain ⟨ao, c, rfl, hblk⟩ := own_sliceC hown
  refine ⟨V.c (.sl nx l.length), [⟨nx, .vec 57 2, cellC l⟩], nx + 1, ρ.put nx ao c, ?_, Nat.le_succ _, Nat.lt_succ_self nx, Env.put_agr _ _ _ _, hbw, News.one ?_ rfl (wf_cells _ _) ?_, hK⟩
  · simp [V.den, A.den, C.den, Env.put_same]
  · refine ⟨l.length, ?_⟩
    simp only [Env.put_same]
    rw [hag]
    exact rowO.of (own_baseC hown hp.base)
  · intro b hb
    simp only [blk, Env.put_same, Option.map_eq_some_iff] at hb
    obtain ⟨a, ha, rfl⟩ := hb
    exact hblk a ha
/-- One cell of a row of one's own, left out. -/
theorem CallM.del {n0 nx l n k : Nat} {z1 z2 : Int} {cs : List C} {L : List E} {K : V → List E → Nat → Prop} (hf : find L l = some ⟨l, .vec 57 2, cs⟩) (hlen : cs.length = n * 2) (hk : k < n) (hz1 : z1 = k) (hz2 : z2 = k + 1)
    (hK : rmK l L fun L' => K (V.c (.sl nx (n - 1))) (⟨nx, .vec 57 2, cs.take (k * 2) ++ cs.drop ((k + 1) * 2)⟩ :: L') (nx + 1)) : CallM Try.prog n0 91 [V.c (.sl l n), V.i z1, V.i z2] L nx K := by
  subst hz1 hz2
  refine ⟨by kernel_rfl, fun ρ w hp _ => ?_⟩
  rw [rmK_eq] at hK
  obtain ⟨hm, _⟩ := find_mem hf
  have hok := hp.ok _ hm
  have hwf := hp.wf _ hm
  obtain ⟨n', hown⟩ := hok
  simp only at hown
  have hn' : n' = n := by
    have h5 := hown.1
    simp only [List.length_map, hlen] at h5
    omega
  subst hn'
  have hblk := hown
  obtain ⟨_, ⟨_, h0⟩ | ⟨g, off, cap, cur, hv, hb, hg, _⟩⟩ := hown
  · omega
  have hv1 : (ρ l).1 = some ⟨g, off, none⟩ ∧ (ρ l).2 = cap := by
    simp only [Value.slice.injEq, true_and] at hv; exact hv
  rw [hv] at hblk
  have hc := delete_any g off n' cap k (k + 1) w n0 (cs.map (C.den ρ)) hblk (fun u hu => by
    obtain ⟨c, hc, rfl⟩ := List.mem_map.1 hu
    exact C.one (hwf.2 c hc) ρ) rfl (by omega)
  have hargs : ([V.c (.sl l n'), V.i (k : Nat), V.i ((k : Nat) + 1)].map (V.den ρ)).toArray = #[.slice (some ⟨g, off, none⟩) n' cap, .int .i64 (k : Nat), .int .i64 ((k + 1 : Nat) : Int)] := by
    simp [V.den, A.den, C.den, hv1.1, hv1.2]
  rw [hargs]
  refine hc.mono ?_
  rintro e w' ⟨rfl, hgr, hrow⟩
  have hkn : k + (n' - (k + 1)) = n' - 1 := by omega
  rw [hkn] at hrow ⊢
  have hcells : List.take (k * 2) (cs.map (C.den ρ)) ++ List.drop ((k + 1) * 2) (cs.map (C.den ρ)) = (cs.take (k * 2) ++ cs.drop ((k + 1) * 2)).map (C.den ρ) := by
    rw [List.map_append, List.map_take, List.map_drop]
  rw [hcells] at hrow
  have hob : blk ρ l = some g := by simp [blk, hv1.1]
  obtain ⟨g1, g2⟩ := hp.moved (L0 := rmL L l) (v := .slice (some ⟨g, off, none⟩) n' cap) (fun e he => (rmL_mem he).1) (fun y hy hcs b hb' => by
    have := cut_gone hp hm rfl rfl y hy hcs b hb'
    rw [hob] at this; exact this) (fun c hc => by
    rcases List.mem_append.1 hc with hc | hc
    · exact hwf.2 c (List.mem_of_mem_take hc)
    · exact hwf.2 c (List.mem_of_mem_drop hc)) (fun b hb' => by
      simp only [Value.ownBlock, Option.some.injEq] at hb'
      subst hb'
      exact ⟨hb, fun o ho => by rw [hg] at ho; cases ho; rfl⟩) hrow hgr (fun b hb' => .inl (by simpa [Value.ownBlock] using hb'))
  exact ⟨V.c (.sl nx (n' - 1)), _, nx + 1, ρ.put nx (some ⟨g, off, none⟩) cap, by simp [V.den, A.den, C.den, Env.put_same], by omega, Nat.lt_succ_self nx, Env.put_agr _ _ _ _, g2, g1, hK⟩
theorem backC_spec (lc n nx : Nat) (L : List E) : SpecM Try.prog 89 [V.c (.sl lc n)] L nx (fun v L' nx' => v = V.c (.fn 107 [(nx, 0)]) ∧ L' = ⟨nx, .own 30, [.sl lc n]⟩ :: L ∧ nx' = nx + 1) := by
  refine SpecM.of tok Try.func89 rfl rfl rfl fun n0 cx => vc_ok tok ?_
  repeat ((conv => whnf); first | (refine And.intro (by first | omega | exact Nat.le_of_ble_eq_true rfl | (dsimp only [inK]; omega) | (simp only [mulS_eq]; omega) | (simp only [mulS_eq, setL_length]; omega) | (simp only [setL_length]; omega) | (simp only [setL_length, List.length_map]; omega) | (exact ⟨by omega, by omega, by first | exact Nat.le_of_ble_eq_true rfl | (dsimp only; omega) | (simp only [setL_length]; omega) | (simp only [setL_length, List.length_map]; omega)⟩) | (exact ⟨by omega, by first | rfl | omega, by omega, Nat.le_of_ble_eq_true rfl, Nat.le_of_ble_eq_true rfl⟩) | (exact ⟨rfl, rfl, rfl, Nat.le_of_ble_eq_true rfl, by first | rfl | omega | exact Nat.le_of_ble_eq_true rfl | (dsimp only; omega) | (simp; done) | (simp; omega), by first | rfl | omega | exact Nat.le_of_ble_eq_true rfl | (dsimp only; omega) | (simp; done) | (simp; omega), by omega, Nat.le_of_ble_eq_true rfl⟩) | exact Eq.refl true) ?_) | refine Exists.intro _ (And.intro rfl ?_) | refine And.intro (And.intro rfl (chk_rowI _ _ _ _)) ?_ | refine br_t (by omega) ?_ | refine br_f (by omega) ?_ | refine bs_t (by omega) ?_ | refine bs_f (by omega) ?_ | refine fun (K' : K3) hK' => ?_ | (refine hK' _ _ _ ?_; clear hK' K') | refine draw_auto tok mixed (by kernel_rfl) ?_ | refine bs_bt (Eq.refl true) ?_ | refine bs_bf (Eq.refl false) ?_ | refine br_bt (Eq.refl true) ?_ | refine br_bf (Eq.refl false) ?_ | refine CallK.m ?_ | refine Two.l ?_ | refine And.intro (And.intro rfl rfl) ?_)
  exact ⟨rfl, rfl, rfl⟩
theorem bmF_del (f : Int → Bool) (i : Int) : delF (bmF f) [i] = bmF (fun j => f j && !decide (j = i)) := by
  funext k
  unfold delF
  match k with
  | [] => rfl
  | [j] =>
    by_cases h : j = i
    · subst h; simp [bmF]
    · have : ¬ ([j] : List Int) = [i] := by simpa using h
      simp only [this, if_false, bmF, h, decide_false, Bool.not_false, Bool.and_true]
  | _ :: _ :: _ => simp [bmF]
/-- The cells of a list but one. -/
theorem cellC_erase : ∀ (l : List Cell) (k : Nat), (cellC l).take (k * 2) ++ (cellC l).drop ((k + 1) * 2) = cellC (l.eraseIdx k)
  | [], k => by simp [cellC]
  | x :: r, 0 => by simp [cellC_cons]
  | x :: r, k + 1 => by
    have := cellC_erase r k
    rw [List.eraseIdx_cons_succ, cellC_cons, cellC_cons, ← this, show (k + 1 + 1) * 2 = ((k + 1) * 2 + 1) + 1 by omega, show (cellC r).take (k * 2) = (cellC r).take (k * 2) from rfl]
    simp only [show (k + 1) * 2 = (k * 2 + 1) + 1 by omega, List.take_succ_cons, List.drop_succ_cons, List.cons_append]
end Go.Proofs.Ytbhpnhcdjmcaoaa

/- Boom: Thin. -/
namespace Go.Proofs.Ytbhpnhcdjmcaoaa
open Go.RowKit
set_option linter.unusedVariables false
set_option linter.unusedSimpArgs false
noncomputable def thC (W H : Int) (cs : List Int) (bs : List Cell) : List Cell := if okC W H cs && okB W H cs bs && blkL W H cs bs then thinO W H cs bs else []
noncomputable def thE (W H : Int) (cs : List Int) (bs : List Cell) : Int := if okC W H cs then (if okB W H cs bs then (if blkL W H cs bs then 0 else 5) else 2) else 30
set_option maxRecDepth 10000 in
set_option maxHeartbeats 8000000 in
theorem Thin_spec (W H : Int) (cs : List Int) (bs : List Cell) (hl : cs.length ≤ 300) (hb : bs.length ≤ 300) :
    Spec Try.prog 48 [chR W H cs.length, V.c (.sl 1 bs.length)] [⟨0, .ro 0, cs.map C.i⟩, ⟨1, .ro 0, cellC bs⟩] 2 (fun v L' _ => cellsE (thC W H cs bs) (thE W H cs bs) v L') := by
  unfold thC thE
  have hcl := cellC_len bs
  refine Spec.of tok Try.func48 rfl rfl rfl fun n0 cx => vc_ok tok ?_
  cases hv : okC W H cs with
  | false =>
    repeat ((conv => whnf); first | (refine And.intro (by first | omega | exact Nat.le_of_ble_eq_true rfl) ?_) | refine Exists.intro _ (And.intro rfl ?_) | refine br_t (by omega) ?_ | refine fun (K' : K3) hK' => ?_ | (refine hK' _ _ _ ?_; clear hK' K') | refine CallK.newNo (a := 0) (bs := bs) (R := []) 30 hl hb (.inl ⟨hv, rfl⟩) rfl rfl ⟨roE_ints (l := 0) rfl (by omega) rfl (.inl rfl), roE_cells (l := 1) rfl (by omega) rfl (.inl rfl), trivial⟩ ?_ | refine CallK.m ?_)
    exact .inl ⟨rfl, rfl⟩
  | true =>
    cases hB : okB W H cs bs with
    | false =>
      repeat ((conv => whnf); first | (refine And.intro (by first | omega | exact Nat.le_of_ble_eq_true rfl) ?_) | refine Exists.intro _ (And.intro rfl ?_) | refine br_t (by omega) ?_ | refine fun (K' : K3) hK' => ?_ | (refine hK' _ _ _ ?_; clear hK' K') | refine CallK.newNo (a := 0) (bs := bs) (R := []) 2 hl hb (.inr ⟨hv, hB, rfl⟩) rfl rfl ⟨roE_ints (l := 0) rfl (by omega) rfl (.inl rfl), roE_cells (l := 1) rfl (by omega) rfl (.inl rfl), trivial⟩ ?_ | refine CallK.m ?_)
      exact .inl ⟨rfl, rfl⟩
    | true =>
      have hok := okC_iff.1 hv
      have hbl := fun f => blocks_spec W H cs f hok
      have hbl0 := hbl (boomF W H bs)
      rw [show (chanO W H cs.length (wetB cs (boomF W H bs))).isNone = blkL W H cs bs from rfl] at hbl0
      cases hk : blkL W H cs bs with
      | false =>
        rw [hk] at hbl0
        repeat ((conv => whnf); first | (refine And.intro (by first | omega | exact Nat.le_of_ble_eq_true rfl) ?_) | refine Exists.intro _ (And.intro rfl ?_) | refine br_f (by omega) ?_ | refine fun (K' : K3) hK' => ?_ | (refine hK' _ _ _ ?_; clear hK' K') | refine CallK.newOk (a := 0) (bs := bs) (R := []) hl hb hv hB rfl rfl (by omega) ⟨roE_ints (l := 0) rfl (by omega) rfl (.inl rfl), roE_cells (l := 1) rfl (by omega) rfl (.inl rfl), trivial⟩ ?_ | refine CallK.val (R := [(1, some 3)]) hbl0 (by kernel_rfl) rfl (by simp [V.wf, A.wf, C.wf]) ⟨roE_ints (l := 0) rfl (by omega) rfl (.inl rfl), roE_map (l := 3) rfl (by omega) rfl, trivial⟩ rfl rfl trivial ?_ | refine br_bt (Eq.refl true) ?_ | refine CallK.m ?_)
        exact .inl ⟨rfl, rfl⟩
      | true =>
        rw [hk] at hbl0
        have hW : 0 < W := by have := hok.w; omega
        repeat ((conv => whnf); first | (refine And.intro (by first | omega | exact Nat.le_of_ble_eq_true rfl) ?_) | refine Exists.intro _ (And.intro rfl ?_) | refine br_f (by omega) ?_ | refine fun (K' : K3) hK' => ?_ | (refine hK' _ _ _ ?_; clear hK' K') | refine CallK.newOk (a := 0) (bs := bs) (R := []) hl hb hv hB rfl rfl (by omega) ⟨roE_ints (l := 0) rfl (by omega) rfl (.inl rfl), roE_cells (l := 1) rfl (by omega) rfl (.inl rfl), trivial⟩ ?_ | refine CallK.val (R := [(1, some 3)]) hbl0 (by kernel_rfl) rfl (by simp [V.wf, A.wf, C.wf]) ⟨roE_ints (l := 0) rfl (by omega) rfl (.inl rfl), roE_map (l := 3) rfl (by omega) rfl, trivial⟩ rfl rfl trivial ?_ | refine cloneC_k (l := bs) (by omega) rfl ?_ | refine CallK.fresh (by kernel_rfl) (backC_spec _ _ _ _) rfl ?_ | refine br_bf (Eq.refl false) ?_ | refine CallK.m ?_)
        refine Tri.opq fun K' hK' => ?_
        refine Tri.rangeFunc tok (by exact rfl) (by kernel_rfl) (by exact rfl) (by exact rfl) (by exact rfl) (by exact rfl) (by exact rfl) (by exact rfl) ?_
        intro y cxi oo ob od hy hY
        refine vc_ok tok ?_
        repeat ((conv => whnf); first | (refine And.intro (by first | omega | (dsimp only [inK]; omega)) ?_) | refine Exists.intro _ (And.intro rfl ?_) | refine fun (K' : K3) hK' => ?_ | (refine hK' _ _ _ ?_; clear hK' K'))
        refine Tri.loop (γ := Nat × List Cell) (fun g => thinL (blkL W H cs) g.1 g.2 = thinO W H cs bs ∧ g.2.Sublist bs ∧ g.2.take g.1 = bs.take g.1 ∧ g.1 ≤ g.2.length) (fun g => [(0, V.c (.v y)), (1, V.c (.ptr 7 0)), (3, V.i ((g.1 : Int) - 1))])
          (fun g => [⟨8, .obj oo, []⟩, ⟨7, .own 30, [.sl 1 bs.length]⟩, ⟨6, .own 30, [.sl 20 g.2.length]⟩, ⟨20, .vec 57 2, cellC g.2⟩, ⟨4, .own 65, [C.i W, C.i H, .sl 0 cs.length, .mp 3]⟩, ⟨3, .mp true .int (bmF (boomF W H g.2)), []⟩, ⟨2, .own 24, [C.i W, C.i H, .sl 0 cs.length]⟩, ⟨0, .ro 0, cs.map C.i⟩, ⟨1, .ro 0, cellC bs⟩]) 21 (fun g => g.1) (bs.length, bs) (R0 := [(20, some 5)]) ?_ ?_ ?_
        · exact ⟨rfl, List.Sublist.refl _, rfl, Nat.le_refl _⟩
        · skip
          refine ⟨?_, ?_, rfl, rfl, by exact Nat.le_of_ble_eq_true rfl⟩
          · repeat (first | exact trivial | (refine And.intro (covS_syn (by rfl) rfl (by first | exact trivial | exact Nat.le_of_ble_eq_true rfl | exact hy)) ?_))
          · repeat (first | exact trivial | refine And.intro (covE_mp rfl (Nat.le_of_ble_eq_true rfl) rfl rfl) ?_ | refine And.intro (covE_some rfl (Nat.le_of_ble_eq_true rfl) (wf_cells _ _) rfl (ren_cells _ _)) ?_ | (refine And.intro (covE_some rfl (Nat.le_of_ble_eq_true rfl) (by first | exact wf_ints _ _ | simp [C.wf]) rfl (by first | exact ren_ints _ _ | rfl)) ?_))
        · rintro ⟨m, out⟩ ⟨hT, hs, ht, hm⟩
          simp only at hT hs ht hm ⊢
          have hol := hs.length_le
          refine vc_ok tok ?_
          cases m with
          | zero =>
            have hT : out = thinO W H cs bs := hT
            repeat ((conv => whnf); first | refine br_f (by omega) ?_ | refine fun (K' : K3) hK' => ?_ | (refine hK' _ _ _ ?_; clear hK' K') | refine Or.inl ?_ | refine And.intro (Eq.refl oo) ?_)
            refine hK' _ _ _ _ ?_
            repeat ((conv => whnf); first | refine Exists.intro _ (And.intro rfl ?_) | refine fun (K' : K3) hK' => ?_ | (refine hK' _ _ _ ?_; clear hK' K'))
            subst hT
            exact .inr ⟨20, rfl, rfl⟩
          | succ k =>
            have hkb : k < bs.length := by omega
            have hko : k < out.length := by omega
            obtain ⟨t1, t2, t3, t4⟩ := thin_step ht hm hkb
            have hoo := okB_sub hok hB hs
            have hld := cellT (l := bs) (k := k) (z := ((k + 1 : Nat) : Int) - 1) (by omega) hkb
            have e : bs.getD k (0, 0) = out[k] := by rw [List.getD_eq_getElem?_getD, List.getElem?_eq_getElem hkb]; exact t1
            rw [e] at hld
            have hon := (okB_mem hW hoo (List.getElem_mem hko)).1
            have hix := index_spec W H cs.length out[k].1 out[k].2 (by have := hok.w; omega) (by have := hok.h; omega)
            rw [show idxI W H out[k].1 out[k].2 = idxC W H out[k] from rfl] at hix
            have hbe := boomF_erase hok hoo hko
            have hbb := boomF_back (W := W) (H := H) hko
            have hbi := idxI_bd (x := out[k].1) (y := out[k].2) hok.w hok.h
            rw [show idxI W H out[k].1 out[k].2 = idxC W H out[k] from rfl] at hbi
            have hbl1 := hbl (boomF W H (out.eraseIdx k))
            rw [show (chanO W H cs.length (wetB cs (boomF W H (out.eraseIdx k)))).isNone = blkL W H cs (out.eraseIdx k) from rfl] at hbl1
            have hTT : thinL (blkL W H cs) k (if blkL W H cs (out.eraseIdx k) = true then out.eraseIdx k else out) = thinO W H cs bs := hT
            have hce := cellC_erase out k
            have hlo := cellC_len out
            have hle : (out.eraseIdx k).length = out.length - 1 := List.length_eraseIdx_of_lt hko
            obtain ⟨p, hp⟩ : ∃ p, p = out[k] := ⟨_, rfl⟩
            rw [← hp] at hld hix hbe hbb hbi
            obtain ⟨i, hi⟩ : ∃ i, i = idxC W H p := ⟨_, rfl⟩
            rw [← hi] at hix hbe hbb hbi
            have hdl : delF (bmF (boomF W H out)) [i] = bmF (boomF W H (out.eraseIdx k)) := by rw [bmF_del, hbe]
            repeat ((conv => whnf); first | (refine And.intro (by first | omega | (dsimp only [inK]; omega)) ?_) | with_reducible refine ld (hld) ?_ | refine Exists.intro _ (And.intro rfl ?_) | refine br_t (by omega) ?_ | refine fun (K' : K3) hK' => ?_ | (refine hK' _ _ _ ?_; clear hK' K'))
            refine hY _ _ _ _ (Nat.le_of_ble_eq_true rfl) rfl ⟨rfl, trivial⟩ ?_
            intro cxb hcx
            refine vc_ok tok ?_
            repeat ((conv => whnf); first | (refine And.intro (by first | omega | exact Nat.le_of_ble_eq_true rfl) ?_) | refine fun (K' : K3) hK' => ?_ | (refine hK' _ _ _ ?_; clear hK' K') | refine And.intro (Eq.refl oo) ?_)
            refine vc_ok tok ?_
            cases hkk : blkL W H cs (out.eraseIdx k) with
            | true =>
              rw [hkk] at hbl1
              rw [hkk, if_pos rfl] at hTT
              repeat ((conv => whnf); first | (refine And.intro (by first | omega | exact Nat.le_of_ble_eq_true rfl | (dsimp only [inK]; omega)) ?_) | refine Exists.intro _ (And.intro rfl ?_) | refine fun (K' : K3) hK' => ?_ | (refine hK' _ _ _ ?_; clear hK' K') | refine CallM.del (k := k) rfl (by omega) (by omega) (by omega) (by omega) ?_ | refine CallK.val (R := [(1, some 3)]) hix (by kernel_rfl) rfl (by simp [V.wf, A.wf, C.wf]) trivial rfl rfl trivial ?_ | (refine CallK.val (R := [(1, some 3)]) hbl1 (by kernel_rfl) rfl (by simp [V.wf, A.wf, C.wf]) ⟨roE_ints (l := 0) rfl (by omega) rfl (.inl rfl), roE_map (l := 3) rfl (by omega) (by rw [← hdl]; rfl), trivial⟩ rfl rfl trivial ?_) | refine And.intro (Eq.refl ob) ?_ | refine br_bt (Eq.refl true) ?_ | refine CallK.m ?_)
              refine ⟨(k, out.eraseIdx k), [(20, some 22)], ⟨hTT, (List.eraseIdx_sublist _ _).trans hs, t2, t4⟩, Nat.lt_succ_self k, ?_⟩
              simp only [hle]
              refine ⟨?_, ?_, rfl, rfl, by exact Nat.le_of_ble_eq_true rfl⟩
              · repeat (first | exact trivial | (refine And.intro (covS_syn (by first | rfl | (refine congrArg some (congrArg V.i ?_); omega)) rfl (by first | exact trivial | exact Nat.le_of_ble_eq_true rfl | exact hy)) ?_))
              · repeat (first | exact trivial | refine And.intro (covE_mp rfl (Nat.le_of_ble_eq_true rfl) rfl hdl) ?_ | refine And.intro (covE_some rfl (Nat.le_of_ble_eq_true rfl) (wf_cells _ _) rfl ((ren_cells _ _).trans (congrArg some hce.symm))) ?_ | refine And.intro (covE_some rfl (Nat.le_of_ble_eq_true rfl) (wf_cells _ _) rfl (ren_cells _ _)) ?_ | (refine And.intro (covE_some rfl (Nat.le_of_ble_eq_true rfl) (by first | exact wf_ints _ _ | simp [C.wf]) rfl (by first | exact ren_ints _ _ | rfl)) ?_))
            | false =>
              rw [hkk] at hbl1
              rw [hkk, if_neg (by simp)] at hTT
              repeat ((conv => whnf); first | (refine And.intro (by first | omega | exact Nat.le_of_ble_eq_true rfl | (dsimp only [inK]; omega)) ?_) | refine Exists.intro _ (And.intro rfl ?_) | refine fun (K' : K3) hK' => ?_ | (refine hK' _ _ _ ?_; clear hK' K') | refine CallK.val (R := [(1, some 3)]) hix (by kernel_rfl) rfl (by simp [V.wf, A.wf, C.wf]) trivial rfl rfl trivial ?_ | (refine CallK.val (R := [(1, some 3)]) hbl1 (by kernel_rfl) rfl (by simp [V.wf, A.wf, C.wf]) ⟨roE_ints (l := 0) rfl (by omega) rfl (.inl rfl), roE_map (l := 3) rfl (by omega) (by rw [← hdl]; rfl), trivial⟩ rfl rfl trivial ?_) | refine And.intro (Eq.refl ob) ?_ | refine br_bf (Eq.refl false) ?_ | refine CallK.m ?_)
              refine ⟨(k, out), [], ⟨hTT, hs, t3, by simp only; omega⟩, Nat.lt_succ_self k, ?_⟩
              refine ⟨?_, ?_, rfl, rfl, by exact Nat.le_of_ble_eq_true rfl⟩
              · repeat (first | exact trivial | (refine And.intro (covS_syn (by first | rfl | (refine congrArg some (congrArg V.i ?_); omega)) rfl (by first | exact trivial | exact Nat.le_of_ble_eq_true rfl | exact hy)) ?_))
              · repeat (first | exact trivial | (refine And.intro (covE_mp rfl (Nat.le_of_ble_eq_true rfl) rfl (by rw [bmF_del, bmF_upd]; exact congrArg bmF hbb)) ?_) | (refine And.intro (covE_id (Nat.le_of_ble_eq_true rfl) (by first | exact wf_ints _ _ | first | exact wf_cells _ _ | exact wf_zc _ | simp [C.wf]) rfl (by rfl)) ?_))
end Go.Proofs.Ytbhpnhcdjmcaoaa

/- Boom: the booms of a chart, those of a list. -/
namespace Go.Proofs.Ytbhpnhcdjmcaoaa
open Go.RowKit
set_option linter.unusedVariables false
set_option linter.unusedSimpArgs false
def boomsK (W : Int) (cs : List Int) (k : Nat) : List Cell := ((List.range k).filter fun i => decide (cs.getD i 0 > 0)).map fun i : Nat => cellI W (i : Int)
theorem boomsK_t {W : Int} {cs : List Int} {k : Nat} (h : cs.getD k 0 > 0) : boomsK W cs (k + 1) = boomsK W cs k ++ [cellI W k] := by
  unfold boomsK
  rw [List.range_succ, List.filter_append, List.map_append, List.filter_cons_of_pos (by rw [decide_eq_true_eq]; exact h)]; rfl
theorem boomsK_f {W : Int} {cs : List Int} {k : Nat} (h : ¬ cs.getD k 0 > 0) : boomsK W cs (k + 1) = boomsK W cs k := by
  unfold boomsK
  rw [List.range_succ, List.filter_append, List.map_append, List.filter_cons_of_neg (by rw [decide_eq_true_eq]; exact h)]
  simp
theorem boomsK_len (W : Int) (cs : List Int) (k : Nat) : (boomsK W cs k).length ≤ k := by
  unfold boomsK
  rw [List.length_map]
  exact Nat.le_trans (List.length_filter_le _ _) (by simp)
set_option maxRecDepth 10000 in
set_option maxHeartbeats 4000000 in
theorem booms_spec (W H : Int) (cs : List Int) (hW : 0 < W) (hl : cs.length ≤ 300) :
    Spec Try.prog 55 [chR W H cs.length] [⟨0, .ro 0, cs.map C.i⟩] 1 (fun v L' _ => cellsX (boomsL W cs) v L') := by
  have hlm : (cs.map C.i).length = cs.length := by simp
  refine Spec.of tok Try.func55 rfl rfl rfl fun n0 cx => vc_ok tok ?_
  repeat ((conv => whnf); first | (refine And.intro (by first | omega | exact Nat.le_of_ble_eq_true rfl | (dsimp only [inK]; omega) | (simp only [mulS_eq]; omega) | (simp only [mulS_eq, setL_length]; omega) | (simp only [setL_length]; omega) | (simp only [setL_length, List.length_map]; omega) | (exact ⟨by omega, by omega, by first | exact Nat.le_of_ble_eq_true rfl | (dsimp only; omega) | (simp only [setL_length]; omega) | (simp only [setL_length, List.length_map]; omega)⟩) | (exact ⟨by omega, by first | rfl | omega, by omega, Nat.le_of_ble_eq_true rfl, Nat.le_of_ble_eq_true rfl⟩) | (exact ⟨rfl, rfl, rfl, Nat.le_of_ble_eq_true rfl, by first | rfl | omega | exact Nat.le_of_ble_eq_true rfl | (dsimp only; omega) | (simp; done) | (simp; omega), by first | rfl | omega | exact Nat.le_of_ble_eq_true rfl | (dsimp only; omega) | (simp; done) | (simp; omega), by omega, Nat.le_of_ble_eq_true rfl⟩) | exact Eq.refl true) ?_) | refine Exists.intro _ (And.intro rfl ?_) | refine And.intro (And.intro rfl (chk_rowI _ _ _ _)) ?_ | refine br_t (by omega) ?_ | refine br_f (by omega) ?_ | refine bs_t (by omega) ?_ | refine bs_f (by omega) ?_ | refine fun (K' : K3) hK' => ?_ | (refine hK' _ _ _ ?_; clear hK' K') | refine draw_auto tok mixed (by kernel_rfl) ?_ | refine bs_bt (Eq.refl true) ?_ | refine bs_bf (Eq.refl false) ?_ | refine br_bt (Eq.refl true) ?_ | refine br_bf (Eq.refl false) ?_ | refine CallK.m ?_ | refine Two.l ?_ | refine And.intro (And.intro rfl rfl) ?_)
  refine Tri.loop (γ := Nat) (fun k => k ≤ cs.length) (fun k => [(1, V.c (.ptr 1 0)), (3, V.c (.sl 2 (boomsK W cs k).length)), (7, V.c (.sl 0 cs.length)), (8, V.i cs.length), (9, V.i (k : Nat))]) (fun k => [⟨2, .vec 57 2, cellC (boomsK W cs k)⟩, ⟨1, .own 24, [C.i W, C.i H, .sl 0 cs.length]⟩, ⟨0, .ro 0, cs.map C.i⟩]) 3 (fun k => cs.length - k) 0 (R0 := [(2, none)]) ?_ ?_ ?_
  · omega
  · skip
    refine ⟨?_, ?_, rfl, rfl, by first | exact Nat.le_of_ble_eq_true rfl | exact Nat.le_refl _ | omega⟩
    · repeat (first | exact trivial | (refine And.intro (covS_syn (by rfl) rfl (by first | exact trivial | exact Nat.le_of_ble_eq_true rfl | exact hy | exact (fun p hp => nomatch hp) | (show (_ : Nat) < _; omega))) ?_) | refine And.intro (covS_bool rfl rfl (by rfl)) ?_)
    · repeat (first | exact trivial | refine And.intro (covE_nil rfl (Nat.le_of_ble_eq_true rfl) rfl rfl) ?_ | (refine And.intro (covE_some rfl (Nat.le_of_ble_eq_true rfl) (by first | exact wf_ints _ _ | exact wf_bools _ _ | first | exact wf_cells _ _ | simp [C.wf]) rfl (by first | exact ren_ints _ _ | exact ren_bools _ _ | exact ren_shares _ _ | rfl)) ?_))
  · intro k hk
    refine vc_ok tok ?_
    by_cases hlt : k < cs.length
    · have hat := at_spec W H cs.length (k : Int) hW (by omega)
      have hb := boomsK_len W cs k
      have hcl := cellC_len (boomsK W cs k)
      by_cases hc : cs.getD k 0 > 0
      · repeat ((conv => whnf); first | (refine And.intro (by first | omega | exact Nat.le_of_ble_eq_true rfl | (dsimp only [inK]; omega) | (simp only [mulS_eq]; omega) | (simp only [mulS_eq, setL_length]; omega) | (simp only [setL_length]; omega) | (simp only [setL_length, List.length_map]; omega) | (exact ⟨by omega, by omega, by first | exact Nat.le_of_ble_eq_true rfl | (dsimp only; omega) | (simp only [setL_length]; omega) | (simp only [setL_length, List.length_map]; omega)⟩) | (exact ⟨by omega, by first | rfl | omega, by omega, Nat.le_of_ble_eq_true rfl, Nat.le_of_ble_eq_true rfl⟩) | (exact ⟨rfl, rfl, rfl, Nat.le_of_ble_eq_true rfl, by first | rfl | omega | exact Nat.le_of_ble_eq_true rfl | (dsimp only; omega) | (simp; done) | (simp; omega), by first | rfl | omega | exact Nat.le_of_ble_eq_true rfl | (dsimp only; omega) | (simp; done) | (simp; omega), by omega, Nat.le_of_ble_eq_true rfl⟩) | exact Eq.refl true) ?_) | with_reducible refine ld (intL hlt) ?_ | refine Exists.intro _ (And.intro rfl ?_) | refine And.intro (And.intro rfl (chk_rowI _ _ _ _)) ?_ | refine br_t (by omega) ?_ | refine br_f (by omega) ?_ | refine bs_t (by omega) ?_ | refine bs_f (by omega) ?_ | refine fun (K' : K3) hK' => ?_ | (refine hK' _ _ _ ?_; clear hK' K') | refine draw_auto tok mixed (by kernel_rfl) ?_ | refine br_t hc ?_ | refine CallK.val (R := []) hat (by kernel_rfl) rfl (by simp [V.wf, A.wf, C.wf]) trivial rfl rfl (by simp [V.wf, A.wf, C.wf]) ?_ | refine bs_bt (Eq.refl true) ?_ | refine bs_bf (Eq.refl false) ?_ | refine br_bt (Eq.refl true) ?_ | refine br_bf (Eq.refl false) ?_ | refine CallK.m ?_ | refine Two.l ?_ | refine And.intro (And.intro rfl rfl) ?_)
        refine ⟨k + 1, [(2, some 4)], by omega, by omega, ?_⟩
        have hnew : cellC (boomsK W cs (k + 1)) = cellC (boomsK W cs k) ++ [C.i ((k : Int) % W), C.i ((k : Int) / W)] := by
          rw [boomsK_t hc, cellC_app]; rfl
        have hnl : (boomsK W cs (k + 1)).length = (boomsK W cs k).length + 1 := by rw [boomsK_t hc, List.length_append]; rfl
        rw [hnl]
        refine ⟨?_, ?_, rfl, rfl, by first | exact Nat.le_of_ble_eq_true rfl | exact Nat.le_refl _ | omega⟩
        · repeat (first | exact trivial | (refine And.intro (covS_syn (by first | rfl | (refine congrArg some (congrArg V.i ?_); omega)) rfl (by first | exact trivial | exact Nat.le_of_ble_eq_true rfl | exact hy | exact (fun p hp => nomatch hp) | (show (_ : Nat) < _; omega))) ?_) | refine And.intro (covS_bool rfl rfl (by rfl)) ?_)
        · repeat (first | exact trivial | (refine And.intro (covE_some rfl (Nat.le_of_ble_eq_true rfl) (wf_cells _ _) rfl ((ren_cells _ _).trans (congrArg some (by rw [hnew]; rfl)))) ?_) | refine And.intro (covE_nil rfl (Nat.le_of_ble_eq_true rfl) rfl rfl) ?_ | (refine And.intro (covE_some rfl (Nat.le_of_ble_eq_true rfl) (by first | exact wf_ints _ _ | exact wf_bools _ _ | first | exact wf_cells _ _ | simp [C.wf]) rfl (by first | exact ren_ints _ _ | exact ren_bools _ _ | exact ren_shares _ _ | rfl)) ?_))
      · repeat ((conv => whnf); first | (refine And.intro (by first | omega | exact Nat.le_of_ble_eq_true rfl | (dsimp only [inK]; omega) | (simp only [mulS_eq]; omega) | (simp only [mulS_eq, setL_length]; omega) | (simp only [setL_length]; omega) | (simp only [setL_length, List.length_map]; omega) | (exact ⟨by omega, by omega, by first | exact Nat.le_of_ble_eq_true rfl | (dsimp only; omega) | (simp only [setL_length]; omega) | (simp only [setL_length, List.length_map]; omega)⟩) | (exact ⟨by omega, by first | rfl | omega, by omega, Nat.le_of_ble_eq_true rfl, Nat.le_of_ble_eq_true rfl⟩) | (exact ⟨rfl, rfl, rfl, Nat.le_of_ble_eq_true rfl, by first | rfl | omega | exact Nat.le_of_ble_eq_true rfl | (dsimp only; omega) | (simp; done) | (simp; omega), by first | rfl | omega | exact Nat.le_of_ble_eq_true rfl | (dsimp only; omega) | (simp; done) | (simp; omega), by omega, Nat.le_of_ble_eq_true rfl⟩) | exact Eq.refl true) ?_) | with_reducible refine ld (intL hlt) ?_ | refine Exists.intro _ (And.intro rfl ?_) | refine And.intro (And.intro rfl (chk_rowI _ _ _ _)) ?_ | refine br_t (by omega) ?_ | refine br_f (by omega) ?_ | refine bs_t (by omega) ?_ | refine bs_f (by omega) ?_ | refine fun (K' : K3) hK' => ?_ | (refine hK' _ _ _ ?_; clear hK' K') | refine draw_auto tok mixed (by kernel_rfl) ?_ | refine br_f hc ?_ | refine bs_bt (Eq.refl true) ?_ | refine bs_bf (Eq.refl false) ?_ | refine br_bt (Eq.refl true) ?_ | refine br_bf (Eq.refl false) ?_ | refine CallK.m ?_ | refine Two.l ?_ | refine And.intro (And.intro rfl rfl) ?_)
        refine ⟨k + 1, [], by omega, by omega, ?_⟩
        rw [boomsK_f hc]
        refine ⟨?_, ?_, rfl, rfl, by first | exact Nat.le_of_ble_eq_true rfl | exact Nat.le_refl _ | omega⟩
        · repeat (first | exact trivial | (refine And.intro (covS_syn (by first | rfl | (refine congrArg some (congrArg V.i ?_); omega)) rfl (by first | exact trivial | exact Nat.le_of_ble_eq_true rfl | exact hy | exact (fun p hp => nomatch hp) | (show (_ : Nat) < _; omega))) ?_) | refine And.intro (covS_bool rfl rfl (by rfl)) ?_)
        · repeat (first | exact trivial | (refine And.intro (covE_id (Nat.le_of_ble_eq_true rfl) (by first | exact wf_ints _ _ | exact wf_bools _ _ | first | exact wf_cells _ _ | simp [C.wf]) rfl (by rfl)) ?_))
    · have hkl : k = cs.length := by omega
      subst hkl
      repeat ((conv => whnf); first | (refine And.intro (by first | omega | exact Nat.le_of_ble_eq_true rfl | (dsimp only [inK]; omega) | (simp only [mulS_eq]; omega) | (simp only [mulS_eq, setL_length]; omega) | (simp only [setL_length]; omega) | (simp only [setL_length, List.length_map]; omega) | (exact ⟨by omega, by omega, by first | exact Nat.le_of_ble_eq_true rfl | (dsimp only; omega) | (simp only [setL_length]; omega) | (simp only [setL_length, List.length_map]; omega)⟩) | (exact ⟨by omega, by first | rfl | omega, by omega, Nat.le_of_ble_eq_true rfl, Nat.le_of_ble_eq_true rfl⟩) | (exact ⟨rfl, rfl, rfl, Nat.le_of_ble_eq_true rfl, by first | rfl | omega | exact Nat.le_of_ble_eq_true rfl | (dsimp only; omega) | (simp; done) | (simp; omega), by first | rfl | omega | exact Nat.le_of_ble_eq_true rfl | (dsimp only; omega) | (simp; done) | (simp; omega), by omega, Nat.le_of_ble_eq_true rfl⟩) | exact Eq.refl true) ?_) | refine Exists.intro _ (And.intro rfl ?_) | refine And.intro (And.intro rfl (chk_rowI _ _ _ _)) ?_ | refine br_t (by omega) ?_ | refine br_f (by omega) ?_ | refine bs_t (by omega) ?_ | refine bs_f (by omega) ?_ | refine fun (K' : K3) hK' => ?_ | (refine hK' _ _ _ ?_; clear hK' K') | refine draw_auto tok mixed (by kernel_rfl) ?_ | refine bs_bt (Eq.refl true) ?_ | refine bs_bf (Eq.refl false) ?_ | refine br_bt (Eq.refl true) ?_ | refine br_bf (Eq.refl false) ?_ | refine CallK.m ?_ | refine Two.l ?_ | refine And.intro (And.intro rfl rfl) ?_)
      exact .inr ⟨2, rfl, rfl⟩
end Go.Proofs.Ytbhpnhcdjmcaoaa

