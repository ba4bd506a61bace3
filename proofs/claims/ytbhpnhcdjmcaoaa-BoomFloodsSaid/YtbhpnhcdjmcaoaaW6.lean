/- Texts of the proof, part 6: L13. -/
import Derived.Test.YtbhpnhcdjmcaoaaW5
import Derived.WalkKit
import Derived.Below
import Derived.Laws.OwnMore
import Derived.Maps.AppendAt
import Derived.Laws.IdiomCopy
import Derived.Laws.CopyRow
import Derived.IntWalk
import Derived.StillTail
import Derived.Scope
import Derived.ChangeKeysEq
import Derived.Laws.Small
import Derived.OrdersIn
import Derived.TacticsIn
import Derived.OwnWalkIn
import Derived.RangeFuncNested
import Derived.RangeFuncLeaves
import Derived.RangeFuncRecord
import Derived.Maps.Keyed
import Derived.Maps.RangeRun
import Derived.DeepKeys4
import Derived.Test.YtbhpnhcdjmcaoaaRows
import Derived.KernelRfl
import Derived.ProofKit
import Derived.OpenShut
import Derived.Lib.SmallJoins
import Derived.Deep.Slices
import Derived.Sort.LoopGhostIn
import Derived.Shelf.Sort.Plain
import Derived.Shelf.Slices.In.SortNone
import Derived.PlainAid
import Derived.StillTailTactics
import Derived.WalkSpells
import Derived.OwnWalk
import Derived.Deep.RegionLaw
import Derived.Lib.SliceRun
/- Boom: the law of the floods. -/
namespace Go.Proofs.Ytbhpnhcdjmcaoaa
open Go.RowKit
set_option linter.unusedVariables false
set_option linter.unusedSimpArgs false
theorem floods_long (W H : Int) (cs : List Int) (bs : List Cell) (hcs : cs.length < 9223372036854775808) (hb : bs.length < 9223372036854775808) (h : (cs.length : Int) > 300 ∨ (bs.length : Int) > 250) :
    Spec Try.prog 13 [chR W H cs.length, V.c (.sl 1 bs.length)] [⟨0, .ro 0, cs.map C.i⟩, ⟨1, .ro 2, cellC bs⟩] 2 (Is (V.c (.bool true))) := by
  refine Spec.of tok Try.func13 rfl rfl rfl fun n0 cx => vc_ok tok ?_
  by_cases h1 : (cs.length : Int) > 300
  · repeat ((conv => whnf); first | refine Exists.intro _ (And.intro rfl ?_) | refine bs_t (by omega) ?_ | refine fun (K' : K3) hK' => ?_ | (refine hK' _ _ _ ?_; clear hK' K') | refine wide_k hcs ?_ | refine awake_k ?_ | refine CallK.m ?_)
    intro ρ; rfl
  · have h2 : (bs.length : Int) > 250 := by omega
    repeat ((conv => whnf); first | refine Exists.intro _ (And.intro rfl ?_) | refine br_t (by omega) ?_ | refine bs_f (by omega) ?_ | refine fun (K' : K3) hK' => ?_ | (refine hK' _ _ _ ?_; clear hK' K') | refine wide_k hcs ?_ | refine long_k hb ?_ | refine awake_k ?_ | refine CallK.m ?_)
    intro ρ; rfl
theorem flC_len (W H : Int) (cs : List Int) (bs : List Cell) (hl : cs.length ≤ 300) : (flC W H cs bs).length ≤ 300 := by
  unfold flC
  split
  · exact Nat.le_trans (floK_len _ _ _) hl
  · simp
theorem thC_len (W H : Int) (cs : List Int) (bs : List Cell) (hl : bs.length ≤ 300) : (thC W H cs bs).length ≤ 300 := by
  unfold thC
  split
  · exact Nat.le_trans (thinO_sub bs).length_le hl
  · simp
set_option maxRecDepth 10000 in
set_option maxHeartbeats 8000000 in
theorem floods_spec (W H : Int) (cs : List Int) (bs : List Cell) (hcs : ¬ (cs.length : Int) > 300) (hbs : ¬ (bs.length : Int) > 250) :
    Spec Try.prog 13 [chR W H cs.length, V.c (.sl 1 bs.length)] [⟨0, .ro 0, cs.map C.i⟩, ⟨1, .ro 2, cellC bs⟩] 2 (Is (V.c (.bool true))) := by
  have h1 := pFlooded_spec W H cs bs (by omega) (by omega)
  have h2 := rFlooded_spec W H cs bs (by omega) (by omega)
  have h3 := Thin_spec W H cs bs (by omega) (by omega)
  have h4 := rThin_spec W H cs bs (by omega) (by omega)
  have h5 := sameC_spec (flC W H cs bs) (flC_len W H cs bs (by omega))
  have h6 := sameC_spec (thC W H cs bs) (thC_len W H cs bs (by omega))
  obtain ⟨e, he⟩ : ∃ e, e = blE W H cs bs := ⟨_, rfl⟩
  obtain ⟨c, hc⟩ : ∃ c, c = flC W H cs bs := ⟨_, rfl⟩
  obtain ⟨g, hg⟩ : ∃ g, g = thE W H cs bs := ⟨_, rfl⟩
  obtain ⟨q, hq⟩ : ∃ q, q = thC W H cs bs := ⟨_, rfl⟩
  rw [← hc, ← he] at h1 h2
  rw [← hq, ← hg] at h3 h4
  rw [← hc] at h5
  rw [← hq] at h6
  refine Spec.of tok Try.func13 rfl rfl rfl fun n0 cx => vc_ok tok ?_
  repeat ((conv => whnf); first | refine Exists.intro _ (And.intro rfl ?_) | refine br_t (by omega) ?_ | refine br_f (by omega) ?_ | refine bs_f (by omega) ?_ | refine fun (K' : K3) hK' => ?_ | (refine hK' _ _ _ ?_; clear hK' K') | refine wide_k (by omega) ?_ | refine long_k (by omega) ?_ | refine CallK.cellsE (R := []) h1 (by kernel_rfl) rfl (by simp [V.wf, A.wf, C.wf, V.i]) ⟨roE_ints (l := 0) rfl (by omega) rfl (.inl rfl), roE_cells (l := 1) rfl (by omega) rfl (.inl rfl), trivial⟩ rfl ?_ | refine CallK.cellsE (R := []) h2 (by kernel_rfl) rfl (by simp [V.wf, A.wf, C.wf, V.i]) ⟨roE_ints (l := 0) rfl (by omega) rfl (.inl rfl), roE_cells (l := 1) rfl (by omega) rfl (.inl rfl), trivial⟩ rfl ?_ | refine CallK.cellsE (R := []) h3 (by kernel_rfl) rfl (by simp [V.wf, A.wf, C.wf, V.i]) ⟨roE_ints (l := 0) rfl (by omega) rfl (.inl rfl), roE_cells (l := 1) rfl (by omega) rfl (.inl rfl), trivial⟩ rfl ?_ | refine CallK.cellsE (R := []) h4 (by kernel_rfl) rfl (by simp [V.wf, A.wf, C.wf, V.i]) ⟨roE_ints (l := 0) rfl (by omega) rfl (.inl rfl), roE_cells (l := 1) rfl (by omega) rfl (.inl rfl), trivial⟩ rfl ?_ | refine CallK.val (R := [(0, some 3), (1, some 4)]) h5 (by kernel_rfl) rfl (by simp [V.wf, A.wf, C.wf, V.i]) ⟨roE_cells (l := 3) rfl (by omega) rfl (.inl rfl), roE_cells (l := 4) rfl (by omega) rfl (.inl rfl), trivial⟩ rfl rfl trivial ?_ | refine CallK.val (R := [(0, some 5), (1, some 6)]) h6 (by kernel_rfl) rfl (by simp [V.wf, A.wf, C.wf, V.i]) ⟨roE_cells (l := 5) rfl (by omega) rfl (.inl rfl), roE_cells (l := 6) rfl (by omega) rfl (.inl rfl), trivial⟩ rfl rfl trivial ?_ | refine br_bt (Eq.refl true) ?_ | refine awake_k ?_ | refine CallK.m ?_)
  intro ρ; rfl
theorem floods_any (W H : Int) (cs : List Int) (bs : List Cell) (ao : Option Addr) (c : Nat) (bo : Option Addr) (d : Nat) (w : World) (h : IntsAt w ao cs) (h2 : CellsAt w bo d bs) :
    Calls Try.prog 13 #[.agg #[.int .i64 W, .int .i64 H, .slice ao cs.length c], .slice bo bs.length d] w fun e w' => e = .returned (.bool true) ∧ Below w.heap.size w w' := by
  by_cases hl : (cs.length : Int) > 300 ∨ (bs.length : Int) > 250
  · exact isTrue_any (vs := [chR W H cs.length, V.c (.sl 1 bs.length)]) (floods_long W H cs bs h.2 h2.2.2 hl) (hp_2 h h2) (by simp [V.wf, A.wf, C.wf]) rfl
  · exact isTrue_any (vs := [chR W H cs.length, V.c (.sl 1 bs.length)]) (floods_spec W H cs bs (fun e => hl (.inl e)) (fun e => hl (.inr e))) (hp_2 h h2) (by simp [V.wf, A.wf, C.wf]) rfl
end Go.Proofs.Ytbhpnhcdjmcaoaa

