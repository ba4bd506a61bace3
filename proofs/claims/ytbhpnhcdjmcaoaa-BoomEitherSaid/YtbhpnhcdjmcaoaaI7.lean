/- Texts of the proof, part 7: X5, P10, P11, P17, X6, P18, D4, D5, L9. -/
import Derived.Test.YtbhpnhcdjmcaoaaI6
import Derived.WalkKit
import Derived.Below
import Derived.Laws.OwnMore
import Derived.Maps.AppendAt
import Derived.Laws.IdiomCopy
import Derived.Laws.CopyRow
import Derived.IntWalk
import Derived.StillTail
import Derived.Scope
import Derived.ChangeKeysEq
import Derived.Laws.Small
import Derived.OrdersIn
import Derived.TacticsIn
import Derived.OwnWalkIn
import Derived.RangeFuncNested
import Derived.RangeFuncLeaves
import Derived.RangeFuncRecord
import Derived.Maps.Keyed
import Derived.Maps.RangeRun
import Derived.DeepKeys4
import Derived.Test.YtbhpnhcdjmcaoaaRows
import Derived.KernelRfl
import Derived.ProofKit
import Derived.OpenShut
import Derived.Lib.SmallJoins
import Derived.Deep.Slices
/- Boom: which lists are channels. -/
namespace Go.Proofs.Ytbhpnhcdjmcaoaa
open Go.RowKit
set_option linter.unusedVariables false
set_option linter.unusedSimpArgs false
/-- What a channel by booms is. -/
structure ChanP (W H : Int) (wet : Int → Bool) (l : List Cell) : Prop where
  on : ∀ j, j < l.length → onB W H (l.getD j cz).1 (l.getD j cz).2 = true
  nd : ∀ j i, j < l.length → i < j → ¬ l.getD j cz = l.getD i cz
  len : 1 ≤ l.length ∧ l.length ≤ 100
  adj : ∀ j, j + 1 < l.length → adj false (l.getD (j + 1) cz) (l.getD j cz)
  wet : ∀ j, j < l.length → wet (idxU W (l.getD j cz)) = true
  left : (l.getD 0 cz).1 = 0
  right : (l.getD (l.length - 1) cz).1 = W - 1
def isChP (W H : Int) (wet : Int → Bool) (l : List Cell) : Bool := listOkK W H l l.length && (lenOk l && ((decide ((listI W H l).getD 0 0 % W = 0) && decide ((listI W H l).getD (l.length - 1) 0 % W = W - 1)) && ((!(listI W H l).any fun i => !wet i) && follB W H false (listI W H l) l.length)))
def isChR (W H : Int) (wet : Int → Bool) (l : List Cell) : Bool := isWayB W H l false && ((decide ((l.getD 0 cz).1 = 0) && decide ((l.getD (l.length - 1) cz).1 = W - 1)) && l.all fun p => wet (idxU W p))
theorem getD_all {l : List Cell} {p : Cell → Bool} : (l.all p) = true ↔ ∀ j, j < l.length → p (l.getD j cz) = true := by
  rw [List.all_eq_true]
  constructor
  · intro h j hj
    refine h _ ?_
    rw [List.getD_eq_getElem?_getD, List.getElem?_eq_getElem hj]; exact List.getElem_mem hj
  · intro h x hx
    obtain ⟨j, hj, rfl⟩ := List.getElem_of_mem hx
    have := h j hj
    rwa [List.getD_eq_getElem?_getD, List.getElem?_eq_getElem hj] at this
theorem isChR_iff {W H : Int} {wet : Int → Bool} {l : List Cell} : isChR W H wet l = true ↔ ChanP W H wet l := by
  unfold isChR
  rw [Bool.and_eq_true, Bool.and_eq_true, Bool.and_eq_true, isWay_iff, getD_all, decide_eq_true_eq, decide_eq_true_eq]
  exact ⟨fun ⟨⟨h1, h2, h3, h4⟩, ⟨h5, h6⟩, h7⟩ => ⟨h1, h2, h3, h4, h7, h5, h6⟩, fun h => ⟨⟨h.on, h.nd, h.len, h.adj⟩, ⟨h.left, h.right⟩, h.wet⟩⟩
theorem isChP_iff {W H : Int} {wet : Int → Bool} {l : List Cell} (hW : 0 < W) : isChP W H wet l = true ↔ ChanP W H wet l := by
  unfold isChP
  rw [Bool.and_eq_true, listOk_iff hW]
  have key : ∀ (hon : ∀ j, j < l.length → onB W H (l.getD j cz).1 (l.getD j cz).2 = true), (lenOk l && ((decide ((listI W H l).getD 0 0 % W = 0) && decide ((listI W H l).getD (l.length - 1) 0 % W = W - 1)) && ((!(listI W H l).any fun i => !wet i) && follB W H false (listI W H l) l.length))) = true ↔
      (1 ≤ l.length ∧ l.length ≤ 100) ∧ ((l.getD 0 cz).1 = 0 ∧ (l.getD (l.length - 1) cz).1 = W - 1) ∧ (∀ j, j < l.length → wet (idxU W (l.getD j cz)) = true) ∧ ∀ j, j + 1 < l.length → adj false (l.getD (j + 1) cz) (l.getD j cz) := by
    intro hon
    rw [Bool.and_eq_true]
    have hlen : lenOk l = true ↔ 1 ≤ l.length ∧ l.length ≤ 100 := by unfold lenOk; rw [decide_eq_true_eq]; omega
    rw [hlen]
    constructor
    · rintro ⟨h1, h2⟩
      refine ⟨h1, ?_⟩
      rw [Bool.and_eq_true, Bool.and_eq_true, Bool.and_eq_true, decide_eq_true_eq, decide_eq_true_eq, listI_get (by omega), listI_get (by omega), (idxC_mod (hon 0 (by omega))).2.1, (idxC_mod (hon (l.length - 1) (by omega))).2.1] at h2
      obtain ⟨⟨h3, h4⟩, h5, h6⟩ := h2
      have h7 := (foll_iff (e := false) hon).1 h6
      refine ⟨⟨h3, h4⟩, fun j hj => ?_, h7⟩
      simp only [Bool.not_eq_true', List.any_eq_false] at h5
      have := h5 ((listI W H l).getD j 0) (getD_mem (by rw [listI_len]; exact hj))
      rw [listI_get hj, (idxC_mod (hon j hj)).1] at this
      simpa using this
    · rintro ⟨h1, h2, h3, h4⟩
      refine ⟨h1, ?_⟩
      rw [Bool.and_eq_true, Bool.and_eq_true, Bool.and_eq_true, decide_eq_true_eq, decide_eq_true_eq, listI_get (by omega), listI_get (by omega), (idxC_mod (hon 0 (by omega))).2.1, (idxC_mod (hon (l.length - 1) (by omega))).2.1]
      refine ⟨h2, ?_, ?_⟩
      · simp only [Bool.not_eq_true', List.any_eq_false]
        intro x hx
        obtain ⟨j, hj, rfl⟩ := List.getElem_of_mem hx
        rw [listI_len] at hj
        have e : (listI W H l)[j]'(by rw [listI_len]; exact hj) = (listI W H l).getD j 0 := by rw [List.getD_eq_getElem?_getD, List.getElem?_eq_getElem]; rfl
        rw [e, listI_get hj, (idxC_mod (hon j hj)).1]
        simpa using h3 j hj
      · exact (foll_iff (e := false) hon).2 h4
  constructor
  · rintro ⟨⟨h1, h2⟩, h3⟩
    obtain ⟨h4, ⟨h5, h6⟩, h7, h8⟩ := (key h1).1 h3
    exact ⟨h1, h2, h4, h8, h7, h5, h6⟩
  · intro h
    exact ⟨⟨h.on, h.nd⟩, (key h.on).2 ⟨h.len, ⟨h.left, h.right⟩, h.wet, h.adj⟩⟩
theorem isCh_eq {W H : Int} {wet : Int → Bool} {l : List Cell} (hW : 0 < W) : isChP W H wet l = isChR W H wet l := by
  rw [Bool.eq_iff_iff, isChP_iff hW, isChR_iff]
def isChB (W H : Int) (cs : List Int) (bs l : List Cell) : Bool := (okC W H cs && okB W H cs bs) && isChR W H (wetB cs (boomF W H bs)) l
theorem dry92_spec (W H : Int) (cs : List Int) (f : Int → Bool) (i : Nat) (hi : i < cs.length) (hl : cs.length ≤ 300) : Spec Try.prog 92 [V.i i, V.c (.ptr 3 0)] [⟨1, .mp false .int (bmF f), []⟩, ⟨2, .ro 0, cs.map C.i⟩, ⟨3, .ro 0, [C.i W, C.i H, .sl 2 cs.length, .mp 1]⟩] 4 (Is (V.c (.bool (!wetB cs f i)))) := by
  have hwt := wet_spec W H cs f i hi hl
  have hwe : wetB cs f (i : Int) = (decide (cs.getD i 0 ≠ -1) && !f i) := by simp [wetB]
  rw [← hwe] at hwt
  refine Spec.of tok Try.func92 rfl rfl rfl fun n0 cx => vc_ok tok ?_
  repeat ((conv => whnf); first | refine Exists.intro _ (And.intro rfl ?_) | refine fun (K' : K3) hK' => ?_ | (refine hK' _ _ _ ?_; clear hK' K') | refine CallK.val (R := [(0, some 2)]) hwt (by kernel_rfl) rfl (by simp [V.wf, A.wf, C.wf]) ⟨roE_ints (l := 2) rfl (by omega) rfl (.inl rfl), roE_map (l := 1) rfl (by omega) rfl, trivial⟩ rfl rfl trivial ?_ | refine CallK.m ?_)
  intro ρ; rfl
theorem anyDry_spec (W H : Int) (cs : List Int) (f : Int → Bool) (l : List Int) (hl : l.length ≤ 300) (hc : cs.length ≤ 300) (hin : ∀ k, k < l.length → 0 ≤ l.getD k 0 ∧ l.getD k 0 < cs.length) :
    Spec Try.prog 77 [V.c (.sl 0 l.length), V.c (.fn 92 [(3, 0)])] [⟨0, .ro 0, l.map C.i⟩, ⟨1, .mp false .int (bmF f), []⟩, ⟨2, .ro 0, cs.map C.i⟩, ⟨3, .ro 0, [C.i W, C.i H, .sl 2 cs.length, .mp 1]⟩] 4 (Is (V.c (.bool (l.any fun i => !wetB cs f i)))) := by
  have hwf : ∀ e ∈ [(⟨1, .mp false .int (bmF f), []⟩ : E), ⟨2, .ro 0, cs.map C.i⟩, ⟨3, .ro 0, [C.i W, C.i H, .sl 2 cs.length, .mp 1]⟩], e.lab < 4 ∧ ∀ c ∈ e.cs, c.wf 4 := by
    intro e he
    simp only [List.mem_cons, List.not_mem_nil, or_false] at he
    rcases he with rfl | rfl | rfl
    · exact ⟨by show 1 < 4; omega, fun c hc => by cases hc⟩
    · exact ⟨by show 2 < 4; omega, wf_ints _ _⟩
    · exact ⟨by show 3 < 4; omega, by simp [C.wf]⟩
  refine contains_any (p := fun i => !wetB cs f i) (Lc := [(⟨1, .mp false .int (bmF f), []⟩ : E), ⟨2, .ro 0, cs.map C.i⟩, ⟨3, .ro 0, [C.i W, C.i H, .sl 2 cs.length, .mp 1]⟩]) hl (by kernel_rfl) (fun i hi => ?_) (by simp) (by omega) hwf (fun L h => ?_) rfl ?_
  · obtain ⟨k, hk⟩ : ∃ k : Nat, (k : Int) = l.getD i 0 := ⟨(l.getD i 0).toNat, by have := hin i hi; omega⟩
    rw [← hk]
    exact dry92_spec W H cs f k (by have := hin i hi; omega) hc
  · have h1 := h _ (List.mem_cons_self ..)
    have h2 := h _ (List.mem_cons_of_mem _ (List.mem_cons_self ..))
    have h3 := h _ (List.mem_cons_of_mem _ (List.mem_cons_of_mem _ (List.mem_cons_self ..)))
    exact ⟨roE_map (l := 1) rfl (by omega) h1, roE_ints (l := 2) rfl (by omega) h2 (.inl rfl), ⟨by show 3 < 4; omega, by simp [C.wf], _, _, h3, .inl rfl, rfl⟩, trivial⟩
  · exact ⟨roE_ints (l := 0) rfl (by omega) rfl (.inl rfl), roE_map (l := 1) rfl (by omega) rfl, roE_ints (l := 2) rfl (by omega) rfl (.inl rfl), ⟨by show 3 < 4; omega, by simp [C.wf], _, _, rfl, .inl rfl, rfl⟩, trivial⟩
set_option maxRecDepth 10000 in
set_option maxHeartbeats 8000000 in
theorem pIsChannel_spec (W H : Int) (cs : List Int) (bs l : List Cell) (hl : cs.length ≤ 300) (hb : bs.length ≤ 300) (hc : l.length ≤ 300) :
    Spec Try.prog 49 [chR W H cs.length, V.c (.sl 1 bs.length), V.c (.sl 2 l.length)] [⟨0, .ro 0, cs.map C.i⟩, ⟨1, .ro 0, cellC bs⟩, ⟨2, .ro 2, cellC l⟩] 3 (Is (V.tup [A.c (.bool (isChB W H cs bs l)), A.c (C.i (blE W H cs bs))])) := by
  unfold isChB blE
  refine Spec.of tok Try.func49 rfl rfl rfl fun n0 cx => vc_ok tok ?_
  cases hv : okC W H cs with
  | false =>
    repeat ((conv => whnf); first | (refine And.intro (by first | omega | exact Nat.le_of_ble_eq_true rfl) ?_) | refine Exists.intro _ (And.intro rfl ?_) | refine br_t (by omega) ?_ | refine fun (K' : K3) hK' => ?_ | (refine hK' _ _ _ ?_; clear hK' K') | refine CallK.newNo (a := 0) (bs := bs) (R := []) 30 hl hb (.inl ⟨hv, rfl⟩) rfl rfl ⟨roE_ints (l := 0) rfl (by omega) rfl (.inl rfl), roE_cells (l := 1) rfl (by omega) rfl (.inl rfl), trivial⟩ ?_ | refine CallK.m ?_)
    intro ρ; rfl
  | true =>
    cases hB : okB W H cs bs with
    | false =>
      repeat ((conv => whnf); first | (refine And.intro (by first | omega | exact Nat.le_of_ble_eq_true rfl) ?_) | refine Exists.intro _ (And.intro rfl ?_) | refine br_t (by omega) ?_ | refine fun (K' : K3) hK' => ?_ | (refine hK' _ _ _ ?_; clear hK' K') | refine CallK.newNo (a := 0) (bs := bs) (R := []) 2 hl hb (.inr ⟨hv, hB, rfl⟩) rfl rfl ⟨roE_ints (l := 0) rfl (by omega) rfl (.inl rfl), roE_cells (l := 1) rfl (by omega) rfl (.inl rfl), trivial⟩ ?_ | refine CallK.m ?_)
      intro ρ; rfl
    | true =>
      have hok := okC_iff.1 hv
      have hW := hok.w
      have hH := hok.h
      have hcl := hok.len
      have hn : (cs.length : Int) ≤ 100 := by have := Int.mul_le_mul hW.2 hH.2 (by omega) (by omega : (0:Int) ≤ 10); omega
      have hli := listed_spec W H cs.length l (by omega) (by omega) hc
      have hieq := isCh_eq (H := H) (wet := wetB cs (boomF W H bs)) (l := l) (show 0 < W by omega)
      unfold isChP at hieq
      cases hlo : listOkK W H l l.length with
      | false =>
        rw [hlo] at hieq
        rw [← hieq]
        repeat ((conv => whnf); first | (refine And.intro (by first | omega | exact Nat.le_of_ble_eq_true rfl) ?_) | refine Exists.intro _ (And.intro rfl ?_) | refine br_f (by omega) ?_ | refine fun (K' : K3) hK' => ?_ | (refine hK' _ _ _ ?_; clear hK' K') | refine draw_auto tok mixed (by kernel_rfl) ?_ | refine CallK.newOk (a := 0) (bs := bs) (R := []) hl hb hv hB rfl rfl (by omega) ⟨roE_ints (l := 0) rfl (by omega) rfl (.inl rfl), roE_cells (l := 1) rfl (by omega) rfl (.inl rfl), trivial⟩ ?_ | refine CallK.lisF (R := [(1, some 4)]) hlo hli (by kernel_rfl) rfl (by simp [V.wf, A.wf, C.wf]) ⟨roE_cells rfl (by omega) rfl (.inr rfl), trivial⟩ rfl ?_ | refine CallK.m ?_)
        intro ρ; rfl
      | true =>
        rw [hlo] at hieq
        cases hle : lenOk l with
        | false =>
          rw [hle] at hieq
          rw [← hieq]
          repeat ((conv => whnf); first | (refine And.intro (by first | omega | exact Nat.le_of_ble_eq_true rfl) ?_) | refine Exists.intro _ (And.intro rfl ?_) | refine br_f (by omega) ?_ | refine fun (K' : K3) hK' => ?_ | (refine hK' _ _ _ ?_; clear hK' K') | refine draw_auto tok mixed (by kernel_rfl) ?_ | refine CallK.newOk (a := 0) (bs := bs) (R := []) hl hb hv hB rfl rfl (by omega) ⟨roE_ints (l := 0) rfl (by omega) rfl (.inl rfl), roE_cells (l := 1) rfl (by omega) rfl (.inl rfl), trivial⟩ ?_ | refine CallK.lisT (R := [(1, some 4)]) hlo hli (by kernel_rfl) rfl (by simp [V.wf, A.wf, C.wf]) ⟨roE_cells rfl (by omega) rfl (.inr rfl), trivial⟩ rfl ?_ | refine bs_bt (congrArg Bool.not hle) ?_ | refine CallK.m ?_)
          intro ρ; rfl
        | true =>
          rw [hle] at hieq
          have hlen : 1 ≤ l.length ∧ l.length ≤ 100 := by unfold lenOk at hle; rw [decide_eq_true_eq] at hle; omega
          have hin := listOk_in (show 0 < W by omega) hlo
          have hkl := listI_len W H l
          have hfo := follows_spec W H cs.length false (listI W H l) (by omega) (by omega) (by omega) hin
          have han := anyDry_spec W H cs (boomF W H bs) (listI W H l) (by omega) hl (fun k hk => by have := hin k hk; omega)
          have h0 := intLz (l := listI W H l) (k := 0) (z := 0) rfl (by omega)
          have h9 := intLz (l := listI W H l) (k := l.length - 1) (z := (l.length : Int) - 1) (by omega) (by omega)
          have hi0 := hin 0 (by omega)
          have hi9 := hin (l.length - 1) (by omega)
          rw [hkl] at hfo han
          obtain ⟨x0, hx0⟩ : ∃ x, x = (listI W H l).getD 0 0 := ⟨_, rfl⟩
          obtain ⟨x9, hx9⟩ : ∃ x, x = (listI W H l).getD (l.length - 1) 0 := ⟨_, rfl⟩
          rw [← hx0] at h0 hi0 hieq
          rw [← hx9] at h9 hi9 hieq
          obtain ⟨fo, hfoe⟩ : ∃ b, b = follB W H false (listI W H l) l.length := ⟨_, rfl⟩
          rw [← hfoe] at hfo hieq
          obtain ⟨an, hane⟩ : ∃ b, b = (listI W H l).any fun i => !wetB cs (boomF W H bs) i := ⟨_, rfl⟩
          rw [← hane] at han hieq
          have hkm : ((listI W H l).map C.i).length = l.length := by simp [listI]
          by_cases g0 : x0 % W = 0
          · by_cases g9 : x9 % W = W - 1
            · rw [dd_t g0, dd_t g9] at hieq
              cases an with
              | true =>
                rw [← hieq]
                repeat ((conv => whnf); first | (refine And.intro (by first | omega | exact Nat.le_of_ble_eq_true rfl | (dsimp only [inK]; omega)) ?_) | with_reducible refine ld (h0) ?_ | with_reducible refine ld (h9) ?_ | refine Exists.intro _ (And.intro rfl ?_) | refine br_f (by omega) ?_ | refine bs_f (by omega) ?_ | refine fun (K' : K3) hK' => ?_ | (refine hK' _ _ _ ?_; clear hK' K') | refine draw_auto tok mixed (by kernel_rfl) ?_ | refine CallK.newOk (a := 0) (bs := bs) (R := []) hl hb hv hB rfl rfl (by omega) ⟨roE_ints (l := 0) rfl (by omega) rfl (.inl rfl), roE_cells (l := 1) rfl (by omega) rfl (.inl rfl), trivial⟩ ?_ | refine CallK.lisT (R := [(1, some 4)]) hlo hli (by kernel_rfl) rfl (by simp [V.wf, A.wf, C.wf]) ⟨roE_cells rfl (by omega) rfl (.inr rfl), trivial⟩ rfl ?_ | refine bs_bf (congrArg Bool.not hle) ?_ | (refine HD_mk (fun _ h => CallK.val (R := [(0, some 6), (1, some 4), (2, some 0), (3, some 5)]) han (by kernel_rfl) rfl (by intro v hv; simp only [List.mem_cons, List.not_mem_nil, or_false] at hv; rcases hv with rfl | rfl; simp [V.wf, A.wf, C.wf]; exact fn_wf3 rfl) ⟨roE_ints (l := 6) rfl (by omega) rfl (.inl rfl), roE_map (l := 4) rfl (by omega) rfl, roE_ints (l := 0) rfl (by omega) rfl (.inl rfl), ⟨by show 3 < 4; omega, by simp [C.wf], _, _, rfl, .inl rfl, rfl⟩, trivial⟩ rfl rfl trivial h) ?_) | refine br_bt (Eq.refl true) ?_ | refine CallK.m ?_)
                intro ρ; rfl
              | false =>
                rw [← hieq]
                repeat ((conv => whnf); first | (refine And.intro (by first | omega | exact Nat.le_of_ble_eq_true rfl | (dsimp only [inK]; omega)) ?_) | with_reducible refine ld (h0) ?_ | with_reducible refine ld (h9) ?_ | refine Exists.intro _ (And.intro rfl ?_) | refine br_f (by omega) ?_ | refine bs_f (by omega) ?_ | refine fun (K' : K3) hK' => ?_ | (refine hK' _ _ _ ?_; clear hK' K') | refine draw_auto tok mixed (by kernel_rfl) ?_ | refine CallK.newOk (a := 0) (bs := bs) (R := []) hl hb hv hB rfl rfl (by omega) ⟨roE_ints (l := 0) rfl (by omega) rfl (.inl rfl), roE_cells (l := 1) rfl (by omega) rfl (.inl rfl), trivial⟩ ?_ | refine CallK.lisT (R := [(1, some 4)]) hlo hli (by kernel_rfl) rfl (by simp [V.wf, A.wf, C.wf]) ⟨roE_cells rfl (by omega) rfl (.inr rfl), trivial⟩ rfl ?_ | refine bs_bf (congrArg Bool.not hle) ?_ | (refine HD_mk (fun _ h => CallK.val (R := [(0, some 6), (1, some 4), (2, some 0), (3, some 5)]) han (by kernel_rfl) rfl (by intro v hv; simp only [List.mem_cons, List.not_mem_nil, or_false] at hv; rcases hv with rfl | rfl; simp [V.wf, A.wf, C.wf]; exact fn_wf3 rfl) ⟨roE_ints (l := 6) rfl (by omega) rfl (.inl rfl), roE_map (l := 4) rfl (by omega) rfl, roE_ints (l := 0) rfl (by omega) rfl (.inl rfl), ⟨by show 3 < 4; omega, by simp [C.wf], _, _, rfl, .inl rfl, rfl⟩, trivial⟩ rfl rfl trivial h) ?_) | refine CallK.den (vs := [V.agg [C.i W, C.i H, C.sl 0 cs.length, C.mp 4], V.c (.sl 6 l.length), V.c (.bool false)]) (fun ρ => rfl) (by simp [V.wf, A.wf, C.wf]) (CallK.val (R := [(1, some 4), (2, some 6)]) hfo (by kernel_rfl) rfl (by simp [V.wf, A.wf, C.wf]) ⟨roE_ints (l := 6) rfl (by omega) rfl (.inl rfl), trivial⟩ rfl rfl trivial ?_) | refine br_bf (Eq.refl false) ?_ | refine CallK.m ?_)
                intro ρ; rfl
            · rw [dd_t g0, dd_f g9] at hieq
              rw [← hieq]
              repeat ((conv => whnf); first | (refine And.intro (by first | omega | exact Nat.le_of_ble_eq_true rfl | (dsimp only [inK]; omega)) ?_) | with_reducible refine ld (h0) ?_ | with_reducible refine ld (h9) ?_ | refine Exists.intro _ (And.intro rfl ?_) | refine br_f (by omega) ?_ | refine bs_t (by omega) ?_ | refine bs_f (by omega) ?_ | refine fun (K' : K3) hK' => ?_ | (refine hK' _ _ _ ?_; clear hK' K') | refine draw_auto tok mixed (by kernel_rfl) ?_ | refine CallK.newOk (a := 0) (bs := bs) (R := []) hl hb hv hB rfl rfl (by omega) ⟨roE_ints (l := 0) rfl (by omega) rfl (.inl rfl), roE_cells (l := 1) rfl (by omega) rfl (.inl rfl), trivial⟩ ?_ | refine CallK.lisT (R := [(1, some 4)]) hlo hli (by kernel_rfl) rfl (by simp [V.wf, A.wf, C.wf]) ⟨roE_cells rfl (by omega) rfl (.inr rfl), trivial⟩ rfl ?_ | refine bs_bf (congrArg Bool.not hle) ?_ | refine CallK.m ?_)
              intro ρ; rfl
          · rw [dd_f g0] at hieq
            rw [← hieq]
            repeat ((conv => whnf); first | (refine And.intro (by first | omega | exact Nat.le_of_ble_eq_true rfl | (dsimp only [inK]; omega)) ?_) | with_reducible refine ld (h0) ?_ | refine Exists.intro _ (And.intro rfl ?_) | refine br_f (by omega) ?_ | refine bs_t (by omega) ?_ | refine fun (K' : K3) hK' => ?_ | (refine hK' _ _ _ ?_; clear hK' K') | refine draw_auto tok mixed (by kernel_rfl) ?_ | refine CallK.newOk (a := 0) (bs := bs) (R := []) hl hb hv hB rfl rfl (by omega) ⟨roE_ints (l := 0) rfl (by omega) rfl (.inl rfl), roE_cells (l := 1) rfl (by omega) rfl (.inl rfl), trivial⟩ ?_ | refine CallK.lisT (R := [(1, some 4)]) hlo hli (by kernel_rfl) rfl (by simp [V.wf, A.wf, C.wf]) ⟨roE_cells rfl (by omega) rfl (.inr rfl), trivial⟩ rfl ?_ | refine bs_bf (congrArg Bool.not hle) ?_ | refine CallK.m ?_)
            intro ρ; rfl
set_option maxRecDepth 10000 in
set_option maxHeartbeats 8000000 in
theorem rIsChannel_spec (W H : Int) (cs : List Int) (bs l : List Cell) (hl : cs.length ≤ 300) (hb : bs.length ≤ 300) (hc : l.length ≤ 300) :
    Spec Try.prog 47 [chR W H cs.length, V.c (.sl 1 bs.length), V.c (.sl 2 l.length)] [⟨0, .ro 0, cs.map C.i⟩, ⟨1, .ro 0, cellC bs⟩, ⟨2, .ro 2, cellC l⟩] 3 (Is (V.tup [A.c (.bool (isChB W H cs bs l)), A.c (C.i (blE W H cs bs))])) := by
  have hak := asked_spec W H cs bs hl hb
  have hcc := cellC_len l
  unfold askE at hak
  unfold isChB blE
  refine Spec.of tok Try.func47 rfl rfl rfl fun n0 cx => vc_ok tok ?_
  cases hv : okC W H cs with
  | false =>
    rw [hv] at hak
    repeat ((conv => whnf); first | refine Exists.intro _ (And.intro rfl ?_) | refine fun (K' : K3) hK' => ?_ | (refine hK' _ _ _ ?_; clear hK' K') | refine CallK.val (R := []) hak (by kernel_rfl) rfl (by simp [V.wf, A.wf, C.wf]) ⟨roE_ints (l := 0) rfl (by omega) rfl (.inl rfl), roE_cells (l := 1) rfl (by omega) rfl (.inl rfl), trivial⟩ rfl rfl trivial ?_ | refine br_bt (Eq.refl true) ?_ | refine CallK.m ?_)
    intro ρ; rfl
  | true =>
    cases hB : okB W H cs bs with
    | false =>
      rw [hv, hB] at hak
      repeat ((conv => whnf); first | refine Exists.intro _ (And.intro rfl ?_) | refine fun (K' : K3) hK' => ?_ | (refine hK' _ _ _ ?_; clear hK' K') | refine CallK.val (R := []) hak (by kernel_rfl) rfl (by simp [V.wf, A.wf, C.wf]) ⟨roE_ints (l := 0) rfl (by omega) rfl (.inl rfl), roE_cells (l := 1) rfl (by omega) rfl (.inl rfl), trivial⟩ rfl rfl trivial ?_ | refine br_bt (Eq.refl true) ?_ | refine CallK.m ?_)
      intro ρ; rfl
    | true =>
      rw [hv, hB] at hak
      have hok := okC_iff.1 hv
      have hW := hok.w
      have hH := hok.h
      have hcl := hok.len
      have hn : (cs.length : Int) ≤ 100 := by have := Int.mul_le_mul hW.2 hH.2 (by omega) (by omega : (0:Int) ≤ 10); omega
      have hwy := isWay_spec W H cs.length l false (by omega) (by omega) hc
      have hop := open_spec W H cs bs hok hB hb
      obtain ⟨wet, hwet⟩ : ∃ wet, wet = wetB cs (boomF W H bs) := ⟨_, rfl⟩
      rw [← hwet] at hop ⊢
      have hlb : ((bL cs.length wet).map C.bool).length = cs.length := by simp [bL]
      have hbl : (bL cs.length wet).length = cs.length := bL_len _ _
      unfold isChR
      by_cases hlong : (l.length : Int) > 100
      · have hno : isWayB W H l false = false := by
          unfold isWayB
          rw [dd_f (show ¬ (l.length : Int) ≤ 100 by omega)]; simp
        rw [hno]
        repeat ((conv => whnf); first | refine Exists.intro _ (And.intro rfl ?_) | refine bs_t (by omega) ?_ | refine fun (K' : K3) hK' => ?_ | (refine hK' _ _ _ ?_; clear hK' K') | refine draw_auto tok mixed (by kernel_rfl) ?_ | refine CallK.val (R := []) hak (by kernel_rfl) rfl (by simp [V.wf, A.wf, C.wf]) ⟨roE_ints (l := 0) rfl (by omega) rfl (.inl rfl), roE_cells (l := 1) rfl (by omega) rfl (.inl rfl), trivial⟩ rfl rfl trivial ?_ | refine br_bf (Eq.refl false) ?_ | refine CallK.m ?_)
        intro ρ; rfl
      · cases hw : isWayB W H l false with
        | false =>
          rw [hw] at hwy
          repeat ((conv => whnf); first | refine Exists.intro _ (And.intro rfl ?_) | refine bs_f (by omega) ?_ | refine fun (K' : K3) hK' => ?_ | (refine hK' _ _ _ ?_; clear hK' K') | refine draw_auto tok mixed (by kernel_rfl) ?_ | refine CallK.val (R := []) hak (by kernel_rfl) rfl (by simp [V.wf, A.wf, C.wf]) ⟨roE_ints (l := 0) rfl (by omega) rfl (.inl rfl), roE_cells (l := 1) rfl (by omega) rfl (.inl rfl), trivial⟩ rfl rfl trivial ?_ | refine HD_mk (fun _ h => CallK.den (vs := [V.agg [C.i W, C.i H, C.sl 0 cs.length], V.c (.sl 2 l.length), V.c (.bool false)]) (fun ρ => rfl) (by simp [V.wf, A.wf, C.wf]) (CallK.val (R := [(1, some 2)]) hwy (by kernel_rfl) rfl (by simp [V.wf, A.wf, C.wf]) ⟨roE_cells (l := 2) rfl (by omega) rfl (.inr rfl), trivial⟩ rfl rfl trivial h)) ?_ | refine bs_bt rfl ?_ | refine br_bf (Eq.refl false) ?_ | refine CallK.m ?_)
          intro ρ; rfl
        | true =>
          rw [hw] at hwy
          obtain ⟨hon, _, hlen, _⟩ := isWay_iff.1 hw
          have h0 := cellL0 (l := l) (k := 0) (z := 0) rfl (by omega)
          have h9 := cellL0 (l := l) (k := l.length - 1) (z := (l.length : Int) - 1) (by omega) (by omega)
          obtain ⟨x0, hx0⟩ : ∃ x, x = (l.getD 0 (0, 0)).1 := ⟨_, rfl⟩
          obtain ⟨x9, hx9⟩ : ∃ x, x = (l.getD (l.length - 1) (0, 0)).1 := ⟨_, rfl⟩
          have hx0' : (l.getD 0 cz).1 = x0 := hx0.symm
          have hx9' : (l.getD (l.length - 1) cz).1 = x9 := hx9.symm
          rw [← hx0] at h0
          rw [← hx9] at h9
          rw [hx0', hx9']
          have hpx := onB_t (hon (l.length - 1) (by omega))
          by_cases g0 : x0 = 0
          · by_cases g9 : x9 = W - 1
            · rw [dd_t g0, dd_t g9]
              repeat ((conv => whnf); first | (refine And.intro (by first | omega | exact Nat.le_of_ble_eq_true rfl | (dsimp only [inK]; omega)) ?_) | with_reducible refine ld (h0) ?_ | with_reducible refine ld (h9) ?_ | refine Exists.intro _ (And.intro rfl ?_) | refine br_f (by omega) ?_ | refine bs_f (by omega) ?_ | refine fun (K' : K3) hK' => ?_ | (refine hK' _ _ _ ?_; clear hK' K') | refine draw_auto tok mixed (by kernel_rfl) ?_ | refine CallK.val (R := []) hak (by kernel_rfl) rfl (by simp [V.wf, A.wf, C.wf]) ⟨roE_ints (l := 0) rfl (by omega) rfl (.inl rfl), roE_cells (l := 1) rfl (by omega) rfl (.inl rfl), trivial⟩ rfl rfl trivial ?_ | refine HD_mk (fun _ h => CallK.den (vs := [V.agg [C.i W, C.i H, C.sl 0 cs.length], V.c (.sl 2 l.length), V.c (.bool false)]) (fun ρ => rfl) (by simp [V.wf, A.wf, C.wf]) (CallK.val (R := [(1, some 2)]) hwy (by kernel_rfl) rfl (by simp [V.wf, A.wf, C.wf]) ⟨roE_cells (l := 2) rfl (by omega) rfl (.inr rfl), trivial⟩ rfl rfl trivial h)) ?_ | refine bs_bf rfl ?_ | refine br_bf rfl ?_ | refine CallK.boolsR (R := []) hop (by kernel_rfl) rfl (by simp [V.wf, A.wf, C.wf]) ⟨roE_ints (l := 0) rfl (by omega) rfl (.inl rfl), roE_cells (l := 1) rfl (by omega) rfl (.inl rfl), trivial⟩ rfl ?_ | refine CallK.m ?_)
              rw [hbl]
              refine Tri.loop (γ := Nat) (fun j => j ≤ l.length ∧ ∀ i, i < j → wet (idxU W (l.getD i cz)) = true) (fun j => [(2, V.c (.sl 2 l.length)), (3, V.c (.ptr 3 0)), (9, V.c (.sl 4 cs.length)), (50, V.c (.sl 2 l.length)), (51, V.i l.length), (52, V.i (j : Nat))])
                (fun j => [⟨4, .vec 4 1, (bL cs.length wet).map C.bool⟩, ⟨3, .own 24, [C.i W, C.i H, .sl 0 cs.length]⟩, ⟨0, .ro 0, cs.map C.i⟩, ⟨1, .ro 0, cellC bs⟩, ⟨2, .ro 2, cellC l⟩]) 5 (fun j => l.length - j) 0 (R0 := []) ?_ ?_ ?_
              · exact ⟨Nat.zero_le _, fun i hi => by omega⟩
              · skip
                refine ⟨?_, ?_, rfl, rfl, by exact Nat.le_of_ble_eq_true rfl⟩
                · repeat (first | exact trivial | (refine And.intro (covS_syn (by rfl) rfl (by first | exact trivial | exact Nat.le_of_ble_eq_true rfl)) ?_))
                · repeat (first | exact trivial | (refine And.intro (covE_id (Nat.le_of_ble_eq_true rfl) (by first | exact wf_ints _ _ | exact wf_bools _ _ | first | exact wf_cells _ _ | simp [C.wf]) rfl (by rfl)) ?_))
              · rintro j ⟨hj, hI⟩
                refine vc_ok tok ?_
                by_cases hjl : j < l.length
                · have hld := cellT (l := l) (k := j) rfl hjl
                  have ho : onB W H (l.getD j (0, 0)).1 (l.getD j (0, 0)).2 = true := hon j hjl
                  have hxy := onB_t ho
                  have hidx := idxU_in hok ho
                  have hix := rindex_spec W H cs.length (l.getD j (0, 0)).1 (l.getD j (0, 0)).2 (by omega) (by omega) (by omega)
                  have he : (l.getD j (0, 0)).2 * W + (l.getD j (0, 0)).1 = idxU W (l.getD j (0, 0)) := rfl
                  rw [he] at hix
                  obtain ⟨i, hi⟩ : ∃ i : Nat, (i : Int) = idxU W (l.getD j (0, 0)) := ⟨(idxU W (l.getD j (0, 0))).toNat, by omega⟩
                  rw [← hi] at hix hidx
                  obtain ⟨p, hp⟩ : ∃ p, p = l.getD j (0, 0) := ⟨_, rfl⟩
                  rw [← hp] at hld hix
                  have hil : i < cs.length := by omega
                  have hldb := boolL (l := bL cs.length wet) (k := i) (by omega)
                  rw [bL_get hil] at hldb
                  cases hw : wet (i : Int) with
                  | true =>
                    rw [hw] at hldb
                    repeat ((conv => whnf); first | (refine And.intro (by first | omega | exact Nat.le_of_ble_eq_true rfl | (dsimp only [inK]; omega)) ?_) | with_reducible refine ld (hld) ?_ | with_reducible refine ld (hldb) ?_ | refine Exists.intro _ (And.intro rfl ?_) | refine br_t (by omega) ?_ | refine fun (K' : K3) hK' => ?_ | (refine hK' _ _ _ ?_; clear hK' K') | refine CallK.val (R := []) hix (by kernel_rfl) rfl (by simp [V.wf, A.wf, C.wf]) trivial rfl rfl trivial ?_ | refine br_bf (Eq.refl false) ?_ | refine CallK.m ?_)
                    refine ⟨j + 1, [], ⟨by omega, fun i' hi' => ?_⟩, by omega, ?_⟩
                    · by_cases hij : i' = j
                      · subst hij
                        show wet (idxU W (l.getD i' (0, 0))) = true
                        rw [← hi]; exact hw
                      · exact hI i' (by omega)
                    · skip
                      refine ⟨?_, ?_, rfl, rfl, by exact Nat.le_of_ble_eq_true rfl⟩
                      · repeat (first | exact trivial | (refine And.intro (covS_syn (by rfl) rfl (by first | exact trivial | exact Nat.le_of_ble_eq_true rfl)) ?_))
                      · repeat (first | exact trivial | (refine And.intro (covE_id (Nat.le_of_ble_eq_true rfl) (by first | exact wf_ints _ _ | exact wf_bools _ _ | first | exact wf_cells _ _ | simp [C.wf]) rfl (by rfl)) ?_))
                  | false =>
                    rw [hw] at hldb
                    have hall : (l.all fun p => wet (idxU W p)) = false := by
                      cases ha : (l.all fun p => wet (idxU W p)) with
                      | false => rfl
                      | true =>
                        have := getD_all.1 ha j hjl
                        have e : wet (idxU W (l.getD j (0, 0))) = true := this
                        rw [← hi, hw] at e; cases e
                    rw [hall]
                    repeat ((conv => whnf); first | (refine And.intro (by first | omega | exact Nat.le_of_ble_eq_true rfl | (dsimp only [inK]; omega)) ?_) | with_reducible refine ld (hld) ?_ | with_reducible refine ld (hldb) ?_ | refine Exists.intro _ (And.intro rfl ?_) | refine br_t (by omega) ?_ | refine fun (K' : K3) hK' => ?_ | (refine hK' _ _ _ ?_; clear hK' K') | refine CallK.val (R := []) hix (by kernel_rfl) rfl (by simp [V.wf, A.wf, C.wf]) trivial rfl rfl trivial ?_ | refine br_bt (Eq.refl true) ?_ | refine CallK.m ?_)
                    intro ρ; rfl
                · have hjn : j = l.length := by omega
                  subst hjn
                  rw [getD_all.2 hI]
                  repeat ((conv => whnf); first | refine br_f (by omega) ?_ | refine fun (K' : K3) hK' => ?_ | (refine hK' _ _ _ ?_; clear hK' K'))
                  intro ρ; rfl
            · rw [dd_t g0, dd_f g9]
              repeat ((conv => whnf); first | (refine And.intro (by first | omega | exact Nat.le_of_ble_eq_true rfl | (dsimp only [inK]; omega)) ?_) | with_reducible refine ld (h0) ?_ | with_reducible refine ld (h9) ?_ | refine Exists.intro _ (And.intro rfl ?_) | refine br_t (by omega) ?_ | refine bs_f (by omega) ?_ | refine fun (K' : K3) hK' => ?_ | (refine hK' _ _ _ ?_; clear hK' K') | refine draw_auto tok mixed (by kernel_rfl) ?_ | refine CallK.val (R := []) hak (by kernel_rfl) rfl (by simp [V.wf, A.wf, C.wf]) ⟨roE_ints (l := 0) rfl (by omega) rfl (.inl rfl), roE_cells (l := 1) rfl (by omega) rfl (.inl rfl), trivial⟩ rfl rfl trivial ?_ | refine HD_mk (fun _ h => CallK.den (vs := [V.agg [C.i W, C.i H, C.sl 0 cs.length], V.c (.sl 2 l.length), V.c (.bool false)]) (fun ρ => rfl) (by simp [V.wf, A.wf, C.wf]) (CallK.val (R := [(1, some 2)]) hwy (by kernel_rfl) rfl (by simp [V.wf, A.wf, C.wf]) ⟨roE_cells (l := 2) rfl (by omega) rfl (.inr rfl), trivial⟩ rfl rfl trivial h)) ?_ | refine bs_bf rfl ?_ | refine br_bf rfl ?_ | refine CallK.m ?_)
              intro ρ; rfl
          · rw [dd_f g0]
            repeat ((conv => whnf); first | (refine And.intro (by first | omega | (dsimp only [inK]; omega)) ?_) | with_reducible refine ld (h0) ?_ | refine Exists.intro _ (And.intro rfl ?_) | refine bs_t (by omega) ?_ | refine bs_f (by omega) ?_ | refine fun (K' : K3) hK' => ?_ | (refine hK' _ _ _ ?_; clear hK' K') | refine draw_auto tok mixed (by kernel_rfl) ?_ | refine CallK.val (R := []) hak (by kernel_rfl) rfl (by simp [V.wf, A.wf, C.wf]) ⟨roE_ints (l := 0) rfl (by omega) rfl (.inl rfl), roE_cells (l := 1) rfl (by omega) rfl (.inl rfl), trivial⟩ rfl rfl trivial ?_ | refine HD_mk (fun _ h => CallK.den (vs := [V.agg [C.i W, C.i H, C.sl 0 cs.length], V.c (.sl 2 l.length), V.c (.bool false)]) (fun ρ => rfl) (by simp [V.wf, A.wf, C.wf]) (CallK.val (R := [(1, some 2)]) hwy (by kernel_rfl) rfl (by simp [V.wf, A.wf, C.wf]) ⟨roE_cells (l := 2) rfl (by omega) rfl (.inr rfl), trivial⟩ rfl rfl trivial h)) ?_ | refine bs_bf rfl ?_ | refine br_bf rfl ?_ | refine CallK.m ?_)
            intro ρ; rfl
end Go.Proofs.Ytbhpnhcdjmcaoaa

/- Boom, plain: barriers of the charts that are upside down, with dead cells, with dry booms. -/
namespace Go.Proofs.Ytbhpnhcdjmcaoaa
open Go.RowKit
set_option linter.unusedVariables false
set_option linter.unusedSimpArgs false
theorem chgL_get {cs : List Int} (g : Int → Int) {i : Int} (h0 : 0 ≤ i) (h : i < cs.length) : (chgL cs g).getD i.toNat 0 = g i := by
  have hk : i.toNat < cs.length := by omega
  unfold chgL
  rw [List.getD_eq_getElem?_getD, List.getElem?_map, List.getElem?_eq_getElem (by simpa using hk)]
  simp only [Option.map_some, Option.getD_some, List.getElem_range]
  congr 1; omega
section
variable {W H : Int} {cs : List Int}
theorem CO.chg (hok : CO W H cs) {g : Int → Int} (hg : ∀ i : Int, 0 ≤ i → i < cs.length → -1 ≤ g i ∧ g i ≤ 100) : CO W H (chgL cs g) :=
  ⟨hok.w, hok.h, by rw [chgL_len]; exact hok.len, fun x hx => by
    unfold chgL at hx
    obtain ⟨i, hi, rfl⟩ := List.mem_map.1 hx
    have := List.mem_range.1 hi
    exact hg _ (by omega) (by omega)⟩
theorem CO.get (hok : CO W H cs) {i : Int} (h0 : 0 ≤ i) (h : i < cs.length) : -1 ≤ cs.getD i.toNat 0 ∧ cs.getD i.toNat 0 ≤ 100 := by
  have hk : i.toNat < cs.length := by omega
  rw [List.getD_eq_getElem?_getD, List.getElem?_eq_getElem hk]
  exact hok.cost _ (List.getElem_mem hk)
theorem CO.turn (hok : CO W H cs) : CO W H (chgL cs (turnG W H cs)) := hok.chg fun i h0 h => by
  have hw := hok.w
  have := turnI_bd (W := W) (H := H) (by omega) h0 (by have := hok.len; omega)
  exact hok.get this.1 (by have := hok.len; omega)
theorem CO.str (hok : CO W H cs) (most : Int) : CO W H (chgL cs (strG cs most)) := hok.chg fun i h0 h => by
  have := hok.get h0 h
  unfold strG; split <;> omega
theorem CO.dry (hok : CO W H cs) (bs : List Cell) : CO W H (chgL cs (dryG W H cs bs)) := hok.chg fun i h0 h => by
  have := hok.get h0 h
  unfold dryG; split <;> omega
def tp (H : Int) (p : Cell) : Cell := (p.1, H - 1 - p.2)
theorem tp_on {p : Cell} (h : onB W H p.1 p.2 = true) : onB W H (tp H p).1 (tp H p).2 = true := by
  have ho := onB_t h
  simp only [onB, tp, Bool.and_eq_true]
  exact ⟨dd_t ho.1.1, dd_t ho.1.2, dd_t (by omega), dd_t (by omega)⟩
theorem tp_tp (p : Cell) : tp H (tp H p) = p := Prod.ext rfl (by simp only [tp]; omega)
theorem tp_idx (hok : CO W H cs) {p : Cell} (h : onB W H p.1 p.2 = true) : turnI W H (idxU W p) = idxU W (tp H p) := by
  obtain ⟨_, _, h3, h4⟩ := idxU_in hok h
  unfold turnI; rw [h3, h4]; rfl
theorem turn_at (hok : CO W H cs) {p : Cell} (h : onB W H p.1 p.2 = true) : (chgL cs (turnG W H cs)).getD (idxU W (tp H p)).toNat 0 = cs.getD (idxU W p).toNat 0 := by
  have h1 := idxU_in hok (tp_on h)
  rw [chgL_get _ h1.1 h1.2.1]
  unfold turnG
  rw [tp_idx hok (tp_on h), tp_tp]
theorem getD_rev {l : List Cell} {j : Nat} (hj : j < l.length) : (l.map (tp H)).reverse.getD j cz = tp H (l.getD (l.length - 1 - j) cz) := by
  rw [List.getD_eq_getElem?_getD, List.getElem?_reverse (by simpa using hj), List.getElem?_map, List.length_map, List.getElem?_eq_getElem (by omega), List.getD_eq_getElem?_getD, List.getElem?_eq_getElem (by omega)]
  rfl
theorem adj_tp {e : Bool} {p q : Cell} (h : adj e p q) : adj e (tp H p) (tp H q) := by
  obtain ⟨h1, h2, h3, h4⟩ := h
  refine ⟨h1, by simp only [tp]; omega, fun hh => h3 ⟨hh.1, by have := hh.2; simp only [tp] at this; omega⟩, ?_⟩
  rcases h4 with h4 | h4 | h4
  · exact .inl h4
  · exact .inr (.inl h4)
  · exact .inr (.inr (by simp only [tp]; omega))
/-- A barrier upside down. -/
theorem bar_turn (hok : CO W H cs) {l : List Cell} (hb : BarP W H cs l) : BarP W H (chgL cs (turnG W H cs)) (l.map (tp H)).reverse := by
  have hl : (l.map (tp H)).reverse.length = l.length := by simp
  refine ⟨fun j hj => ?_, fun j i hj hi he => ?_, by rw [hl]; exact hb.len, fun j hj => ?_, fun j hj => ?_, fun j hj => ?_, fun j hj => ?_⟩
  · rw [hl] at hj; rw [getD_rev hj]; exact tp_on (hb.on _ (by omega))
  · rw [hl] at hj
    rw [getD_rev hj, getD_rev (by omega)] at he
    have he' := congrArg (tp H) he
    rw [tp_tp, tp_tp] at he'
    exact hb.nd (l.length - 1 - i) (l.length - 1 - j) (by omega) (by omega) he'.symm
  · rw [hl] at hj
    rw [getD_rev hj, getD_rev (by omega)]
    have := hb.adj (l.length - 1 - (j + 1)) (by omega)
    rw [show l.length - 1 - (j + 1) + 1 = l.length - 1 - j from by omega] at this
    exact adj_tp (adj_symm this)
  · rw [hl] at hj
    rw [getD_rev hj, turn_at hok (hb.on _ (by omega))]
    exact hb.hold _ (by omega)
  · rw [hl] at hj
    rw [getD_rev hj]
    have := hb.bot (l.length - 1 - j) (by omega)
    simp only [tp]
    constructor
    · intro h; have := this.1 (by omega); omega
    · intro h; have := this.2 (by omega); omega
  · rw [hl] at hj ⊢
    rw [getD_rev hj]
    have := hb.top (l.length - 1 - j) (by omega)
    simp only [tp]
    constructor
    · intro h; have := this.1 (by omega); omega
    · intro h; have := this.2 (by omega); omega
theorem cst_at {cs cs' : List Int} {i j : Int} (h : cs.getD i.toNat 0 = cs'.getD j.toNat 0) : cstI cs i = cstI cs' j := by unfold cstI; rw [h]
theorem sumC_eq (W : Int) (cs : List Int) (l : List Cell) : sumC W cs l = (l.map fun p => cstI cs (idxU W p)).sum := by unfold sumC sumK; rw [List.take_length]
theorem BarP.mem {l : List Cell} (hb : BarP W H cs l) {p : Cell} (h : p ∈ l) : onB W H p.1 p.2 = true ∧ ¬ cs.getD (idxU W p).toNat 0 = 0 := by
  obtain ⟨j, hj, rfl⟩ := List.mem_iff_getElem.1 h
  have h1 := hb.on j hj
  have h2 := hb.hold j hj
  have hg : l.getD j cz = l[j] := by rw [List.getD_eq_getElem?_getD, List.getElem?_eq_getElem hj]; rfl
  rw [hg] at h1 h2
  exact ⟨h1, h2⟩
theorem sum_turn (hok : CO W H cs) {l : List Cell} (hb : BarP W H cs l) : sumC W (chgL cs (turnG W H cs)) (l.map (tp H)).reverse = sumC W cs l := by
  rw [sumC_eq, sumC_eq, List.map_reverse, List.sum_reverse, List.map_map]
  congr 1
  refine List.map_congr_left fun p hp => ?_
  exact cst_at (turn_at hok (hb.mem hp).1)
theorem turn_turn (hok : CO W H cs) : chgL (chgL cs (turnG W H cs)) (turnG W H (chgL cs (turnG W H cs))) = cs := by
  have hW := hok.w
  have hl := hok.len
  refine List.ext_getElem (by rw [chgL_len, chgL_len]) fun k h1 h2 => ?_
  have hk : (0 : Int) ≤ k ∧ (k : Int) < W * H := by omega
  have hc := cellI_idx (W := W) (H := H) (i := k) (by omega) hk.1 hk.2
  have e1 := chgL_get (cs := chgL cs (turnG W H cs)) (turnG W H (chgL cs (turnG W H cs))) (i := (k : Int)) (by omega) (by rw [chgL_len]; omega)
  rw [List.getD_eq_getElem?_getD, List.getElem?_eq_getElem (by simpa using h1)] at e1
  simp only [Int.toNat_natCast, Option.getD_some] at e1
  rw [e1]
  unfold turnG
  rw [← hc.2, tp_idx hok hc.1, ]
  have := turn_at hok hc.1
  unfold turnG at this
  rw [this, hc.2, List.getD_eq_getElem?_getD, List.getElem?_eq_getElem (by simpa using h2)]
  rfl
/-- The chart upside down has as cheap a barrier. -/
theorem turn_cost (hok : CO W H cs) : (barO W H (chgL cs (turnG W H cs))).map (fun p => p.2.1) = (barO W H cs).map fun p => p.2.1 := by
  have hok' := hok.turn
  cases h : barO W H cs with
  | none =>
    cases h' : barO W H (chgL cs (turnG W H cs)) with
    | none => rfl
    | some q =>
      obtain ⟨l, w⟩ := q
      have hb := bar_turn hok' (bar_is hok' h').1
      rw [turn_turn hok] at hb
      obtain ⟨_, _, he, _⟩ := bar_least hok hb
      rw [h] at he; cases he
  | some q =>
    obtain ⟨l, w⟩ := q
    have hi := bar_is hok h
    obtain ⟨l', w', he, hle⟩ := bar_least hok' (bar_turn hok hi.1)
    rw [sum_turn hok hi.1] at hle
    have hi' := bar_is hok' he
    have hb := bar_turn hok' hi'.1
    have hs := sum_turn hok' hi'.1
    rw [turn_turn hok] at hb hs
    obtain ⟨l2, w2, he2, hle2⟩ := bar_least hok hb
    rw [h] at he2; cases he2
    rw [he]
    simp only [Option.map_some, Option.some.injEq]
    omega
/-- The chart without costly cells has no cheaper one. -/
theorem str_cost (hok : CO W H cs) (most : Int) {l : List Int} {w : Way} (h : barO W H (chgL cs (strG cs most)) = some (l, w)) : ∃ l' w', barO W H cs = some (l', w') ∧ w'.1 ≤ w.1 := by
  have hok' := hok.str most
  obtain ⟨hb, hs, _⟩ := bar_is hok' h
  have key : ∀ p ∈ cellsL W l, (chgL cs (strG cs most)).getD (idxU W p).toNat 0 = cs.getD (idxU W p).toNat 0 := fun p hp => by
    obtain ⟨h1, h2⟩ := hb.mem hp
    have h3 := idxU_in hok h1
    rw [chgL_get _ h3.1 h3.2.1] at h2 ⊢
    unfold strG at h2 ⊢
    split
    · rename_i hh; rw [if_pos hh] at h2; exact absurd rfl h2
    · rfl
  have hb' : BarP W H cs (cellsL W l) := ⟨hb.on, hb.nd, hb.len, hb.adj, fun j hj => by
    have h1 := hb.hold j hj
    rw [key _ (by rw [List.getD_eq_getElem?_getD, List.getElem?_eq_getElem hj]; exact List.getElem_mem hj)] at h1
    exact h1, hb.top, hb.bot⟩
  obtain ⟨l', w', he, hle⟩ := bar_least hok hb'
  refine ⟨l', w', he, ?_⟩
  have : sumC W cs (cellsL W l) = sumC W (chgL cs (strG cs most)) (cellsL W l) := by
    rw [sumC_eq, sumC_eq]
    congr 1
    exact List.map_congr_left fun p hp => (cst_at (key p hp)).symm
  omega
end
end Go.Proofs.Ytbhpnhcdjmcaoaa

/- Boom, plain: the booms of a list, and the chart in which those of a barrier are land. -/
namespace Go.Proofs.Ytbhpnhcdjmcaoaa
open Go.RowKit
set_option linter.unusedVariables false
set_option linter.unusedSimpArgs false
def boomsL (W : Int) (cs : List Int) : List Cell := ((List.range cs.length).filter fun i => decide (cs.getD i 0 > 0)).map fun i : Nat => cellI W (i : Int)
def cellsF (W : Int) (cs : List Int) (l : List Cell) : List Cell := (boomsL W cs).filter fun p => decide (p ∈ l)
/-- In order. -/
def ltC (a b : Cell) : Prop := a.2 < b.2 ∨ (a.2 = b.2 ∧ a.1 < b.1)
theorem sum_zero : ∀ l : List Cell, (l.map fun _ => (0 : Int)).sum = 0
  | [] => rfl
  | _ :: r => by rw [List.map_cons, List.sum_cons, sum_zero r]; rfl
section
variable {W H : Int} {cs : List Int}
theorem cellI_lt (hW : 0 < W) {i j : Int} (hi : 0 ≤ i) (h : i < j) : ltC (cellI W i) (cellI W j) := by
  have a1 := Int.emod_nonneg i (show W ≠ 0 by omega)
  have a2 := Int.emod_lt_of_pos i hW
  have a3 := Int.mul_ediv_add_emod i W
  have b1 := Int.emod_nonneg j (show W ≠ 0 by omega)
  have b2 := Int.emod_lt_of_pos j hW
  have b3 := Int.mul_ediv_add_emod j W
  have h1 : i / W ≤ j / W := Int.ediv_le_ediv hW (by omega)
  unfold ltC cellI
  simp only
  by_cases h2 : i / W = j / W
  · rw [h2] at a3
    exact .inr ⟨h2, by omega⟩
  · exact .inl (by omega)
theorem booms_sorted (hW : 0 < W) : (boomsL W cs).Pairwise ltC := by
  unfold boomsL
  rw [List.pairwise_map]
  refine List.Pairwise.filter _ ?_
  exact List.Pairwise.imp (fun {a b} (h : a < b) => cellI_lt hW (by omega) (by omega)) List.pairwise_lt_range
theorem booms_mem (hok : CO W H cs) {p : Cell} : p ∈ boomsL W cs ↔ onB W H p.1 p.2 = true ∧ cs.getD (idxU W p).toNat 0 > 0 := by
  have hW := hok.w
  have hl := hok.len
  unfold boomsL
  rw [List.mem_map]
  constructor
  · rintro ⟨i, hi, rfl⟩
    rw [List.mem_filter, List.mem_range, decide_eq_true_eq] at hi
    have h1 := cellI_idx (W := W) (H := H) (i := (i : Int)) (by omega) (by omega) (by omega)
    refine ⟨h1.1, ?_⟩
    rw [h1.2, Int.toNat_natCast]; exact hi.2
  · rintro ⟨h1, h2⟩
    have h3 := idxU_in hok h1
    refine ⟨(idxU W p).toNat, ?_, ?_⟩
    · rw [List.mem_filter, List.mem_range, decide_eq_true_eq]
      exact ⟨by omega, h2⟩
    · have : (((idxU W p).toNat : Nat) : Int) = idxU W p := by omega
      rw [this]
      exact Prod.ext h3.2.2.2 h3.2.2.1
/-- Booms in order are booms of the chart. -/
theorem okB_of (hok : CO W H cs) {bs : List Cell} (hs : bs.Pairwise ltC) (hm : ∀ p ∈ bs, onB W H p.1 p.2 = true ∧ cs.getD (idxU W p).toNat 0 > 0) : okB W H cs bs = true := by
  unfold okB okBk
  rw [List.all_eq_true]
  intro k hk
  have hk : k < bs.length := by simpa using hk
  have hg : bs.getD k (0, 0) = bs[k] := by rw [List.getD_eq_getElem?_getD, List.getElem?_eq_getElem hk]; rfl
  obtain ⟨h1, h2⟩ := hm _ (List.getElem_mem hk)
  have h3 := idxU_in hok h1
  unfold badK
  rw [hg, (idxC_mod h1).1]
  simp only [Bool.not_eq_true', Bool.or_eq_false_iff, Bool.and_eq_false_iff, decide_eq_false_iff_not]
  refine ⟨by omega, by omega, ?_⟩
  by_cases hk0 : k = 0
  · exact .inl (by omega)
  · right
    have hg1 : bs.getD (k - 1) (0, 0) = bs[k - 1] := by rw [List.getD_eq_getElem?_getD, List.getElem?_eq_getElem (by omega)]; rfl
    rw [hg1, cmp_ge]
    have := (List.pairwise_iff_getElem.1 hs) (k - 1) k (by omega) hk (by omega)
    unfold ltC at this
    omega
theorem cellsF_ok (hok : CO W H cs) (l : List Cell) : okB W H cs (cellsF W cs l) = true :=
  okB_of hok (List.Pairwise.filter _ (booms_sorted (by have := hok.w; omega))) fun p hp => (booms_mem hok).1 (List.mem_filter.1 hp).1
theorem boomF_mem {bs : List Cell} (hon : ∀ p ∈ bs, onB W H p.1 p.2 = true) {p : Cell} (h : onB W H p.1 p.2 = true) : boomF W H bs (idxU W p) = true ↔ p ∈ bs := by
  unfold boomF boomP
  rw [List.take_length, List.any_eq_true]
  constructor
  · rintro ⟨q, hq, he⟩
    rw [decide_eq_true_eq, ← (idxC_mod h).1] at he
    rw [idxC_inj h (hon q hq) he]; exact hq
  · intro hp
    exact ⟨p, hp, by rw [decide_eq_true_eq, (idxC_mod h).1]⟩
/-- The booms of the barrier as land: a barrier that costs nothing. -/
theorem dry_zero (hok : CO W H cs) {l : List Cell} (hb : BarP W H cs l) : ∃ l' w', barO W H (chgL cs (dryG W H cs (cellsF W cs l))) = some (l', w') ∧ w'.1 = 0 := by
  have hok' := hok.dry (cellsF W cs l)
  have hon : ∀ p ∈ cellsF W cs l, onB W H p.1 p.2 = true := fun p hp => ((booms_mem hok).1 (List.mem_filter.1 hp).1).1
  have key : ∀ p ∈ l, (chgL cs (dryG W H cs (cellsF W cs l))).getD (idxU W p).toNat 0 = -1 := fun p hp => by
    obtain ⟨h1, h2⟩ := hb.mem hp
    have h3 := idxU_in hok h1
    have h4 := hok.get h3.1 h3.2.1
    rw [chgL_get _ h3.1 h3.2.1]
    unfold dryG
    by_cases h5 : cs.getD (idxU W p).toNat 0 > 0
    · rw [if_pos]
      rw [boomF_mem hon h1]
      exact List.mem_filter.2 ⟨(booms_mem hok).2 ⟨h1, h5⟩, by rw [decide_eq_true_eq]; exact hp⟩
    · split <;> omega
  have hb' : BarP W H (chgL cs (dryG W H cs (cellsF W cs l))) l := ⟨hb.on, hb.nd, hb.len, hb.adj, fun j hj => by
    rw [key _ (by rw [List.getD_eq_getElem?_getD, List.getElem?_eq_getElem hj]; exact List.getElem_mem hj)]
    omega, hb.top, hb.bot⟩
  obtain ⟨l', w', he, hle⟩ := bar_least hok' hb'
  refine ⟨l', w', he, ?_⟩
  have hz : sumC W (chgL cs (dryG W H cs (cellsF W cs l))) l = 0 := by
    rw [sumC_eq]
    have : l.map (fun p => cstI (chgL cs (dryG W H cs (cellsF W cs l))) (idxU W p)) = l.map fun _ => 0 := List.map_congr_left fun p hp => by
      unfold cstI; rw [key p hp]; rfl
    rw [this]
    exact sum_zero l
  have hi := bar_is hok' he
  have : 0 ≤ sumC W (chgL cs (dryG W H cs (cellsF W cs l))) (cellsL W l') := by
    rw [sum_val]
    exact valW_pos (fun i => by unfold cstI; split <;> omega) _
  omega
end
end Go.Proofs.Ytbhpnhcdjmcaoaa

/- Boom, plain: booms block exactly if there is a barrier of them and of land. -/
namespace Go.Proofs.Ytbhpnhcdjmcaoaa
open Go.RowKit
set_option linter.unusedVariables false
set_option linter.unusedSimpArgs false
section
variable {W H : Int} {cs : List Int}
/-- What is wet, cell by cell. -/
def wetC (W : Int) (wet : Int → Bool) (p : Cell) : Bool := wet (idxU W p)
theorem near_adj {e : Bool} {p q : Cell} (hp : onB W H p.1 p.2 = true) (hq : onB W H q.1 q.2 = true) (h : adj e p q) : idxU W p ∈ nearL W H e (idxU W q) := by
  have := (near_iff (e := e) hp hq).2 h
  rwa [(idxC_mod hp).1, (idxC_mod hq).1] at this
theorem ra_walk (hok : CO W H cs) {wet : Int → Bool} {p : Cell} (h : RA W H (wetC W wet) p) : ∃ l, isWalk (iniW W cs.length wet (W - 1)) (nbW W H cs.length wet) (idxU W p :: l) := by
  induction h with
  | @ini p ho hw hx =>
    have hi := idxU_in hok ho
    refine ⟨[], ?_⟩
    show iniW W cs.length wet (W - 1) (idxU W p) = true
    unfold iniW
    rw [dd_t ⟨hi.1, hi.2.1⟩, show wet (idxU W p) = true from hw, dd_t (by rw [hi.2.2.2]; exact hx)]; rfl
  | @step p q ho hw ha hq ih =>
    obtain ⟨l, hl⟩ := ih
    have hi := idxU_in hok ho
    exact ⟨idxU W q :: l, nbW_iff.2 ⟨⟨hi.1, hi.2.1⟩, hw, near_adj hq.on.1 ho (adj_symm ha), hq.on.2⟩, hl⟩
theorem idx_cellI (hok : CO W H cs) {i : Int} (h0 : 0 ≤ i) (h : i < cs.length) : onB W H (cellI W i).1 (cellI W i).2 = true ∧ idxU W (cellI W i) = i :=
  cellI_idx (by have := hok.w; omega) h0 (by have := hok.len; omega)
theorem adj_near (hok : CO W H cs) {e : Bool} {i k : Int} (hi : 0 ≤ i ∧ i < cs.length) (hk : 0 ≤ k ∧ k < cs.length) (h : k ∈ nearL W H e i) : adj e (cellI W k) (cellI W i) := by
  obtain ⟨a1, a2⟩ := idx_cellI hok hi.1 hi.2
  obtain ⟨b1, b2⟩ := idx_cellI hok hk.1 hk.2
  rw [← (near_iff b1 a1), (idxC_mod a1).1, (idxC_mod b1).1, a2, b2]; exact h
theorem walk_ra (hok : CO W H cs) {wet : Int → Bool} : ∀ {l : List Int} {i : Int}, isWalk (iniW W cs.length wet (W - 1)) (nbW W H cs.length wet) (i :: l) → RA W H (wetC W wet) (cellI W i)
  | [], i, h => by
    have h : iniW W cs.length wet (W - 1) i = true := h
    unfold iniW at h
    simp only [Bool.and_eq_true, decide_eq_true_eq] at h
    obtain ⟨h1, h2, h3⟩ := h
    obtain ⟨a1, a2⟩ := idx_cellI hok h1.1 h1.2
    exact .ini a1 (by unfold wetC; rw [a2]; exact h2) h3
  | k :: r, i, h => by
    obtain ⟨h1, h2, h3, h4⟩ := nbW_iff.1 h.1
    have hk := (nbW_in (by have := hok.w; omega) hok.len i k h.1).2
    obtain ⟨a1, a2⟩ := idx_cellI hok h1.1 h1.2
    exact .step a1 (by unfold wetC; rw [a2]; exact h2) (adj_symm (adj_near hok h1 hk h3)) (walk_ra hok h.2)
/-- There is a channel exactly if water leads from one shore to the other. -/
theorem chan_some {wet : Int → Bool} (hok : CO W H cs) : (∃ l, chanO W H cs.length wet = some l) ↔ ∃ p, RA W H (wetC W wet) p ∧ p.1 = 0 := by
  have hW : 0 < W := by have := hok.w; omega
  have hD := distO_is (iniW W cs.length wet (W - 1)) (nbW W H cs.length wet)
  obtain ⟨h0, rfl⟩ : ∃ h0 : Nat, H = h0 := ⟨H.toNat, by have := hok.h; omega⟩
  constructor
  · rintro ⟨l, h⟩
    unfold chanO chanD at h
    rw [Int.toNat_natCast] at h
    cases hd : distW W h0 cs.length wet (W - 1) (bestC W (distW W h0 cs.length wet (W - 1)) h0) with
    | none => rw [hd] at h; cases h
    | some m =>
      obtain ⟨l', h1, _⟩ := hD.sound _ _ hd
      rcases bestC_spec hW (distW W h0 cs.length wet (W - 1)) h0 with ⟨h2, _⟩ | ⟨b, n, h2, h3, h4⟩
      · rw [h2] at hd
        have := (distW_dom hW hok.len hd).1; omega
      · refine ⟨_, walk_ra hok h1, ?_⟩
        rw [h2]
        show (b : Int) * W % W = 0
        exact Int.mul_emod_left _ _
  · rintro ⟨p, h1, h2⟩
    obtain ⟨l, hl⟩ := ra_walk hok h1
    obtain ⟨n, hn, _⟩ := hD.comp _ _ hl
    have ho := onB_t h1.on.1
    have hi : idxU W p = (p.2.toNat : Int) * W := by unfold idxU; rw [h2, Int.toNat_of_nonneg ho.2.1]; omega
    have hn : distW W h0 cs.length wet (W - 1) ((p.2.toNat : Int) * W) = some n := by rw [← hi]; exact hn
    unfold chanO chanD
    rw [Int.toNat_natCast]
    rcases bestC_spec hW (distW W h0 cs.length wet (W - 1)) h0 with ⟨h3, h4⟩ | ⟨b, m, h3, h4, h5⟩
    · have := h4 p.2.toNat (by omega)
      rw [this] at hn; cases hn
    · rw [h3, h5]; exact ⟨_, rfl⟩
/-- What holds, cell by cell. -/
def dryC (W : Int) (cs : List Int) (p : Cell) : Bool := !hldI cs (idxU W p)
theorem dryC_f {p : Cell} : dryC W cs p = false ↔ ¬ cs.getD (idxU W p).toNat 0 = 0 := by
  unfold dryC hldI
  rw [Bool.not_eq_false', decide_eq_true_eq]
theorem dry_loose : ∀ {l : List Cell}, dryL W H (dryC W cs) l → looseL W H cs l
  | [p], h => ⟨h.1, dryC_f.1 h.2.1, h.2.2⟩
  | p :: q :: r, h => ⟨h.1.1, dryC_f.1 h.1.2.1, adj_symm h.1.2.2, dry_loose h.2⟩
theorem loose_rb : ∀ {r : List Cell} {p : Cell}, looseL W H cs (p :: r) → RB W H (dryC W cs) p
  | [], p, h => .ini h.1 (dryC_f.2 h.2.1) h.2.2
  | q :: r, p, h => .step h.1 (dryC_f.2 h.2.1) (adj_symm h.2.2.1) (loose_rb h.2.2.2)
theorem bar_rb {l : List Cell} (h : BarP W H cs l) : ∃ p, RB W H (dryC W cs) p ∧ p.2 = 0 := by
  have h1 := h.len
  have h2 := bar_loose h (l.length - 1) 0 (by omega)
  have h3 := (h.top 0 (by omega)).2 rfl
  match l, h2, h3 with
  | p :: r, h2, h3 => exact ⟨p, loose_rb h2, h3⟩
theorem bar_some (hok : CO W H cs) : (∃ q, barO W H cs = some q) ↔ ∃ p, RB W H (dryC W cs) p ∧ p.2 = 0 := by
  constructor
  · rintro ⟨⟨l, w⟩, h⟩
    exact bar_rb (bar_is hok h).1
  · rintro ⟨p, h1, h2⟩
    obtain ⟨r, hr⟩ := h1.list
    obtain ⟨l, w, h3, _⟩ := loose_least hok (dry_loose hr) h2
    exact ⟨_, h3⟩
/-- Water and what holds are each other's contrary. -/
theorem dual (hok : CO W H cs) {cs' : List Int} (hok' : CO W H cs') {wet : Int → Bool} (h : ∀ p : Cell, onB W H p.1 p.2 = true → hldI cs' (idxU W p) = !wet (idxU W p)) : chanO W H cs.length wet = none ↔ ∃ q, barO W H cs' = some q := by
  have hW : 0 < W := by have := hok.w; omega
  have hH : 0 < H := by have := hok.h; omega
  have he : ∀ p : Cell, onB W H p.1 p.2 = true → dryC W cs' p = wetC W wet p := fun p hp => by unfold dryC wetC; rw [h p hp, Bool.not_not]
  have rb1 : ∀ {p : Cell}, RB W H (dryC W cs') p → RB W H (wetC W wet) p := fun {p} hr => by
    induction hr with
    | ini ho hw hx => exact .ini ho (by rw [← he _ ho]; exact hw) hx
    | step ho hw ha hq ih => exact .step ho (by rw [← he _ ho]; exact hw) ha ih
  have rb2 : ∀ {p : Cell}, RB W H (wetC W wet) p → RB W H (dryC W cs') p := fun {p} hr => by
    induction hr with
    | ini ho hw hx => exact .ini ho (by rw [he _ ho]; exact hw) hx
    | step ho hw ha hq ih => exact .step ho (by rw [he _ ho]; exact hw) ha ih
  rw [bar_some hok']
  constructor
  · intro hn
    rcases dual_ex (w := wetC W wet) hW hH with h1 | ⟨p, h1, h2⟩
    · obtain ⟨l, hl⟩ := (chan_some hok).2 h1
      rw [hn] at hl; cases hl
    · exact ⟨p, rb2 h1, h2⟩
  · rintro ⟨p, h1, h2⟩
    cases hc : chanO W H cs.length wet with
    | none => rfl
    | some l =>
      obtain ⟨c, h3, h4⟩ := (chan_some hok).1 ⟨l, hc⟩
      exact (dual_no h3 h4 (rb1 h1) h2).elim
/-- The channel that is found is one. -/
theorem path_ways (hok : CO W H cs) {wet : Int → Bool} {col : Int} : ∀ (f : Nat) {i m : Int}, distW W H cs.length wet col i = some m → m.toNat ≤ f → isWalk (iniW W cs.length wet col) (nbW W H cs.length wet) (pathC W H (distW W H cs.length wet col) f i) ∧ (∃ r, pathC W H (distW W H cs.length wet col) f i = i :: r) ∧ (pathC W H (distW W H cs.length wet col) f i).Nodup ∧ ∀ x ∈ pathC W H (distW W H cs.length wet col) f i, ∃ u, distW W H cs.length wet col x = some u ∧ u ≤ m
  | 0, i, m, h, hf => by
    have hD := distO_is (iniW W cs.length wet col) (nbW W H cs.length wet)
    have hp := hD.pos h
    obtain ⟨l, h1, h2⟩ := hD.sound i m h
    have : l = [] := List.length_eq_zero_iff.1 (by omega)
    subst this
    refine ⟨h1, ⟨[], rfl⟩, by simp [pathC], fun x hx => ?_⟩
    simp only [pathC, List.mem_singleton] at hx
    exact ⟨m, hx ▸ h, Int.le_refl _⟩
  | f + 1, i, m, h, hf => by
    have hD := distO_is (iniW W cs.length wet col) (nbW W H cs.length wet)
    have hW : 0 < W := by have := hok.w; omega
    have hp := hD.pos h
    by_cases h0 : 0 < m
    · obtain ⟨k, hk, hd, hnk⟩ := nextC_some h h0
      obtain ⟨i1, ⟨r, i2⟩, i3, i4⟩ := path_ways hok f hd (by omega)
      have hpp : pathC W H (distW W H cs.length wet col) (f + 1) i = i :: pathC W H (distW W H cs.length wet col) f k := by simp only [pathC, h, hk]; rw [if_pos (by omega)]
      have hdi := distW_dom hW hok.len h
      have hdk := distW_dom hW hok.len hd
      rw [hpp]
      refine ⟨by rw [i2] at i1 ⊢; exact ⟨nbW_iff.2 ⟨hdi.1, hdi.2, hnk, hdk.2⟩, i1⟩, ⟨_, rfl⟩, List.nodup_cons.2 ⟨fun hm => ?_, i3⟩, fun x hx => ?_⟩
      · obtain ⟨u, hu, hle⟩ := i4 i hm
        rw [h] at hu; cases hu; omega
      · rcases List.mem_cons.1 hx with rfl | hx
        · exact ⟨m, h, Int.le_refl _⟩
        · obtain ⟨u, hu, hle⟩ := i4 x hx
          exact ⟨u, hu, by omega⟩
    · have hpp : pathC W H (distW W H cs.length wet col) (f + 1) i = [i] := by simp only [pathC, h]; rw [if_neg (by omega)]
      obtain ⟨l, h1, h2⟩ := hD.sound i m h
      have : l = [] := List.length_eq_zero_iff.1 (by omega)
      subst this
      rw [hpp]
      exact ⟨h1, ⟨[], rfl⟩, by simp, fun x hx => by rw [List.mem_singleton.1 hx]; exact ⟨m, h, Int.le_refl _⟩⟩
theorem walkW_key {wet : Int → Bool} {col : Int} : ∀ {l : List Int}, isWalk (iniW W cs.length wet col) (nbW W H cs.length wet) l → (∀ j, j < l.length → wet (l.getD j 0) = true) ∧ (l.getD (l.length - 1) 0 % W = col) ∧ ∀ j, j + 1 < l.length → l.getD (j + 1) 0 ∈ nearL W H false (l.getD j 0)
  | [i], h => by
    have h : iniW W cs.length wet col i = true := h
    unfold iniW at h
    simp only [Bool.and_eq_true, decide_eq_true_eq] at h
    exact ⟨fun j hj => by have : j = 0 := by simp at hj; omega
                          subst this; exact h.2.1, h.2.2, fun j hj => by simp at hj⟩
  | i :: k :: r, h => by
    obtain ⟨h1, h2, h3, h4⟩ := nbW_iff.1 h.1
    obtain ⟨i1, i2, i3⟩ := walkW_key h.2
    refine ⟨fun j hj => ?_, ?_, fun j hj => ?_⟩
    · match j with
      | 0 => exact h2
      | j + 1 => exact i1 j (by simpa using hj)
    · have : (i :: k :: r).length - 1 = (k :: r).length - 1 + 1 := by simp
      rw [this]; exact i2
    · match j with
      | 0 => exact h3
      | j + 1 => exact i3 j (by simpa using hj)
theorem chan_is (hok : CO W H cs) {wet : Int → Bool} {l : List Int} (h : chanO W H cs.length wet = some l) : ChanP W H wet (cellsL W l) := by
  have hW : 0 < W := by have := hok.w; omega
  obtain ⟨h0, rfl⟩ : ∃ h0 : Nat, H = h0 := ⟨H.toNat, by have := hok.h; omega⟩
  unfold chanO chanD at h
  rw [Int.toNat_natCast] at h
  cases hd : distW W h0 cs.length wet (W - 1) (bestC W (distW W h0 cs.length wet (W - 1)) h0) with
  | none => rw [hd] at h; cases h
  | some m =>
    rw [hd] at h
    cases h
    obtain ⟨p1, ⟨r, p2⟩, p3, _⟩ := path_ways hok m.toNat hd (Nat.le_refl _)
    have hb : bestC W (distW W h0 cs.length wet (W - 1)) h0 % W = 0 := by
      rcases bestC_spec hW (distW W h0 cs.length wet (W - 1)) h0 with ⟨h2, _⟩ | ⟨b, n, h2, h3, h4⟩
      · rw [h2] at hd
        have := (distW_dom hW hok.len hd).1; omega
      · rw [h2]; exact Int.mul_emod_left _ _
    obtain ⟨k1, k2, k3⟩ := walkW_key p1
    have hin := walk_rng (n := cs.length) iniW_in (nbW_in hW hok.len) p1
    have hlen := nodup_len cs.length _ p3 hin
    have hn : W * h0 ≤ 100 := by have := Int.mul_le_mul hok.w.2 hok.h.2 (by have := hok.h; omega) (by omega : (0:Int) ≤ 10); omega
    have hcl := hok.len
    obtain ⟨q, hq⟩ : ∃ q, q = pathC W h0 (distW W h0 cs.length wet (W - 1)) m.toNat (bestC W (distW W h0 cs.length wet (W - 1)) h0) := ⟨_, rfl⟩
    rw [← hq] at p1 p2 p3 k1 k2 k3 hin hlen ⊢
    have hpos : 1 ≤ q.length := by rw [p2]; simp
    have hll : (cellsL W q).length = q.length := by simp [cellsL]
    have hget : ∀ j, j < q.length → (cellsL W q).getD j cz = cellI W (q.getD j 0) := fun j hj => by
      simp only [cellsL, List.getD_eq_getElem?_getD, List.getElem?_map, List.getElem?_eq_getElem hj]; rfl
    have hri : ∀ j, j < q.length → 0 ≤ q.getD j 0 ∧ q.getD j 0 < cs.length := fun j hj => hin _ (getD_mem hj)
    have hci : ∀ j, j < q.length → onB W h0 (cellI W (q.getD j 0)).1 (cellI W (q.getD j 0)).2 = true ∧ idxU W (cellI W (q.getD j 0)) = q.getD j 0 := fun j hj => idx_cellI hok (hri j hj).1 (hri j hj).2
    refine ⟨fun j hj => ?_, fun j i hj hi he => ?_, by rw [hll]; omega, fun j hj => ?_, fun j hj => ?_, ?_, ?_⟩
    · rw [hll] at hj; rw [hget j hj]; exact (hci j hj).1
    · rw [hll] at hj
      rw [hget j hj, hget i (by omega)] at he
      have h1 : q.getD j 0 = q.getD i 0 := by rw [← (hci j hj).2, ← (hci i (by omega)).2, he]
      rw [List.getD_eq_getElem?_getD, List.getD_eq_getElem?_getD, List.getElem?_eq_getElem hj, List.getElem?_eq_getElem (show i < q.length by omega)] at h1
      exact (List.pairwise_iff_getElem.1 p3) i j (by omega) hj hi h1.symm
    · rw [hll] at hj
      rw [hget (j + 1) hj, hget j (by omega)]
      exact adj_near hok (hri j (by omega)) (hri (j + 1) hj) (k3 j hj)
    · rw [hll] at hj
      rw [hget j hj, (hci j hj).2]; exact k1 j hj
    · rw [hget 0 (by omega), p2]; exact hb
    · rw [hll, hget (q.length - 1) (by omega)]; exact k2
end
end Go.Proofs.Ytbhpnhcdjmcaoaa

/- Boom, the laws: the chart without other booms, and what booms cost. -/
namespace Go.Proofs.Ytbhpnhcdjmcaoaa
open Go.RowKit
set_option linter.unusedVariables false
set_option linter.unusedSimpArgs false
def kpB (W : Int) (bs : List Cell) (k : Int) (j : Nat) : Bool := (bs.take j).any fun p => decide (idxU W p = k)
def deadG (W : Int) (cs : List Int) (bs : List Cell) (i : Int) : Int := if (decide (cs.getD i.toNat 0 ≤ 0) || kpB W bs i bs.length) = true then cs.getD i.toNat 0 else 0
theorem kpB_succ {W : Int} {bs : List Cell} {k : Int} {j : Nat} (hj : j < bs.length) : kpB W bs k (j + 1) = (kpB W bs k j || decide (idxU W (bs.getD j (0, 0)) = k)) := by
  unfold kpB
  rw [List.take_add_one, show bs[j]?.toList = [bs.getD j (0, 0)] by rw [List.getElem?_eq_getElem hj, List.getD_eq_getElem?_getD, List.getElem?_eq_getElem hj]; rfl]
  simp
set_option maxRecDepth 10000 in
set_option maxHeartbeats 8000000 in
theorem dead_spec (W H : Int) (cs : List Int) (bs : List Cell) (hok : CO W H cs) (hon : ∀ k, k < bs.length → onB W H (bs.getD k (0, 0)).1 (bs.getD k (0, 0)).2 = true) (hb : bs.length ≤ 300) :
    Spec Try.prog 46 [chR W H cs.length, V.c (.sl 1 bs.length)] [⟨0, .ro 0, cs.map C.i⟩, ⟨1, .ro 0, cellC bs⟩] 2 (fun v L' _ => chgR W H (chgL cs (deadG W cs bs)) v L') := by
  have hlm : (cs.map C.i).length = cs.length := by simp
  have hcb : (cellC bs).length = 2 * bs.length := cellC_len bs
  obtain ⟨hW, hH, hcl, hcost⟩ := hok
  have hok : CO W H cs := ⟨hW, hH, hcl, hcost⟩
  have hn : (cs.length : Int) ≤ 100 := by have := Int.mul_le_mul hW.2 hH.2 (by omega) (by omega : (0:Int) ≤ 10); omega
  refine Spec.of tok Try.func46 rfl rfl rfl fun n0 cx => vc_ok tok ?_
  repeat ((conv => whnf); first | (refine And.intro (by first | omega | exact Nat.le_of_ble_eq_true rfl) ?_) | refine Exists.intro _ (And.intro rfl ?_) | refine fun (K' : K3) hK' => ?_ | (refine hK' _ _ _ ?_; clear hK' K'))
  refine Tri.loop (γ := Nat) (fun k => k ≤ cs.length) (fun k => [(1, V.c (.sl 1 bs.length)), (2, V.c (.ptr 2 0)), (4, V.c (.ptr 3 0)), (5, V.c (.ptr 4 0)), (17, V.c (.sl 0 cs.length)), (18, V.i cs.length), (19, V.i (k : Nat))])
    (fun k => [⟨5, .vec 3 1, (chgK (deadG W cs bs) k).map C.i⟩, ⟨4, .own 24, [C.i W, C.i H, .sl 5 k]⟩, ⟨3, .own 24, [C.i 0, C.i 0, .nil]⟩, ⟨2, .own 24, [C.i W, C.i H, .sl 0 cs.length]⟩, ⟨0, .ro 0, cs.map C.i⟩, ⟨1, .ro 0, cellC bs⟩]) 6 (fun k => cs.length - k) 0 (R0 := [(5, none)]) ?_ ?_ ?_
  · omega
  · skip
    refine ⟨?_, ?_, rfl, rfl, by exact Nat.le_of_ble_eq_true rfl⟩
    · repeat (first | exact trivial | (refine And.intro (covS_syn (by rfl) rfl (by first | exact trivial | exact Nat.le_of_ble_eq_true rfl)) ?_))
    · repeat (first | exact trivial | refine And.intro (covE_some rfl (Nat.le_of_ble_eq_true rfl) (wf_cells _ _) rfl (ren_cells _ _)) ?_ | refine And.intro (covE_nil rfl (Nat.le_of_ble_eq_true rfl) rfl rfl) ?_ | (refine And.intro (covE_some rfl (Nat.le_of_ble_eq_true rfl) (by first | exact wf_ints _ _ | simp [C.wf]) rfl (by first | exact ren_ints _ _ | rfl)) ?_))
  · intro k hk
    refine vc_ok tok ?_
    by_cases hlt : k < cs.length
    · have hld := intL hlt
      have hrow : ((chgK (deadG W cs bs) k).map C.i).length = k := by simp [chgK]
      have hsucc := chgK_succ (deadG W cs bs) k
      have hdg : deadG W cs bs (k : Int) = if (decide (cs.getD k 0 ≤ 0) || kpB W bs k bs.length) = true then cs.getD k 0 else 0 := by unfold deadG; rw [Int.toNat_natCast]
      obtain ⟨x, hx⟩ : ∃ x, x = cs.getD k 0 := ⟨_, rfl⟩
      rw [← hx] at hld hdg
      repeat ((conv => whnf); first | (refine And.intro (by first | omega | (dsimp only [inK]; omega)) ?_) | with_reducible refine ld (hld) ?_ | refine br_t (by omega) ?_ | refine fun (K' : K3) hK' => ?_ | (refine hK' _ _ _ ?_; clear hK' K'))
      refine Tri.loop (γ := Nat) (fun j => j ≤ bs.length) (fun j => [(1, V.c (.sl 1 bs.length)), (2, V.c (.ptr 2 0)), (4, V.c (.ptr 3 0)), (5, V.c (.ptr 4 0)), (6, V.i (k : Nat)), (7, V.i x), (8, V.c (.bool (decide (x ≤ 0) || kpB W bs k j))), (17, V.c (.sl 0 cs.length)), (18, V.i cs.length), (19, V.i (k : Nat)), (26, V.c (.sl 1 bs.length)), (27, V.i bs.length), (28, V.i (j : Nat))])
        (fun j => [⟨5, .vec 3 1, (chgK (deadG W cs bs) k).map C.i⟩, ⟨4, .own 24, [C.i W, C.i H, .sl 5 k]⟩, ⟨3, .own 24, [C.i 0, C.i 0, .nil]⟩, ⟨2, .own 24, [C.i W, C.i H, .sl 0 cs.length]⟩, ⟨0, .ro 0, cs.map C.i⟩, ⟨1, .ro 0, cellC bs⟩]) 6 (fun j => bs.length - j) 0 (R0 := []) ?_ ?_ ?_
      · omega
      · skip
        refine ⟨?_, ?_, rfl, rfl, by exact Nat.le_of_ble_eq_true rfl⟩
        · repeat (first | exact trivial | (refine And.intro (covS_syn (by rfl) rfl (by first | exact trivial | exact Nat.le_of_ble_eq_true rfl)) ?_) | refine And.intro (covS_bool rfl rfl (by simp [kpB])) ?_)
        · repeat (first | exact trivial | (refine And.intro (covE_id (Nat.le_of_ble_eq_true rfl) (by first | exact wf_ints _ _ | first | exact wf_cells _ _ | simp [C.wf]) rfl (by rfl)) ?_))
      · intro j hj
        refine vc_ok tok ?_
        by_cases hjl : j < bs.length
        · have hld2 := cellT (l := bs) (k := j) rfl hjl
          have ho := onB_t (hon j hjl)
          have hks := kpB_succ (W := W) (k := (k : Int)) hjl
          obtain ⟨p, hp⟩ : ∃ p, p = bs.getD j (0, 0) := ⟨_, rfl⟩
          rw [← hp] at hld2 ho hks
          have hpw : 0 ≤ p.2 * W ∧ p.2 * W ≤ 100 := ⟨Int.mul_nonneg (by omega) (by omega), by have := Int.mul_le_mul (show p.2 ≤ 10 by omega) hW.2 (by omega) (by omega : (0:Int) ≤ 10); omega⟩
          cases hm : (decide (x ≤ 0) || kpB W bs k j) with
          | true =>
            have hm1 : (decide (x ≤ 0) || kpB W bs k (j + 1)) = true := by rw [hks, ← Bool.or_assoc, hm]; rfl
            repeat ((conv => whnf); first | (refine And.intro (by first | omega | exact Nat.le_of_ble_eq_true rfl | (dsimp only [inK]; omega)) ?_) | with_reducible refine ld (hld2) ?_ | refine br_t (by omega) ?_ | refine fun (K' : K3) hK' => ?_ | (refine hK' _ _ _ ?_; clear hK' K') | refine bs_bt rfl ?_)
            refine ⟨j + 1, [], by omega, by omega, ?_⟩
            rw [hm1]
            refine ⟨?_, ?_, rfl, rfl, by exact Nat.le_of_ble_eq_true rfl⟩
            · repeat (first | exact trivial | (refine And.intro (covS_syn (by rfl) rfl (by first | exact trivial | exact Nat.le_of_ble_eq_true rfl)) ?_) | refine And.intro (covS_bool rfl rfl (by rfl)) ?_)
            · repeat (first | exact trivial | (refine And.intro (covE_id (Nat.le_of_ble_eq_true rfl) (by first | exact wf_ints _ _ | first | exact wf_cells _ _ | simp [C.wf]) rfl (by rfl)) ?_))
          | false =>
            have hm1 : (decide (x ≤ 0) || kpB W bs k (j + 1)) = decide (p.2 * W + p.1 = (k : Int)) := by rw [hks, ← Bool.or_assoc, hm]; rfl
            repeat ((conv => whnf); first | (refine And.intro (by first | omega | exact Nat.le_of_ble_eq_true rfl | (dsimp only [inK]; omega)) ?_) | with_reducible refine ld (hld2) ?_ | refine Exists.intro _ (And.intro rfl ?_) | refine br_t (by omega) ?_ | refine fun (K' : K3) hK' => ?_ | (refine hK' _ _ _ ?_; clear hK' K') | refine bs_bf rfl ?_)
            refine ⟨j + 1, [], by omega, by omega, ?_⟩
            rw [hm1]
            refine ⟨?_, ?_, rfl, rfl, by exact Nat.le_of_ble_eq_true rfl⟩
            · repeat (first | exact trivial | (refine And.intro (covS_syn (by rfl) rfl (by first | exact trivial | exact Nat.le_of_ble_eq_true rfl)) ?_))
            · repeat (first | exact trivial | (refine And.intro (covE_id (Nat.le_of_ble_eq_true rfl) (by first | exact wf_ints _ _ | first | exact wf_cells _ _ | simp [C.wf]) rfl (by rfl)) ?_))
        · have hje : j = bs.length := by omega
          subst hje
          cases hm : (decide (x ≤ 0) || kpB W bs k bs.length) with
          | true =>
            rw [hm, if_pos rfl] at hdg
            rw [hdg] at hsucc
            repeat ((conv => whnf); first | (refine And.intro (by first | omega | exact Nat.le_of_ble_eq_true rfl | (dsimp only [inK]; omega) | (exact ⟨rfl, rfl, rfl, Nat.le_of_ble_eq_true rfl, by dsimp only; omega, by exact Nat.le_of_ble_eq_true rfl, by omega, Nat.le_of_ble_eq_true rfl⟩)) ?_) | refine Exists.intro _ (And.intro rfl ?_) | refine br_f (by omega) ?_ | refine fun (K' : K3) hK' => ?_ | (refine hK' _ _ _ ?_; clear hK' K') | refine br_bf rfl ?_)
            refine ⟨k + 1, [(5, some 7)], by omega, by omega, ?_⟩
            refine ⟨?_, ?_, rfl, rfl, by exact Nat.le_of_ble_eq_true rfl⟩
            · repeat (first | exact trivial | (refine And.intro (covS_syn (by rfl) rfl (by first | exact trivial | exact Nat.le_of_ble_eq_true rfl)) ?_))
            · repeat (first | exact trivial | (refine And.intro (covE_some rfl (Nat.le_of_ble_eq_true rfl) (wf_ints _ _) rfl ((ren_ints _ _).trans (congrArg some (by rw [hsucc]; rfl)))) ?_) | refine And.intro (covE_some rfl (Nat.le_of_ble_eq_true rfl) (wf_cells _ _) rfl (ren_cells _ _)) ?_ | (refine And.intro (covE_some rfl (Nat.le_of_ble_eq_true rfl) (by first | exact wf_ints _ _ | simp [C.wf]) rfl (by first | exact ren_ints _ _ | rfl)) ?_))
          | false =>
            rw [hm, if_neg (by simp)] at hdg
            rw [hdg] at hsucc
            repeat ((conv => whnf); first | (refine And.intro (by first | omega | exact Nat.le_of_ble_eq_true rfl | (dsimp only [inK]; omega) | (exact ⟨rfl, rfl, rfl, Nat.le_of_ble_eq_true rfl, by dsimp only; omega, by exact Nat.le_of_ble_eq_true rfl, by omega, Nat.le_of_ble_eq_true rfl⟩)) ?_) | refine Exists.intro _ (And.intro rfl ?_) | refine br_f (by omega) ?_ | refine fun (K' : K3) hK' => ?_ | (refine hK' _ _ _ ?_; clear hK' K') | refine br_bt rfl ?_)
            refine ⟨k + 1, [(5, some 7)], by omega, by omega, ?_⟩
            refine ⟨?_, ?_, rfl, rfl, by exact Nat.le_of_ble_eq_true rfl⟩
            · repeat (first | exact trivial | (refine And.intro (covS_syn (by rfl) rfl (by first | exact trivial | exact Nat.le_of_ble_eq_true rfl)) ?_))
            · repeat (first | exact trivial | (refine And.intro (covE_some rfl (Nat.le_of_ble_eq_true rfl) (wf_ints _ _) rfl ((ren_ints _ _).trans (congrArg some (by rw [hsucc]; rfl)))) ?_) | refine And.intro (covE_some rfl (Nat.le_of_ble_eq_true rfl) (wf_cells _ _) rfl (ren_cells _ _)) ?_ | (refine And.intro (covE_some rfl (Nat.le_of_ble_eq_true rfl) (by first | exact wf_ints _ _ | simp [C.wf]) rfl (by first | exact ren_ints _ _ | rfl)) ?_))
    · have hkn : k = cs.length := by omega
      subst hkn
      repeat ((conv => whnf); first | (refine And.intro (by first | omega | exact Nat.le_of_ble_eq_true rfl) ?_) | refine Exists.intro _ (And.intro rfl ?_) | refine br_f (by omega) ?_ | refine fun (K' : K3) hK' => ?_ | (refine hK' _ _ _ ?_; clear hK' K'))
      exact ⟨5, by rw [chgL_len]; rfl, rfl⟩
def totK (W : Int) (cs : List Int) (l : List Cell) (k : Nat) : Int := ((l.take k).map fun p => cs.getD (idxU W p).toNat 0).sum
def totC (W : Int) (cs : List Int) (l : List Cell) : Int := (l.map fun p => cs.getD (idxU W p).toNat 0).sum
theorem totK_succ {W : Int} {cs : List Int} {l : List Cell} {k : Nat} (h : k < l.length) : totK W cs l (k + 1) = totK W cs l k + cs.getD (idxU W (l.getD k (0, 0))).toNat 0 := by
  unfold totK
  rw [List.take_add_one, show l[k]?.toList = [l.getD k (0, 0)] by rw [List.getElem?_eq_getElem h, List.getD_eq_getElem?_getD, List.getElem?_eq_getElem h]; rfl, List.map_append, List.sum_append]
  simp
theorem totK_bd {W : Int} {cs : List Int} {l : List Cell} (hc : ∀ x ∈ cs, -1 ≤ x ∧ x ≤ 100) : ∀ k : Nat, -(k : Int) ≤ totK W cs l k ∧ totK W cs l k ≤ 100 * k
  | 0 => by simp [totK]
  | k + 1 => by
    have ih := totK_bd (W := W) (l := l) hc k
    by_cases h : k < l.length
    · rw [totK_succ h]
      have : -1 ≤ cs.getD (idxU W (l.getD k (0, 0))).toNat 0 ∧ cs.getD (idxU W (l.getD k (0, 0))).toNat 0 ≤ 100 := by
        generalize (idxU W (l.getD k (0, 0))).toNat = i
        rw [List.getD_eq_getElem?_getD]
        cases hh : cs[i]? with
        | none => simp
        | some x => exact hc x (List.mem_of_getElem? hh)
      omega
    · have : totK W cs l (k + 1) = totK W cs l k := by unfold totK; rw [List.take_of_length_le (by omega), List.take_of_length_le (by omega)]
      rw [this]; omega
set_option maxRecDepth 10000 in
set_option maxHeartbeats 8000000 in
theorem total_spec (W H : Int) (cs : List Int) (bs : List Cell) (hok : CO W H cs) (hon : ∀ k, k < bs.length → onB W H (bs.getD k (0, 0)).1 (bs.getD k (0, 0)).2 = true) (hb : bs.length ≤ 300) :
    Spec Try.prog 43 [chR W H cs.length, V.c (.sl 1 bs.length)] [⟨0, .ro 0, cs.map C.i⟩, ⟨1, .ro 0, cellC bs⟩] 2 (Is (V.i (totC W cs bs))) := by
  have hlm : (cs.map C.i).length = cs.length := by simp
  have hcb : (cellC bs).length = 2 * bs.length := cellC_len bs
  obtain ⟨hW, hH, hcl, hcost⟩ := hok
  have hok : CO W H cs := ⟨hW, hH, hcl, hcost⟩
  have hn : (cs.length : Int) ≤ 100 := by have := Int.mul_le_mul hW.2 hH.2 (by omega) (by omega : (0:Int) ≤ 10); omega
  have hend : totC W cs bs = totK W cs bs bs.length := by unfold totC totK; rw [List.take_length]
  rw [hend]
  refine Spec.of tok Try.func43 rfl rfl rfl fun n0 cx => vc_ok tok ?_
  repeat ((conv => whnf); first | refine fun (K' : K3) hK' => ?_ | (refine hK' _ _ _ ?_; clear hK' K'))
  refine Tri.loop (γ := Nat) (fun k => k ≤ bs.length) (fun k => [(2, V.c (.ptr 2 0)), (5, V.i (totK W cs bs k)), (8, V.c (.sl 1 bs.length)), (9, V.i bs.length), (10, V.i (k : Nat))])
    (fun k => [⟨2, .own 24, [C.i W, C.i H, .sl 0 cs.length]⟩, ⟨0, .ro 0, cs.map C.i⟩, ⟨1, .ro 0, cellC bs⟩]) 3 (fun k => bs.length - k) 0 (R0 := []) ?_ ?_ ?_
  · omega
  · skip
    refine ⟨?_, ?_, rfl, rfl, by exact Nat.le_of_ble_eq_true rfl⟩
    · repeat (first | exact trivial | (refine And.intro (covS_syn (by rfl) rfl (by first | exact trivial | exact Nat.le_of_ble_eq_true rfl)) ?_))
    · repeat (first | exact trivial | (refine And.intro (covE_id (Nat.le_of_ble_eq_true rfl) (by first | exact wf_ints _ _ | first | exact wf_cells _ _ | simp [C.wf]) rfl (by rfl)) ?_))
  · intro k hk
    refine vc_ok tok ?_
    have hbd := totK_bd (W := W) (l := bs) hcost k
    by_cases hlt : k < bs.length
    · have hld2 := cellT (l := bs) (k := k) rfl hlt
      have ho := onB_t (hon k hlt)
      have hidx := idxU_in hok (hon k hlt)
      have hts := totK_succ (W := W) (cs := cs) hlt
      obtain ⟨p, hp⟩ : ∃ p, p = bs.getD k (0, 0) := ⟨_, rfl⟩
      rw [← hp] at hld2 ho hts hidx
      have hpw : 0 ≤ p.2 * W ∧ p.2 * W ≤ 100 := ⟨Int.mul_nonneg (by omega) (by omega), by have := Int.mul_le_mul (show p.2 ≤ 10 by omega) hW.2 (by omega) (by omega : (0:Int) ≤ 10); omega⟩
      have he : p.2 * W + p.1 = idxU W p := rfl
      have hld := intLz (l := cs) (k := (idxU W p).toNat) (z := p.2 * W + p.1) (by omega) (by omega)
      have hx := CO.get hok hidx.1 hidx.2.1
      obtain ⟨x, hxe⟩ : ∃ x, x = cs.getD (idxU W p).toNat 0 := ⟨_, rfl⟩
      rw [← hxe] at hld hts hx
      repeat ((conv => whnf); first | (refine And.intro (by first | omega | exact Nat.le_of_ble_eq_true rfl | (dsimp only [inK]; omega)) ?_) | with_reducible refine ld (hld2) ?_ | with_reducible refine ld (hld) ?_ | refine Exists.intro _ (And.intro rfl ?_) | refine br_t (by omega) ?_ | refine fun (K' : K3) hK' => ?_ | (refine hK' _ _ _ ?_; clear hK' K'))
      refine ⟨k + 1, [], by omega, by omega, ?_⟩
      refine ⟨?_, ?_, rfl, rfl, by exact Nat.le_of_ble_eq_true rfl⟩
      · repeat (first | exact trivial | (refine And.intro (covS_syn (by first | rfl | (refine congrArg some (congrArg V.i ?_); first | omega | exact hts.symm)) rfl (by first | exact trivial | exact Nat.le_of_ble_eq_true rfl)) ?_))
      · repeat (first | exact trivial | (refine And.intro (covE_id (Nat.le_of_ble_eq_true rfl) (by first | exact wf_ints _ _ | first | exact wf_cells _ _ | simp [C.wf]) rfl (by rfl)) ?_))
    · have hkn : k = bs.length := by omega
      subst hkn
      repeat ((conv => whnf); first | refine br_f (by omega) ?_ | refine fun (K' : K3) hK' => ?_ | (refine hK' _ _ _ ?_; clear hK' K'))
      intro ρ; rfl
end Go.Proofs.Ytbhpnhcdjmcaoaa

/- Boom, plain: sets of booms that block, and what they cost. -/
namespace Go.Proofs.Ytbhpnhcdjmcaoaa
open Go.RowKit
set_option linter.unusedVariables false
set_option linter.unusedSimpArgs false
theorem cst_pos' (cs : List Int) (i : Int) : 0 ≤ cstI cs i := by unfold cstI; split <;> omega
section
variable {W H : Int} {cs : List Int}
theorem okB_mem (hW : 0 < W) {bs : List Cell} (h : okB W H cs bs = true) {p : Cell} (hp : p ∈ bs) : onB W H p.1 p.2 = true ∧ cs.getD (idxU W p).toNat 0 > 0 := by
  obtain ⟨k, hk, rfl⟩ := List.getElem_of_mem hp
  have hon := okB_on hW h k hk
  have e : bs.getD k (0, 0) = bs[k] := by rw [List.getD_eq_getElem?_getD, List.getElem?_eq_getElem hk]; rfl
  rw [e] at hon
  refine ⟨hon, ?_⟩
  unfold okB okBk at h
  have := List.all_eq_true.1 h k (List.mem_range.2 hk)
  unfold badK at this
  simp only [Bool.not_eq_true', Bool.or_eq_false_iff, decide_eq_false_iff_not] at this
  have h2 := this.2.1
  rw [e, (idxC_mod hon).1] at h2
  omega
theorem kp_iff {bs : List Cell} {i : Int} : kpB W bs i bs.length = true ↔ ∃ p ∈ bs, idxU W p = i := by
  unfold kpB
  rw [List.take_length, List.any_eq_true]
  simp
theorem idxU_inj (hok : CO W H cs) {p q : Cell} (hp : onB W H p.1 p.2 = true) (hq : onB W H q.1 q.2 = true) (h : idxU W p = idxU W q) : p = q := by
  refine idxC_inj hp hq ?_
  rw [(idxC_mod hp).1, (idxC_mod hq).1]; exact h
theorem CO.dead (hok : CO W H cs) (bs : List Cell) : CO W H (chgL cs (deadG W cs bs)) := hok.chg fun i h0 h => by
  unfold deadG
  have := hok.get h0 h
  split <;> omega
theorem dead_at (hok : CO W H cs) (bs : List Cell) {p : Cell} (hp : onB W H p.1 p.2 = true) : (chgL cs (deadG W cs bs)).getD (idxU W p).toNat 0 = if (decide (cs.getD (idxU W p).toNat 0 ≤ 0) || kpB W bs (idxU W p) bs.length) = true then cs.getD (idxU W p).toNat 0 else 0 := by
  have hi := idxU_in hok hp
  rw [chgL_get _ hi.1 hi.2.1]; rfl
theorem kp_mem (hok : CO W H cs) {bs : List Cell} (hon : ∀ p ∈ bs, onB W H p.1 p.2 = true) {p : Cell} (hp : onB W H p.1 p.2 = true) : kpB W bs (idxU W p) bs.length = decide (p ∈ bs) := by
  rw [Bool.eq_iff_iff, kp_iff, decide_eq_true_eq]
  exact ⟨fun ⟨q, h1, h2⟩ => by rw [← idxU_inj hok (hon q h1) hp h2]; exact h1, fun h => ⟨p, h, rfl⟩⟩
theorem bm_mem (hok : CO W H cs) {bs : List Cell} (hon : ∀ p ∈ bs, onB W H p.1 p.2 = true) {p : Cell} (hp : onB W H p.1 p.2 = true) : boomF W H bs (idxU W p) = decide (p ∈ bs) := by
  rw [Bool.eq_iff_iff, boomF_mem hon hp, decide_eq_true_eq]
theorem dead_hld (hok : CO W H cs) {bs : List Cell} (hB : okB W H cs bs = true) {p : Cell} (hp : onB W H p.1 p.2 = true) : hldI (chgL cs (deadG W cs bs)) (idxU W p) = !wetB cs (boomF W H bs) (idxU W p) := by
  have hW : 0 < W := by have := hok.w; omega
  have hon := fun q (hq : q ∈ bs) => (okB_mem hW hB hq).1
  have hi := idxU_in hok hp
  have hg := hok.get hi.1 hi.2.1
  unfold hldI wetB
  rw [dead_at hok bs hp, kp_mem hok hon hp, bm_mem hok hon hp]
  by_cases hm : p ∈ bs
  · have := (okB_mem hW hB hm).2
    rw [dd_t hm, Bool.or_true, if_pos rfl, dd_t (show cs.getD (idxU W p).toNat 0 ≠ 0 by omega)]; simp
  · rw [dd_f hm, Bool.or_false]
    by_cases h0 : cs.getD (idxU W p).toNat 0 ≤ 0
    · rw [dd_t h0, if_pos rfl]
      by_cases h1 : cs.getD (idxU W p).toNat 0 = 0
      · rw [dd_f (show ¬ cs.getD (idxU W p).toNat 0 ≠ 0 by omega), dd_t (show cs.getD (idxU W p).toNat 0 ≠ -1 by omega)]; rfl
      · rw [dd_t h1, dd_f (show ¬ cs.getD (idxU W p).toNat 0 ≠ -1 by omega)]; rfl
    · rw [dd_f h0, if_neg (by simp), dd_t (show cs.getD (idxU W p).toNat 0 ≠ -1 by omega)]; rfl
/-- Booms block exactly if there is a barrier of them and of land. -/
theorem either (hok : CO W H cs) {bs : List Cell} (hB : okB W H cs bs = true) : chanO W H cs.length (wetB cs (boomF W H bs)) = none ↔ ∃ q, barO W H (chgL cs (deadG W cs bs)) = some q :=
  dual hok (hok.dead bs) fun p hp => dead_hld hok hB hp
theorem dead_bar (hok : CO W H cs) {bs : List Cell} {l : List Cell} (h : BarP W H (chgL cs (deadG W cs bs)) l) : BarP W H cs l :=
  ⟨h.on, h.nd, h.len, h.adj, fun j hj e => by
    have := h.hold j hj
    rw [dead_at hok bs (h.on j hj), e] at this
    simp at this, h.top, h.bot⟩
theorem bar_mem {l : List Cell} {cs : List Int} (h : BarP W H cs l) {p : Cell} (hp : p ∈ l) : onB W H p.1 p.2 = true ∧ ¬ cs.getD (idxU W p).toNat 0 = 0 := by
  obtain ⟨k, hk, rfl⟩ := List.getElem_of_mem hp
  have h1 := h.on k hk
  have h2 := h.hold k hk
  have e : l.getD k cz = l[k] := by rw [List.getD_eq_getElem?_getD, List.getElem?_eq_getElem hk]; rfl
  rw [e] at h1 h2
  exact ⟨h1, h2⟩
theorem bar_nodup {l : List Cell} {cs : List Int} (h : BarP W H cs l) : l.Nodup := by
  rw [List.nodup_iff_pairwise_ne, List.pairwise_iff_getElem]
  intro i j hi hj hij e
  refine h.nd j i hj hij ?_
  rw [List.getD_eq_getElem?_getD, List.getD_eq_getElem?_getD, List.getElem?_eq_getElem hi, List.getElem?_eq_getElem hj]
  exact e.symm
theorem cellsF_eq (W : Int) (cs : List Int) (l : List Cell) : cellsF W cs l = ((List.range cs.length).filter fun i => decide (cs.getD i 0 > 0) && decide (cellI W (i : Int) ∈ l)).map fun i : Nat => cellI W (i : Int) := by
  unfold cellsF boomsL
  rw [List.filter_map, List.filter_filter]
  congr 1
  refine List.filter_congr fun i _ => ?_
  simp only [Function.comp]
  rw [Bool.and_comm]
theorem either_cells (hok : CO W H cs) {bs l : List Cell} (h : BarP W H (chgL cs (deadG W cs bs)) l) : cellsF W cs l = cellsF W (chgL cs (deadG W cs bs)) l := by
  rw [cellsF_eq, cellsF_eq, chgL_len]
  congr 1
  refine List.filter_congr fun i hi => ?_
  have hil := List.mem_range.1 hi
  obtain ⟨a1, a2⟩ := idx_cellI hok (i := (i : Int)) (by omega) (by omega)
  by_cases hm : cellI W (i : Int) ∈ l
  · have h1 := (bar_mem h hm).2
    have h2 := dead_at hok bs a1
    rw [h2] at h1
    rw [a2, Int.toNat_natCast] at h1 h2
    rw [dd_t hm, Bool.and_true, Bool.and_true, h2]
    by_cases hc : (decide (cs.getD i 0 ≤ 0) || kpB W bs (i : Int) bs.length) = true
    · rw [if_pos hc]
    · rw [if_neg hc] at h1; exact absurd rfl h1
  · rw [dd_f hm, Bool.and_false, Bool.and_false]
/-- More booms leave less water. -/
theorem ra_mono {w w' : Cell → Bool} (h : ∀ p, onB W H p.1 p.2 = true → w p = true → w' p = true) {p : Cell} (hr : RA W H w p) : RA W H w' p := by
  induction hr with
  | ini ho hw hx => exact .ini ho (h _ ho hw) hx
  | step ho hw ha hq ih => exact .step ho (h _ ho hw) ha ih
theorem chan_mono (hok : CO W H cs) {wet wet' : Int → Bool} (h : ∀ p : Cell, onB W H p.1 p.2 = true → wet (idxU W p) = true → wet' (idxU W p) = true) (hn : chanO W H cs.length wet' = none) : chanO W H cs.length wet = none := by
  cases hc : chanO W H cs.length wet with
  | none => rfl
  | some l =>
    obtain ⟨p, h1, h2⟩ := (chan_some hok).1 ⟨l, hc⟩
    obtain ⟨l', hl'⟩ := (chan_some hok).2 ⟨p, ra_mono (w' := wetC W wet') (fun q hq hw => h q hq hw) h1, h2⟩
    rw [hn] at hl'; cases hl'
theorem cellsF_on (hok : CO W H cs) {l : List Cell} : ∀ p ∈ cellsF W cs l, onB W H p.1 p.2 = true := fun p hp => ((booms_mem hok).1 (List.mem_filter.1 hp).1).1
theorem cellsF_mem (hok : CO W H cs) {l : List Cell} {p : Cell} : p ∈ cellsF W cs l ↔ (onB W H p.1 p.2 = true ∧ cs.getD (idxU W p).toNat 0 > 0) ∧ p ∈ l := by
  unfold cellsF
  rw [List.mem_filter, booms_mem hok, decide_eq_true_eq]
theorem wet_mono (hok : CO W H cs) {fs bs : List Cell} (hA : okB W H cs fs = true) (hB : okB W H cs bs = true) (hsub : ∀ p ∈ fs, p ∈ bs) {p : Cell} (hp : onB W H p.1 p.2 = true) (h : wetB cs (boomF W H bs) (idxU W p) = true) : wetB cs (boomF W H fs) (idxU W p) = true := by
  have hW : 0 < W := by have := hok.w; omega
  unfold wetB at h ⊢
  rw [bm_mem hok (fun q hq => (okB_mem hW hB hq).1) hp] at h
  rw [bm_mem hok (fun q hq => (okB_mem hW hA hq).1) hp]
  rw [Bool.and_eq_true] at h ⊢
  refine ⟨h.1, ?_⟩
  have h2 := h.2
  simp only [Bool.not_eq_true', decide_eq_false_iff_not] at h2 ⊢
  exact fun hm => h2 (hsub p hm)
theorem blocks_mono (hok : CO W H cs) {fs bs : List Cell} (hA : okB W H cs fs = true) (hB : okB W H cs bs = true) (hsub : ∀ p ∈ fs, p ∈ bs) (hn : chanO W H cs.length (wetB cs (boomF W H fs)) = none) : chanO W H cs.length (wetB cs (boomF W H bs)) = none :=
  chan_mono hok (fun p hp h => wet_mono hok hA hB hsub hp h) hn
/-- Sums over lists of cells. -/
theorem sum_erase {f : Cell → Int} : ∀ {l : List Cell} {p : Cell}, p ∈ l → (l.map f).sum = f p + ((l.erase p).map f).sum
  | x :: r, p, h => by
    by_cases hx : x = p
    · subst hx
      rw [List.erase_cons_head, List.map_cons, List.sum_cons]
    · have hp : p ∈ r := by
        rcases List.mem_cons.1 h with h | h
        · exact absurd h.symm hx
        · exact h
      rw [List.erase_cons_tail (by simpa using hx), List.map_cons, List.sum_cons, List.map_cons, List.sum_cons, sum_erase hp]
      omega
theorem sum_le {f : Cell → Int} : ∀ {l m : List Cell}, l.Nodup → (∀ p ∈ m, 0 ≤ f p) → (∀ p ∈ l, p ∉ m → f p = 0) → (l.map f).sum ≤ (m.map f).sum
  | [], m, _, hm, _ => by
    have : ∀ m : List Cell, (∀ p ∈ m, 0 ≤ f p) → 0 ≤ (m.map f).sum := by
      intro m
      induction m with
      | nil => intro _; simp
      | cons x r ih =>
        intro h
        have := ih fun p hp => h p (by simp [hp])
        have := h x (by simp)
        rw [List.map_cons, List.sum_cons]; omega
    simpa using this m hm
  | p :: l, m, hd, hm, h0 => by
    obtain ⟨h1, h2⟩ := List.nodup_cons.1 hd
    rw [List.map_cons, List.sum_cons]
    by_cases hp : p ∈ m
    · rw [sum_erase hp]
      have := sum_le (l := l) (m := m.erase p) h2 (fun q hq => hm q (List.mem_of_mem_erase hq)) (fun q hq hn => h0 q (by simp [hq]) (fun hqm => hn ((List.mem_erase_of_ne (fun e => by subst e; exact h1 hq)).2 hqm)))
      omega
    · have := sum_le (l := l) (m := m) h2 hm (fun q hq hn => h0 q (by simp [hq]) hn)
      rw [h0 p (by simp) hp]; omega
theorem tot_cst {bs : List Cell} (h : ∀ p ∈ bs, cs.getD (idxU W p).toNat 0 > 0) : totC W cs bs = (bs.map fun p => cstI cs (idxU W p)).sum := by
  unfold totC
  congr 1
  refine List.map_congr_left fun p hp => ?_
  unfold cstI
  rw [if_pos (h p hp)]
/-- Booms that block cost no less than the cheapest barrier. -/
theorem blocks_cost (hok : CO W H cs) {bs : List Cell} (hB : okB W H cs bs = true) (hn : chanO W H cs.length (wetB cs (boomF W H bs)) = none) : ∃ l w, barO W H cs = some (l, w) ∧ w.1 ≤ totC W cs bs := by
  have hW : 0 < W := by have := hok.w; omega
  obtain ⟨⟨l, w⟩, h⟩ := (either hok hB).1 hn
  obtain ⟨hb, _, _, _⟩ := bar_is (hok.dead bs) h
  have hbc := dead_bar hok hb
  obtain ⟨l', w', h1, h2⟩ := bar_least hok hbc
  refine ⟨l', w', h1, Int.le_trans h2 ?_⟩
  rw [sumC_eq, tot_cst fun p hp => (okB_mem hW hB hp).2]
  refine sum_le (bar_nodup hbc) (fun p hp => cst_pos' cs _) fun p hp hnm => ?_
  obtain ⟨h3, h4⟩ := bar_mem hb hp
  rw [dead_at hok bs h3, kp_mem hok (fun q hq => (okB_mem hW hB hq).1) h3, dd_f hnm, Bool.or_false] at h4
  unfold cstI
  by_cases hc : cs.getD (idxU W p).toNat 0 > 0
  · rw [dd_f (show ¬ cs.getD (idxU W p).toNat 0 ≤ 0 by omega), if_neg (by simp)] at h4
    exact absurd rfl h4
  · rw [if_neg hc]
/-- The booms of the barrier block, and cost the least. -/
theorem own_blocks (hok : CO W H cs) {l : List Int} {w : Way} (h : barO W H cs = some (l, w)) : chanO W H cs.length (wetB cs (boomF W H (cellsF W cs (cellsL W l)))) = none ∧ totC W cs (cellsF W cs (cellsL W l)) = w.1 := by
  have hW : 0 < W := by have := hok.w; omega
  obtain ⟨hb, hs, _, _⟩ := bar_is hok h
  have hB := cellsF_ok hok (cellsL W l)
  obtain ⟨bl, hbl⟩ : ∃ b, b = cellsL W l := ⟨_, rfl⟩
  rw [← hbl] at hb hs hB ⊢
  have hon := fun q (hq : q ∈ cellsF W cs bl) => (okB_mem hW hB hq).1
  constructor
  · rw [either hok hB]
    have : BarP W H (chgL cs (deadG W cs (cellsF W cs bl))) bl := by
      refine ⟨hb.on, hb.nd, hb.len, hb.adj, fun j hj e => ?_, hb.top, hb.bot⟩
      have hm : bl.getD j cz ∈ bl := by rw [List.getD_eq_getElem?_getD, List.getElem?_eq_getElem hj]; exact List.getElem_mem hj
      have h1 := hb.on j hj
      have h2 := hb.hold j hj
      rw [dead_at hok _ h1] at e
      by_cases hc : cs.getD (idxU W (bl.getD j cz)).toNat 0 ≤ 0
      · rw [dd_t hc, Bool.true_or, if_pos rfl] at e; exact h2 e
      · have h3 : bl.getD j cz ∈ cellsF W cs bl := (cellsF_mem hok).2 ⟨⟨h1, by omega⟩, hm⟩
        rw [kp_mem hok hon h1, dd_t h3, Bool.or_true, if_pos rfl] at e; exact h2 e
    obtain ⟨l', w', h1, _⟩ := bar_least (hok.dead _) this
    exact ⟨_, h1⟩
  · rw [tot_cst fun p hp => (okB_mem hW hB hp).2, ← hs, sumC_eq]
    have hn : (cellsF W cs bl).Nodup := by
      unfold cellsF
      refine List.Pairwise.filter _ (List.Pairwise.imp (fun {a b} hlt e => ?_) (booms_sorted (cs := cs) hW))
      subst e; unfold ltC at hlt; omega
    have e1 := sum_le (f := fun p => cstI cs (idxU W p)) hn (fun p _ => cst_pos' cs _) (m := bl) (fun p hp hnm => absurd ((cellsF_mem hok).1 hp).2 hnm)
    have e2 := sum_le (f := fun p => cstI cs (idxU W p)) (bar_nodup hb) (fun p _ => cst_pos' cs _) (m := cellsF W cs bl) (fun p hp hnm => by
      have h1 := bar_mem hb hp
      unfold cstI
      by_cases hc : cs.getD (idxU W p).toNat 0 > 0
      · exact absurd ((cellsF_mem hok).2 ⟨⟨h1.1, hc⟩, hp⟩) hnm
      · rw [if_neg hc])
    omega
end
end Go.Proofs.Ytbhpnhcdjmcaoaa

/- Boom: the booms of a chart, those of a list. -/
namespace Go.Proofs.Ytbhpnhcdjmcaoaa
open Go.RowKit
set_option linter.unusedVariables false
set_option linter.unusedSimpArgs false
def boomsK (W : Int) (cs : List Int) (k : Nat) : List Cell := ((List.range k).filter fun i => decide (cs.getD i 0 > 0)).map fun i : Nat => cellI W (i : Int)
theorem boomsK_t {W : Int} {cs : List Int} {k : Nat} (h : cs.getD k 0 > 0) : boomsK W cs (k + 1) = boomsK W cs k ++ [cellI W k] := by
  unfold boomsK
  rw [List.range_succ, List.filter_append, List.map_append, List.filter_cons_of_pos (by rw [decide_eq_true_eq]; exact h)]; rfl
theorem boomsK_f {W : Int} {cs : List Int} {k : Nat} (h : ¬ cs.getD k 0 > 0) : boomsK W cs (k + 1) = boomsK W cs k := by
  unfold boomsK
  rw [List.range_succ, List.filter_append, List.map_append, List.filter_cons_of_neg (by rw [decide_eq_true_eq]; exact h)]
  simp
theorem boomsK_len (W : Int) (cs : List Int) (k : Nat) : (boomsK W cs k).length ≤ k := by
  unfold boomsK
  rw [List.length_map]
  exact Nat.le_trans (List.length_filter_le _ _) (by simp)
set_option maxRecDepth 10000 in
set_option maxHeartbeats 4000000 in
theorem booms_spec (W H : Int) (cs : List Int) (hW : 0 < W) (hl : cs.length ≤ 300) :
    Spec Try.prog 55 [chR W H cs.length] [⟨0, .ro 0, cs.map C.i⟩] 1 (fun v L' _ => cellsX (boomsL W cs) v L') := by
  have hlm : (cs.map C.i).length = cs.length := by simp
  refine Spec.of tok Try.func55 rfl rfl rfl fun n0 cx => vc_ok tok ?_
  repeat ((conv => whnf); first | (refine And.intro (by first | omega | exact Nat.le_of_ble_eq_true rfl | (dsimp only [inK]; omega) | (simp only [mulS_eq]; omega) | (simp only [mulS_eq, setL_length]; omega) | (simp only [setL_length]; omega) | (simp only [setL_length, List.length_map]; omega) | (exact ⟨by omega, by omega, by first | exact Nat.le_of_ble_eq_true rfl | (dsimp only; omega) | (simp only [setL_length]; omega) | (simp only [setL_length, List.length_map]; omega)⟩) | (exact ⟨by omega, by first | rfl | omega, by omega, Nat.le_of_ble_eq_true rfl, Nat.le_of_ble_eq_true rfl⟩) | (exact ⟨rfl, rfl, rfl, Nat.le_of_ble_eq_true rfl, by first | rfl | omega | exact Nat.le_of_ble_eq_true rfl | (dsimp only; omega) | (simp; done) | (simp; omega), by first | rfl | omega | exact Nat.le_of_ble_eq_true rfl | (dsimp only; omega) | (simp; done) | (simp; omega), by omega, Nat.le_of_ble_eq_true rfl⟩) | exact Eq.refl true) ?_) | refine Exists.intro _ (And.intro rfl ?_) | refine And.intro (And.intro rfl (chk_rowI _ _ _ _)) ?_ | refine br_t (by omega) ?_ | refine br_f (by omega) ?_ | refine bs_t (by omega) ?_ | refine bs_f (by omega) ?_ | refine fun (K' : K3) hK' => ?_ | (refine hK' _ _ _ ?_; clear hK' K') | refine draw_auto tok mixed (by kernel_rfl) ?_ | refine bs_bt (Eq.refl true) ?_ | refine bs_bf (Eq.refl false) ?_ | refine br_bt (Eq.refl true) ?_ | refine br_bf (Eq.refl false) ?_ | refine CallK.m ?_ | refine Two.l ?_ | refine And.intro (And.intro rfl rfl) ?_)
  refine Tri.loop (γ := Nat) (fun k => k ≤ cs.length) (fun k => [(1, V.c (.ptr 1 0)), (3, V.c (.sl 2 (boomsK W cs k).length)), (7, V.c (.sl 0 cs.length)), (8, V.i cs.length), (9, V.i (k : Nat))]) (fun k => [⟨2, .vec 57 2, cellC (boomsK W cs k)⟩, ⟨1, .own 24, [C.i W, C.i H, .sl 0 cs.length]⟩, ⟨0, .ro 0, cs.map C.i⟩]) 3 (fun k => cs.length - k) 0 (R0 := [(2, none)]) ?_ ?_ ?_
  · omega
  · skip
    refine ⟨?_, ?_, rfl, rfl, by first | exact Nat.le_of_ble_eq_true rfl | exact Nat.le_refl _ | omega⟩
    · repeat (first | exact trivial | (refine And.intro (covS_syn (by rfl) rfl (by first | exact trivial | exact Nat.le_of_ble_eq_true rfl | exact hy | exact (fun p hp => nomatch hp) | (show (_ : Nat) < _; omega))) ?_) | refine And.intro (covS_bool rfl rfl (by rfl)) ?_)
    · repeat (first | exact trivial | refine And.intro (covE_nil rfl (Nat.le_of_ble_eq_true rfl) rfl rfl) ?_ | (refine And.intro (covE_some rfl (Nat.le_of_ble_eq_true rfl) (by first | exact wf_ints _ _ | exact wf_bools _ _ | first | exact wf_cells _ _ | simp [C.wf]) rfl (by first | exact ren_ints _ _ | exact ren_bools _ _ | exact ren_shares _ _ | rfl)) ?_))
  · intro k hk
    refine vc_ok tok ?_
    by_cases hlt : k < cs.length
    · have hat := at_spec W H cs.length (k : Int) hW (by omega)
      have hb := boomsK_len W cs k
      have hcl := cellC_len (boomsK W cs k)
      by_cases hc : cs.getD k 0 > 0
      · repeat ((conv => whnf); first | (refine And.intro (by first | omega | exact Nat.le_of_ble_eq_true rfl | (dsimp only [inK]; omega) | (simp only [mulS_eq]; omega) | (simp only [mulS_eq, setL_length]; omega) | (simp only [setL_length]; omega) | (simp only [setL_length, List.length_map]; omega) | (exact ⟨by omega, by omega, by first | exact Nat.le_of_ble_eq_true rfl | (dsimp only; omega) | (simp only [setL_length]; omega) | (simp only [setL_length, List.length_map]; omega)⟩) | (exact ⟨by omega, by first | rfl | omega, by omega, Nat.le_of_ble_eq_true rfl, Nat.le_of_ble_eq_true rfl⟩) | (exact ⟨rfl, rfl, rfl, Nat.le_of_ble_eq_true rfl, by first | rfl | omega | exact Nat.le_of_ble_eq_true rfl | (dsimp only; omega) | (simp; done) | (simp; omega), by first | rfl | omega | exact Nat.le_of_ble_eq_true rfl | (dsimp only; omega) | (simp; done) | (simp; omega), by omega, Nat.le_of_ble_eq_true rfl⟩) | exact Eq.refl true) ?_) | with_reducible refine ld (intL hlt) ?_ | refine Exists.intro _ (And.intro rfl ?_) | refine And.intro (And.intro rfl (chk_rowI _ _ _ _)) ?_ | refine br_t (by omega) ?_ | refine br_f (by omega) ?_ | refine bs_t (by omega) ?_ | refine bs_f (by omega) ?_ | refine fun (K' : K3) hK' => ?_ | (refine hK' _ _ _ ?_; clear hK' K') | refine draw_auto tok mixed (by kernel_rfl) ?_ | refine br_t hc ?_ | refine CallK.val (R := []) hat (by kernel_rfl) rfl (by simp [V.wf, A.wf, C.wf]) trivial rfl rfl (by simp [V.wf, A.wf, C.wf]) ?_ | refine bs_bt (Eq.refl true) ?_ | refine bs_bf (Eq.refl false) ?_ | refine br_bt (Eq.refl true) ?_ | refine br_bf (Eq.refl false) ?_ | refine CallK.m ?_ | refine Two.l ?_ | refine And.intro (And.intro rfl rfl) ?_)
        refine ⟨k + 1, [(2, some 4)], by omega, by omega, ?_⟩
        have hnew : cellC (boomsK W cs (k + 1)) = cellC (boomsK W cs k) ++ [C.i ((k : Int) % W), C.i ((k : Int) / W)] := by
          rw [boomsK_t hc, cellC_app]; rfl
        have hnl : (boomsK W cs (k + 1)).length = (boomsK W cs k).length + 1 := by rw [boomsK_t hc, List.length_append]; rfl
        rw [hnl]
        refine ⟨?_, ?_, rfl, rfl, by first | exact Nat.le_of_ble_eq_true rfl | exact Nat.le_refl _ | omega⟩
        · repeat (first | exact trivial | (refine And.intro (covS_syn (by first | rfl | (refine congrArg some (congrArg V.i ?_); omega)) rfl (by first | exact trivial | exact Nat.le_of_ble_eq_true rfl | exact hy | exact (fun p hp => nomatch hp) | (show (_ : Nat) < _; omega))) ?_) | refine And.intro (covS_bool rfl rfl (by rfl)) ?_)
        · repeat (first | exact trivial | (refine And.intro (covE_some rfl (Nat.le_of_ble_eq_true rfl) (wf_cells _ _) rfl ((ren_cells _ _).trans (congrArg some (by rw [hnew]; rfl)))) ?_) | refine And.intro (covE_nil rfl (Nat.le_of_ble_eq_true rfl) rfl rfl) ?_ | (refine And.intro (covE_some rfl (Nat.le_of_ble_eq_true rfl) (by first | exact wf_ints _ _ | exact wf_bools _ _ | first | exact wf_cells _ _ | simp [C.wf]) rfl (by first | exact ren_ints _ _ | exact ren_bools _ _ | exact ren_shares _ _ | rfl)) ?_))
      · repeat ((conv => whnf); first | (refine And.intro (by first | omega | exact Nat.le_of_ble_eq_true rfl | (dsimp only [inK]; omega) | (simp only [mulS_eq]; omega) | (simp only [mulS_eq, setL_length]; omega) | (simp only [setL_length]; omega) | (simp only [setL_length, List.length_map]; omega) | (exact ⟨by omega, by omega, by first | exact Nat.le_of_ble_eq_true rfl | (dsimp only; omega) | (simp only [setL_length]; omega) | (simp only [setL_length, List.length_map]; omega)⟩) | (exact ⟨by omega, by first | rfl | omega, by omega, Nat.le_of_ble_eq_true rfl, Nat.le_of_ble_eq_true rfl⟩) | (exact ⟨rfl, rfl, rfl, Nat.le_of_ble_eq_true rfl, by first | rfl | omega | exact Nat.le_of_ble_eq_true rfl | (dsimp only; omega) | (simp; done) | (simp; omega), by first | rfl | omega | exact Nat.le_of_ble_eq_true rfl | (dsimp only; omega) | (simp; done) | (simp; omega), by omega, Nat.le_of_ble_eq_true rfl⟩) | exact Eq.refl true) ?_) | with_reducible refine ld (intL hlt) ?_ | refine Exists.intro _ (And.intro rfl ?_) | refine And.intro (And.intro rfl (chk_rowI _ _ _ _)) ?_ | refine br_t (by omega) ?_ | refine br_f (by omega) ?_ | refine bs_t (by omega) ?_ | refine bs_f (by omega) ?_ | refine fun (K' : K3) hK' => ?_ | (refine hK' _ _ _ ?_; clear hK' K') | refine draw_auto tok mixed (by kernel_rfl) ?_ | refine br_f hc ?_ | refine bs_bt (Eq.refl true) ?_ | refine bs_bf (Eq.refl false) ?_ | refine br_bt (Eq.refl true) ?_ | refine br_bf (Eq.refl false) ?_ | refine CallK.m ?_ | refine Two.l ?_ | refine And.intro (And.intro rfl rfl) ?_)
        refine ⟨k + 1, [], by omega, by omega, ?_⟩
        rw [boomsK_f hc]
        refine ⟨?_, ?_, rfl, rfl, by first | exact Nat.le_of_ble_eq_true rfl | exact Nat.le_refl _ | omega⟩
        · repeat (first | exact trivial | (refine And.intro (covS_syn (by first | rfl | (refine congrArg some (congrArg V.i ?_); omega)) rfl (by first | exact trivial | exact Nat.le_of_ble_eq_true rfl | exact hy | exact (fun p hp => nomatch hp) | (show (_ : Nat) < _; omega))) ?_) | refine And.intro (covS_bool rfl rfl (by rfl)) ?_)
        · repeat (first | exact trivial | (refine And.intro (covE_id (Nat.le_of_ble_eq_true rfl) (by first | exact wf_ints _ _ | exact wf_bools _ _ | first | exact wf_cells _ _ | simp [C.wf]) rfl (by rfl)) ?_))
    · have hkl : k = cs.length := by omega
      subst hkl
      repeat ((conv => whnf); first | (refine And.intro (by first | omega | exact Nat.le_of_ble_eq_true rfl | (dsimp only [inK]; omega) | (simp only [mulS_eq]; omega) | (simp only [mulS_eq, setL_length]; omega) | (simp only [setL_length]; omega) | (simp only [setL_length, List.length_map]; omega) | (exact ⟨by omega, by omega, by first | exact Nat.le_of_ble_eq_true rfl | (dsimp only; omega) | (simp only [setL_length]; omega) | (simp only [setL_length, List.length_map]; omega)⟩) | (exact ⟨by omega, by first | rfl | omega, by omega, Nat.le_of_ble_eq_true rfl, Nat.le_of_ble_eq_true rfl⟩) | (exact ⟨rfl, rfl, rfl, Nat.le_of_ble_eq_true rfl, by first | rfl | omega | exact Nat.le_of_ble_eq_true rfl | (dsimp only; omega) | (simp; done) | (simp; omega), by first | rfl | omega | exact Nat.le_of_ble_eq_true rfl | (dsimp only; omega) | (simp; done) | (simp; omega), by omega, Nat.le_of_ble_eq_true rfl⟩) | exact Eq.refl true) ?_) | refine Exists.intro _ (And.intro rfl ?_) | refine And.intro (And.intro rfl (chk_rowI _ _ _ _)) ?_ | refine br_t (by omega) ?_ | refine br_f (by omega) ?_ | refine bs_t (by omega) ?_ | refine bs_f (by omega) ?_ | refine fun (K' : K3) hK' => ?_ | (refine hK' _ _ _ ?_; clear hK' K') | refine draw_auto tok mixed (by kernel_rfl) ?_ | refine bs_bt (Eq.refl true) ?_ | refine bs_bf (Eq.refl false) ?_ | refine br_bt (Eq.refl true) ?_ | refine br_bf (Eq.refl false) ?_ | refine CallK.m ?_ | refine Two.l ?_ | refine And.intro (And.intro rfl rfl) ?_)
      exact .inr ⟨2, rfl, rfl⟩
end Go.Proofs.Ytbhpnhcdjmcaoaa

/- Boom: the booms of a list. -/
namespace Go.Proofs.Ytbhpnhcdjmcaoaa
open Go.RowKit
set_option linter.unusedVariables false
set_option linter.unusedSimpArgs false
def memK (l : List Cell) (p : Cell) (j : Nat) : Bool := (l.take j).any fun q => decide (p = q)
theorem memK_succ {l : List Cell} {p : Cell} {j : Nat} (h : j < l.length) : memK l p (j + 1) = (memK l p j || decide (p = l.getD j cz)) := by
  unfold memK
  rw [List.take_add_one, show l[j]?.toList = [l.getD j cz] by rw [List.getElem?_eq_getElem h, List.getD_eq_getElem?_getD, List.getElem?_eq_getElem h]; rfl]
  simp
theorem memK_end (l : List Cell) (p : Cell) : memK l p l.length = decide (p ∈ l) := by
  unfold memK
  rw [List.take_length, Bool.eq_iff_iff, List.any_eq_true, decide_eq_true_eq]
  exact ⟨fun ⟨q, h1, h2⟩ => by rw [of_decide_eq_true h2]; exact h1, fun h => ⟨p, h, by simp⟩⟩
def fltK (b l : List Cell) (k : Nat) : List Cell := (b.take k).filter fun p => decide (p ∈ l)
theorem fltK_succ {b l : List Cell} {k : Nat} (h : k < b.length) : fltK b l (k + 1) = fltK b l k ++ (if decide (b.getD k cz ∈ l) then [b.getD k cz] else []) := by
  unfold fltK
  rw [List.take_add_one, show b[k]?.toList = [b.getD k cz] by rw [List.getElem?_eq_getElem h, List.getD_eq_getElem?_getD, List.getElem?_eq_getElem h]; rfl, List.filter_append]
  congr 1
  cases hd : decide (b.getD k cz ∈ l) <;> simp only [List.filter_cons, hd, List.filter_nil] <;> rfl
theorem fltK_len (b l : List Cell) (k : Nat) : (fltK b l k).length ≤ k := by
  unfold fltK
  exact Nat.le_trans (List.length_filter_le _ _) (by simp; omega)
theorem boomsL_len (W : Int) (cs : List Int) : (boomsL W cs).length ≤ cs.length := boomsK_len W cs cs.length
set_option maxRecDepth 10000 in
set_option maxHeartbeats 8000000 in
theorem lawCells_spec (W H : Int) (cs : List Int) (l : List Cell) (hW : 0 < W) (hl : cs.length ≤ 300) (hll : l.length ≤ 600) :
    Spec Try.prog 36 [chR W H cs.length, V.c (.sl 1 l.length)] [⟨0, .ro 0, cs.map C.i⟩, ⟨1, .ro 2, cellC l⟩] 2 (fun v L' _ => cellsX (cellsF W cs l) v L') := by
  have hbs := booms_spec W H cs hW hl
  have hbl := boomsL_len W cs
  have hcll := cellC_len l
  have hend : cellsF W cs l = fltK (boomsL W cs) l (boomsL W cs).length := by unfold cellsF fltK; rw [List.take_length]
  obtain ⟨b, hb⟩ : ∃ b, b = boomsL W cs := ⟨_, rfl⟩
  rw [hend]
  rw [← hb] at hbs hbl ⊢
  have hcb := cellC_len b
  refine Spec.of tok Try.func36 rfl rfl rfl fun n0 cx => vc_ok tok ?_
  repeat ((conv => whnf); first | (refine And.intro (by first | omega | exact Nat.le_of_ble_eq_true rfl | (dsimp only [inK]; omega) | (simp only [mulS_eq]; omega) | (simp only [mulS_eq, setL_length]; omega) | (simp only [setL_length]; omega) | (simp only [setL_length, List.length_map]; omega) | (exact ⟨by omega, by omega, by first | exact Nat.le_of_ble_eq_true rfl | (dsimp only; omega) | (simp only [setL_length]; omega) | (simp only [setL_length, List.length_map]; omega)⟩) | (exact ⟨by omega, by first | rfl | omega, by omega, Nat.le_of_ble_eq_true rfl, Nat.le_of_ble_eq_true rfl⟩) | (exact ⟨rfl, rfl, rfl, Nat.le_of_ble_eq_true rfl, by first | rfl | omega | exact Nat.le_of_ble_eq_true rfl | (dsimp only; omega) | (simp; done) | (simp; omega), by first | rfl | omega | exact Nat.le_of_ble_eq_true rfl | (dsimp only; omega) | (simp; done) | (simp; omega), by omega, Nat.le_of_ble_eq_true rfl⟩) | exact Eq.refl true) ?_) | refine Exists.intro _ (And.intro rfl ?_) | refine And.intro (And.intro rfl (chk_rowI _ _ _ _)) ?_ | refine br_t (by omega) ?_ | refine br_f (by omega) ?_ | refine bs_t (by omega) ?_ | refine bs_f (by omega) ?_ | refine fun (K' : K3) hK' => ?_ | (refine hK' _ _ _ ?_; clear hK' K') | refine draw_auto tok mixed (by kernel_rfl) ?_ | refine CallK.cellsR (R := []) hbs (by kernel_rfl) rfl (by simp [V.wf, A.wf, C.wf]) ⟨roE_ints (l := 0) rfl (by omega) rfl (.inl rfl), trivial⟩ rfl ?_ | refine bs_bt (Eq.refl true) ?_ | refine bs_bf (Eq.refl false) ?_ | refine br_bt (Eq.refl true) ?_ | refine br_bf (Eq.refl false) ?_ | refine CallK.m ?_ | refine Two.l ?_ | refine And.intro (And.intro rfl rfl) ?_)
  refine Tri.loop (γ := Nat) (fun k => k ≤ b.length) (fun k => [(1, V.c (.sl 1 l.length)), (5, V.c (.sl 4 (fltK b l k).length)), (12, V.c (.sl 3 b.length)), (13, V.i b.length), (14, V.i (k : Nat))]) (fun k => [⟨4, .vec 57 2, cellC (fltK b l k)⟩, ⟨3, .vec 57 2, cellC b⟩, ⟨0, .ro 0, cs.map C.i⟩, ⟨1, .ro 2, cellC l⟩]) 5 (fun k => b.length - k) 0 (R0 := [(4, none)]) ?_ ?_ ?_
  · omega
  · skip
    refine ⟨?_, ?_, rfl, rfl, by first | exact Nat.le_of_ble_eq_true rfl | exact Nat.le_refl _ | omega⟩
    · repeat (first | exact trivial | (refine And.intro (covS_syn (by first | rfl | (refine congrArg some (congrArg V.i ?_); omega)) rfl (by first | exact trivial | exact Nat.le_of_ble_eq_true rfl | exact hy | exact (fun p hp => nomatch hp) | (show (_ : Nat) < _; omega))) ?_) | refine And.intro (covS_bool rfl rfl (by rfl)) ?_)
    · repeat (first | exact trivial | refine And.intro (covE_some rfl (Nat.le_of_ble_eq_true rfl) (wf_cells _ _) rfl (ren_cells _ _)) ?_ | refine And.intro (covE_nil rfl (Nat.le_of_ble_eq_true rfl) rfl rfl) ?_ | (refine And.intro (covE_some rfl (Nat.le_of_ble_eq_true rfl) (by first | exact wf_ints _ _ | exact wf_bools _ _ | first | exact wf_cells _ _ | simp [C.wf]) rfl (by first | exact ren_ints _ _ | exact ren_bools _ _ | exact ren_shares _ _ | rfl)) ?_))
  · intro k hk
    refine vc_ok tok ?_
    by_cases hlt : k < b.length
    · have hld := cellT (l := b) (k := k) rfl hlt
      have hsu := fltK_succ (l := l) hlt
      have hfl := fltK_len b l k
      have hcl := cellC_len (fltK b l k)
      obtain ⟨p, hp⟩ : ∃ p, p = b.getD k cz := ⟨_, rfl⟩
      rw [← hp] at hld hsu
      repeat ((conv => whnf); first | (refine And.intro (by first | omega | exact Nat.le_of_ble_eq_true rfl | (dsimp only [inK]; omega) | (simp only [mulS_eq]; omega) | (simp only [mulS_eq, setL_length]; omega) | (simp only [setL_length]; omega) | (simp only [setL_length, List.length_map]; omega) | (exact ⟨by omega, by omega, by first | exact Nat.le_of_ble_eq_true rfl | (dsimp only; omega) | (simp only [setL_length]; omega) | (simp only [setL_length, List.length_map]; omega)⟩) | (exact ⟨by omega, by first | rfl | omega, by omega, Nat.le_of_ble_eq_true rfl, Nat.le_of_ble_eq_true rfl⟩) | (exact ⟨rfl, rfl, rfl, Nat.le_of_ble_eq_true rfl, by first | rfl | omega | exact Nat.le_of_ble_eq_true rfl | (dsimp only; omega) | (simp; done) | (simp; omega), by first | rfl | omega | exact Nat.le_of_ble_eq_true rfl | (dsimp only; omega) | (simp; done) | (simp; omega), by omega, Nat.le_of_ble_eq_true rfl⟩) | exact Eq.refl true) ?_) | with_reducible refine ld (hld) ?_ | refine Exists.intro _ (And.intro rfl ?_) | refine And.intro (And.intro rfl (chk_rowI _ _ _ _)) ?_ | refine br_t (by omega) ?_ | refine br_f (by omega) ?_ | refine bs_t (by omega) ?_ | refine bs_f (by omega) ?_ | refine fun (K' : K3) hK' => ?_ | (refine hK' _ _ _ ?_; clear hK' K') | refine draw_auto tok mixed (by kernel_rfl) ?_ | refine bs_bt (Eq.refl true) ?_ | refine bs_bf (Eq.refl false) ?_ | refine br_bt (Eq.refl true) ?_ | refine br_bf (Eq.refl false) ?_ | refine CallK.m ?_ | refine Two.l ?_ | refine And.intro (And.intro rfl rfl) ?_)
      refine Tri.loop (γ := Nat) (fun j => j ≤ l.length) (fun j => [(1, V.c (.sl 1 l.length)), (5, V.c (.sl 4 (fltK b l k).length)), (7, V.c (.ptr 5 0)), (8, V.c (.bool (memK l p j))), (12, V.c (.sl 3 b.length)), (13, V.i b.length), (14, V.i (k : Nat)), (18, V.c (.sl 1 l.length)), (19, V.i l.length), (20, V.i (j : Nat))])
        (fun j => [⟨5, .own 57, [C.i p.1, C.i p.2]⟩, ⟨4, .vec 57 2, cellC (fltK b l k)⟩, ⟨3, .vec 57 2, cellC b⟩, ⟨0, .ro 0, cs.map C.i⟩, ⟨1, .ro 2, cellC l⟩]) 6 (fun j => l.length - j) 0 (R0 := []) ?_ ?_ ?_
      · omega
      · skip
        refine ⟨?_, ?_, rfl, rfl, by first | exact Nat.le_of_ble_eq_true rfl | exact Nat.le_refl _ | omega⟩
        · repeat (first | exact trivial | (refine And.intro (covS_syn (by first | rfl | (refine congrArg some (congrArg V.i ?_); omega)) rfl (by first | exact trivial | exact Nat.le_of_ble_eq_true rfl | exact hy | exact (fun p hp => nomatch hp) | (show (_ : Nat) < _; omega))) ?_) | (refine And.intro (covS_bool rfl rfl (by first | rfl | rfl)) ?_))
        · repeat (first | exact trivial | (refine And.intro (covE_id (Nat.le_of_ble_eq_true rfl) (by first | exact wf_ints _ _ | exact wf_bools _ _ | first | exact wf_cells _ _ | simp [C.wf]) rfl (by rfl)) ?_))
      · intro j hj
        refine vc_ok tok ?_
        by_cases hjl : j < l.length
        · have hld2 := cellT (l := l) (k := j) rfl hjl
          have hms := memK_succ (p := p) hjl
          obtain ⟨q, hq⟩ : ∃ q, q = l.getD j cz := ⟨_, rfl⟩
          rw [← hq] at hld2 hms
          cases hm : memK l p j with
          | true =>
            have hm1 : memK l p (j + 1) = true := by rw [hms, hm]; rfl
            repeat ((conv => whnf); first | (refine And.intro (by first | omega | exact Nat.le_of_ble_eq_true rfl | (dsimp only [inK]; omega) | (simp only [mulS_eq]; omega) | (simp only [mulS_eq, setL_length]; omega) | (simp only [setL_length]; omega) | (simp only [setL_length, List.length_map]; omega) | (exact ⟨by omega, by omega, by first | exact Nat.le_of_ble_eq_true rfl | (dsimp only; omega) | (simp only [setL_length]; omega) | (simp only [setL_length, List.length_map]; omega)⟩) | (exact ⟨by omega, by first | rfl | omega, by omega, Nat.le_of_ble_eq_true rfl, Nat.le_of_ble_eq_true rfl⟩) | (exact ⟨rfl, rfl, rfl, Nat.le_of_ble_eq_true rfl, by first | rfl | omega | exact Nat.le_of_ble_eq_true rfl | (dsimp only; omega) | (simp; done) | (simp; omega), by first | rfl | omega | exact Nat.le_of_ble_eq_true rfl | (dsimp only; omega) | (simp; done) | (simp; omega), by omega, Nat.le_of_ble_eq_true rfl⟩) | exact Eq.refl true) ?_) | with_reducible refine ld (hld2) ?_ | refine Exists.intro _ (And.intro rfl ?_) | refine And.intro (And.intro rfl (chk_rowI _ _ _ _)) ?_ | refine br_t (by omega) ?_ | refine br_f (by omega) ?_ | refine bs_t (by omega) ?_ | refine bs_f (by omega) ?_ | refine fun (K' : K3) hK' => ?_ | (refine hK' _ _ _ ?_; clear hK' K') | refine draw_auto tok mixed (by kernel_rfl) ?_ | refine bs_bt rfl ?_ | refine bs_bt (Eq.refl true) ?_ | refine bs_bf (Eq.refl false) ?_ | refine br_bt (Eq.refl true) ?_ | refine br_bf (Eq.refl false) ?_ | refine CallK.m ?_ | refine Two.l ?_ | refine And.intro (And.intro rfl rfl) ?_)
            refine ⟨j + 1, [], by omega, by omega, ?_⟩
            rw [hm1]
            refine ⟨?_, ?_, rfl, rfl, by first | exact Nat.le_of_ble_eq_true rfl | exact Nat.le_refl _ | omega⟩
            · repeat (first | exact trivial | (refine And.intro (covS_syn (by first | rfl | (refine congrArg some (congrArg V.i ?_); omega)) rfl (by first | exact trivial | exact Nat.le_of_ble_eq_true rfl | exact hy | exact (fun p hp => nomatch hp) | (show (_ : Nat) < _; omega))) ?_) | (refine And.intro (covS_bool rfl rfl (by first | rfl | rfl)) ?_))
            · repeat (first | exact trivial | (refine And.intro (covE_id (Nat.le_of_ble_eq_true rfl) (by first | exact wf_ints _ _ | exact wf_bools _ _ | first | exact wf_cells _ _ | simp [C.wf]) rfl (by rfl)) ?_))
          | false =>
            have hm1 : memK l p (j + 1) = (decide (p.1 = q.1) && (decide (p.2 = q.2) && true)) := by
              rw [hms, hm, Bool.false_or, Bool.and_true, ← Bool.decide_and, decide_eq_decide]
              exact Prod.ext_iff
            repeat ((conv => whnf); first | (refine And.intro (by first | omega | exact Nat.le_of_ble_eq_true rfl | (dsimp only [inK]; omega) | (simp only [mulS_eq]; omega) | (simp only [mulS_eq, setL_length]; omega) | (simp only [setL_length]; omega) | (simp only [setL_length, List.length_map]; omega) | (exact ⟨by omega, by omega, by first | exact Nat.le_of_ble_eq_true rfl | (dsimp only; omega) | (simp only [setL_length]; omega) | (simp only [setL_length, List.length_map]; omega)⟩) | (exact ⟨by omega, by first | rfl | omega, by omega, Nat.le_of_ble_eq_true rfl, Nat.le_of_ble_eq_true rfl⟩) | (exact ⟨rfl, rfl, rfl, Nat.le_of_ble_eq_true rfl, by first | rfl | omega | exact Nat.le_of_ble_eq_true rfl | (dsimp only; omega) | (simp; done) | (simp; omega), by first | rfl | omega | exact Nat.le_of_ble_eq_true rfl | (dsimp only; omega) | (simp; done) | (simp; omega), by omega, Nat.le_of_ble_eq_true rfl⟩) | exact Eq.refl true) ?_) | with_reducible refine ld (hld2) ?_ | refine Exists.intro _ (And.intro rfl ?_) | refine And.intro (And.intro rfl (chk_rowI _ _ _ _)) ?_ | refine br_t (by omega) ?_ | refine br_f (by omega) ?_ | refine bs_t (by omega) ?_ | refine bs_f (by omega) ?_ | refine fun (K' : K3) hK' => ?_ | (refine hK' _ _ _ ?_; clear hK' K') | refine draw_auto tok mixed (by kernel_rfl) ?_ | refine bs_bf rfl ?_ | refine bs_bt (Eq.refl true) ?_ | refine bs_bf (Eq.refl false) ?_ | refine br_bt (Eq.refl true) ?_ | refine br_bf (Eq.refl false) ?_ | refine CallK.m ?_ | refine Two.l ?_ | refine And.intro (And.intro rfl rfl) ?_)
            refine ⟨j + 1, [], by omega, by omega, ?_⟩
            rw [hm1]
            refine ⟨?_, ?_, rfl, rfl, by first | exact Nat.le_of_ble_eq_true rfl | exact Nat.le_refl _ | omega⟩
            · repeat (first | exact trivial | (refine And.intro (covS_syn (by first | rfl | (refine congrArg some (congrArg V.i ?_); omega)) rfl (by first | exact trivial | exact Nat.le_of_ble_eq_true rfl | exact hy | exact (fun p hp => nomatch hp) | (show (_ : Nat) < _; omega))) ?_) | (refine And.intro (covS_bool rfl rfl (by first | rfl | rfl)) ?_))
            · repeat (first | exact trivial | (refine And.intro (covE_id (Nat.le_of_ble_eq_true rfl) (by first | exact wf_ints _ _ | exact wf_bools _ _ | first | exact wf_cells _ _ | simp [C.wf]) rfl (by rfl)) ?_))
        · have hje : j = l.length := by omega
          subst hje
          rw [memK_end]
          cases hm : decide (p ∈ l) with
          | true =>
            rw [hm] at hsu
            repeat ((conv => whnf); first | (refine And.intro (by first | omega | exact Nat.le_of_ble_eq_true rfl | (dsimp only [inK]; omega) | (simp only [mulS_eq]; omega) | (simp only [mulS_eq, setL_length]; omega) | (simp only [setL_length]; omega) | (simp only [setL_length, List.length_map]; omega) | (exact ⟨by omega, by omega, by first | exact Nat.le_of_ble_eq_true rfl | (dsimp only; omega) | (simp only [setL_length]; omega) | (simp only [setL_length, List.length_map]; omega)⟩) | (exact ⟨by omega, by first | rfl | omega, by omega, Nat.le_of_ble_eq_true rfl, Nat.le_of_ble_eq_true rfl⟩) | (exact ⟨rfl, rfl, rfl, Nat.le_of_ble_eq_true rfl, by first | rfl | omega | exact Nat.le_of_ble_eq_true rfl | (dsimp only; omega) | (simp; done) | (simp; omega), by first | rfl | omega | exact Nat.le_of_ble_eq_true rfl | (dsimp only; omega) | (simp; done) | (simp; omega), by omega, Nat.le_of_ble_eq_true rfl⟩) | exact Eq.refl true) ?_) | refine Exists.intro _ (And.intro rfl ?_) | refine And.intro (And.intro rfl (chk_rowI _ _ _ _)) ?_ | refine br_t (by omega) ?_ | refine br_f (by omega) ?_ | refine bs_t (by omega) ?_ | refine bs_f (by omega) ?_ | refine fun (K' : K3) hK' => ?_ | (refine hK' _ _ _ ?_; clear hK' K') | refine draw_auto tok mixed (by kernel_rfl) ?_ | refine br_bt rfl ?_ | refine bs_bt (Eq.refl true) ?_ | refine bs_bf (Eq.refl false) ?_ | refine br_bt (Eq.refl true) ?_ | refine br_bf (Eq.refl false) ?_ | refine CallK.m ?_ | refine Two.l ?_ | refine And.intro (And.intro rfl rfl) ?_)
            refine ⟨k + 1, [(4, some 7)], by omega, by omega, ?_⟩
            have hnew : cellC (fltK b l (k + 1)) = cellC (fltK b l k) ++ [C.i p.1, C.i p.2] := by
              rw [hsu, cellC_app]; rfl
            have hnl : (fltK b l (k + 1)).length = (fltK b l k).length + 1 := by rw [hsu, List.length_append]; rfl
            rw [hnl]
            refine ⟨?_, ?_, rfl, rfl, by first | exact Nat.le_of_ble_eq_true rfl | exact Nat.le_refl _ | omega⟩
            · repeat (first | exact trivial | (refine And.intro (covS_syn (by first | rfl | (refine congrArg some (congrArg V.i ?_); omega)) rfl (by first | exact trivial | exact Nat.le_of_ble_eq_true rfl | exact hy | exact (fun p hp => nomatch hp) | (show (_ : Nat) < _; omega))) ?_) | refine And.intro (covS_bool rfl rfl (by rfl)) ?_)
            · repeat (first | exact trivial | (refine And.intro (covE_some rfl (Nat.le_of_ble_eq_true rfl) (wf_cells _ _) rfl ((ren_cells _ _).trans (congrArg some (by rw [hnew]; rfl)))) ?_) | refine And.intro (covE_some rfl (Nat.le_of_ble_eq_true rfl) (wf_cells _ _) rfl (ren_cells _ _)) ?_ | refine And.intro (covE_nil rfl (Nat.le_of_ble_eq_true rfl) rfl rfl) ?_ | (refine And.intro (covE_some rfl (Nat.le_of_ble_eq_true rfl) (by first | exact wf_ints _ _ | exact wf_bools _ _ | first | exact wf_cells _ _ | simp [C.wf]) rfl (by first | exact ren_ints _ _ | exact ren_bools _ _ | exact ren_shares _ _ | rfl)) ?_))
          | false =>
            rw [hm] at hsu
            have hnew : fltK b l (k + 1) = fltK b l k := by rw [hsu]; simp
            repeat ((conv => whnf); first | (refine And.intro (by first | omega | exact Nat.le_of_ble_eq_true rfl | (dsimp only [inK]; omega) | (simp only [mulS_eq]; omega) | (simp only [mulS_eq, setL_length]; omega) | (simp only [setL_length]; omega) | (simp only [setL_length, List.length_map]; omega) | (exact ⟨by omega, by omega, by first | exact Nat.le_of_ble_eq_true rfl | (dsimp only; omega) | (simp only [setL_length]; omega) | (simp only [setL_length, List.length_map]; omega)⟩) | (exact ⟨by omega, by first | rfl | omega, by omega, Nat.le_of_ble_eq_true rfl, Nat.le_of_ble_eq_true rfl⟩) | (exact ⟨rfl, rfl, rfl, Nat.le_of_ble_eq_true rfl, by first | rfl | omega | exact Nat.le_of_ble_eq_true rfl | (dsimp only; omega) | (simp; done) | (simp; omega), by first | rfl | omega | exact Nat.le_of_ble_eq_true rfl | (dsimp only; omega) | (simp; done) | (simp; omega), by omega, Nat.le_of_ble_eq_true rfl⟩) | exact Eq.refl true) ?_) | refine Exists.intro _ (And.intro rfl ?_) | refine And.intro (And.intro rfl (chk_rowI _ _ _ _)) ?_ | refine br_t (by omega) ?_ | refine br_f (by omega) ?_ | refine bs_t (by omega) ?_ | refine bs_f (by omega) ?_ | refine fun (K' : K3) hK' => ?_ | (refine hK' _ _ _ ?_; clear hK' K') | refine draw_auto tok mixed (by kernel_rfl) ?_ | refine br_bf rfl ?_ | refine bs_bt (Eq.refl true) ?_ | refine bs_bf (Eq.refl false) ?_ | refine br_bt (Eq.refl true) ?_ | refine br_bf (Eq.refl false) ?_ | refine CallK.m ?_ | refine Two.l ?_ | refine And.intro (And.intro rfl rfl) ?_)
            refine ⟨k + 1, [], by omega, by omega, ?_⟩
            rw [hnew]
            refine ⟨?_, ?_, rfl, rfl, by first | exact Nat.le_of_ble_eq_true rfl | exact Nat.le_refl _ | omega⟩
            · repeat (first | exact trivial | (refine And.intro (covS_syn (by first | rfl | (refine congrArg some (congrArg V.i ?_); omega)) rfl (by first | exact trivial | exact Nat.le_of_ble_eq_true rfl | exact hy | exact (fun p hp => nomatch hp) | (show (_ : Nat) < _; omega))) ?_) | refine And.intro (covS_bool rfl rfl (by rfl)) ?_)
            · repeat (first | exact trivial | (refine And.intro (covE_id (Nat.le_of_ble_eq_true rfl) (by first | exact wf_ints _ _ | exact wf_bools _ _ | first | exact wf_cells _ _ | simp [C.wf]) rfl (by rfl)) ?_))
    · have hkl : k = b.length := by omega
      subst hkl
      repeat ((conv => whnf); first | (refine And.intro (by first | omega | exact Nat.le_of_ble_eq_true rfl | (dsimp only [inK]; omega) | (simp only [mulS_eq]; omega) | (simp only [mulS_eq, setL_length]; omega) | (simp only [setL_length]; omega) | (simp only [setL_length, List.length_map]; omega) | (exact ⟨by omega, by omega, by first | exact Nat.le_of_ble_eq_true rfl | (dsimp only; omega) | (simp only [setL_length]; omega) | (simp only [setL_length, List.length_map]; omega)⟩) | (exact ⟨by omega, by first | rfl | omega, by omega, Nat.le_of_ble_eq_true rfl, Nat.le_of_ble_eq_true rfl⟩) | (exact ⟨rfl, rfl, rfl, Nat.le_of_ble_eq_true rfl, by first | rfl | omega | exact Nat.le_of_ble_eq_true rfl | (dsimp only; omega) | (simp; done) | (simp; omega), by first | rfl | omega | exact Nat.le_of_ble_eq_true rfl | (dsimp only; omega) | (simp; done) | (simp; omega), by omega, Nat.le_of_ble_eq_true rfl⟩) | exact Eq.refl true) ?_) | refine Exists.intro _ (And.intro rfl ?_) | refine And.intro (And.intro rfl (chk_rowI _ _ _ _)) ?_ | refine br_t (by omega) ?_ | refine br_f (by omega) ?_ | refine bs_t (by omega) ?_ | refine bs_f (by omega) ?_ | refine fun (K' : K3) hK' => ?_ | (refine hK' _ _ _ ?_; clear hK' K') | refine draw_auto tok mixed (by kernel_rfl) ?_ | refine bs_bt (Eq.refl true) ?_ | refine bs_bf (Eq.refl false) ?_ | refine br_bt (Eq.refl true) ?_ | refine br_bf (Eq.refl false) ?_ | refine CallK.m ?_ | refine Two.l ?_ | refine And.intro (And.intro rfl rfl) ?_)
      exact .inr ⟨4, rfl, rfl⟩
end Go.Proofs.Ytbhpnhcdjmcaoaa

/- Boom: the law of barriers or channels. -/
namespace Go.Proofs.Ytbhpnhcdjmcaoaa
open Go.RowKit
set_option linter.unusedVariables false
set_option linter.unusedSimpArgs false
theorem either_long (W H : Int) (cs : List Int) (bs : List Cell) (hcs : cs.length < 9223372036854775808) (hb : bs.length < 9223372036854775808) (h : (cs.length : Int) > 300 ∨ (bs.length : Int) > 250) :
    Spec Try.prog 9 [chR W H cs.length, V.c (.sl 1 bs.length)] [⟨0, .ro 0, cs.map C.i⟩, ⟨1, .ro 2, cellC bs⟩] 2 (Is (V.c (.bool true))) := by
  refine Spec.of tok Try.func9 rfl rfl rfl fun n0 cx => vc_ok tok ?_
  by_cases h1 : (cs.length : Int) > 300
  · repeat ((conv => whnf); first | refine Exists.intro _ (And.intro rfl ?_) | refine bs_t (by omega) ?_ | refine fun (K' : K3) hK' => ?_ | (refine hK' _ _ _ ?_; clear hK' K') | refine wide_k hcs ?_ | refine awake_k ?_ | refine CallK.m ?_)
    intro ρ; rfl
  · have h2 : (bs.length : Int) > 250 := by omega
    repeat ((conv => whnf); first | refine Exists.intro _ (And.intro rfl ?_) | refine bs_t (by omega) ?_ | refine bs_f (by omega) ?_ | refine fun (K' : K3) hK' => ?_ | (refine hK' _ _ _ ?_; clear hK' K') | refine wide_k hcs ?_ | refine long_k hb ?_ | refine awake_k ?_ | refine CallK.m ?_)
    intro ρ; rfl
section
variable {W H : Int} {cs : List Int} {bs : List Cell}
theorem chC_some {l : List Int} (hv : okC W H cs = true) (hB : okB W H cs bs = true) (hc : chanO W H cs.length (wetB cs (boomF W H bs)) = some l) : (chC W H cs bs = cellsL W l ∧ chE W H cs bs = 0) ∧ blB W H cs bs = false ∧ blE W H cs bs = 0 := by
  unfold chC chE blB blE; rw [hv, hB, hc]; exact ⟨⟨rfl, rfl⟩, rfl, rfl⟩
theorem chC_none (hv : okC W H cs = true) (hB : okB W H cs bs = true) (hc : chanO W H cs.length (wetB cs (boomF W H bs)) = none) : (chC W H cs bs = [] ∧ chE W H cs bs = 5) ∧ blB W H cs bs = true ∧ blE W H cs bs = 0 := by
  unfold chC chE blB blE; rw [hv, hB, hc]; exact ⟨⟨rfl, rfl⟩, rfl, rfl⟩
theorem isChB_of {l : List Cell} (hv : okC W H cs = true) (hB : okB W H cs bs = true) (h : ChanP W H (wetB cs (boomF W H bs)) l) : isChB W H cs bs l = true := by
  unfold isChB; rw [hv, hB, isChR_iff.2 h]; rfl
end
set_option maxRecDepth 10000 in
set_option maxHeartbeats 8000000 in
theorem either_spec (W H : Int) (cs : List Int) (bs : List Cell) (hcs : ¬ (cs.length : Int) > 300) (hbs : ¬ (bs.length : Int) > 250) :
    Spec Try.prog 9 [chR W H cs.length, V.c (.sl 1 bs.length)] [⟨0, .ro 0, cs.map C.i⟩, ⟨1, .ro 2, cellC bs⟩] 2 (Is (V.c (.bool true))) := by
  have hva := rvalid_spec W H cs (by omega)
  have hl : cs.length ≤ 300 := by omega
  refine Spec.of tok Try.func9 rfl rfl rfl fun n0 cx => vc_ok tok ?_
  cases hv : okC W H cs with
  | false =>
    repeat ((conv => whnf); first | refine Exists.intro _ (And.intro rfl ?_) | refine bs_f (by omega) ?_ | refine fun (K' : K3) hK' => ?_ | (refine hK' _ _ _ ?_; clear hK' K') | refine wide_k (by omega) ?_ | refine long_k (by omega) ?_ | refine CallK.val (R := []) hva (by kernel_rfl) rfl (by simp [V.wf, A.wf, C.wf, V.i]) ⟨roE_ints (l := 0) rfl (by omega) rfl (.inl rfl), trivial⟩ rfl rfl trivial ?_ | refine bs_bt (congrArg Bool.not hv) ?_ | refine awake_k ?_ | refine CallK.m ?_)
    intro ρ; rfl
  | true =>
    have hok := okC_iff.1 hv
    have har := areBooms_spec W H cs bs hok (by omega)
    cases hB : okB W H cs bs with
    | false =>
      repeat ((conv => whnf); first | refine Exists.intro _ (And.intro rfl ?_) | refine bs_f (by omega) ?_ | refine fun (K' : K3) hK' => ?_ | (refine hK' _ _ _ ?_; clear hK' K') | refine wide_k (by omega) ?_ | refine long_k (by omega) ?_ | refine CallK.val (R := []) hva (by kernel_rfl) rfl (by simp [V.wf, A.wf, C.wf, V.i]) ⟨roE_ints (l := 0) rfl (by omega) rfl (.inl rfl), trivial⟩ rfl rfl trivial ?_ | refine bs_bf (congrArg Bool.not hv) ?_ | refine CallK.val (R := []) har (by kernel_rfl) rfl (by simp [V.wf, A.wf, C.wf, V.i]) ⟨roE_ints (l := 0) rfl (by omega) rfl (.inl rfl), roE_cells (l := 1) rfl (by omega) rfl (.inl rfl), trivial⟩ rfl rfl trivial ?_ | refine br_bt (congrArg Bool.not hB) ?_ | refine awake_k ?_ | refine CallK.m ?_)
      intro ρ; rfl
    | true =>
      have hW : 0 < W := by have := hok.w; omega
      have k1 := pBlocks_spec W H cs bs hl (by omega)
      have k2 := pChannel_spec W H cs bs hl (by omega)
      have k3 := dead_spec W H cs bs hok (okB_on hW hB) (by omega)
      have hei := either hok hB
      have hokd := hok.dead bs
      have hvd := okC_iff.2 hokd
      have hld := chgL_len cs (deadG W cs bs)
      have hbd := fun l => dead_bar (l := l) hok (bs := bs)
      have hcd := fun l => either_cells (l := l) hok (bs := bs)
      have hci := fun l => chan_is (l := l) (wet := wetB cs (boomF W H bs)) hok
      obtain ⟨cd, hcde⟩ : ∃ c, c = chgL cs (deadG W cs bs) := ⟨_, rfl⟩
      rw [← hcde] at k3 hei hokd hvd hld
      simp only [← hcde] at hbd hcd
      clear hcde
      have k4 := pBarrier_spec W H cd (by omega)
      cases hc : chanO W H cs.length (wetB cs (boomF W H bs)) with
      | some l =>
        have hno : barO W H cd = none := by
          cases hb : barO W H cd with
          | none => rfl
          | some q => have := hei.2 ⟨q, hb⟩; rw [hc] at this; cases this
        obtain ⟨⟨c1, c2⟩, c3, c4⟩ := chC_some hv hB hc
        rw [c3, c4] at k1
        rw [c1, c2] at k2
        obtain ⟨e1, e2⟩ := barC_none hvd hno
        rw [e1, e2] at k4
        have hci' := hci l hc
        have hll : (cellsL W l).length ≤ 100 := hci'.len.2
        have k5 := rIsChannel_spec W H cs bs (cellsL W l) hl (by omega) (by omega)
        rw [isChB_of hv hB hci', c4] at k5
        obtain ⟨bl, hbl⟩ : ∃ b, b = cellsL W l := ⟨_, rfl⟩
        rw [← hbl] at k2 k5 hll
        repeat ((conv => whnf); first | refine Exists.intro _ (And.intro rfl ?_) | refine br_t (by omega) ?_ | refine br_f (by omega) ?_ | refine bs_f (by omega) ?_ | refine fun (K' : K3) hK' => ?_ | (refine hK' _ _ _ ?_; clear hK' K') | refine wide_k (by omega) ?_ | refine long_k (by omega) ?_ | refine CallK.val (R := []) hva (by kernel_rfl) rfl (by simp [V.wf, A.wf, C.wf, V.i]) ⟨roE_ints (l := 0) rfl (by omega) rfl (.inl rfl), trivial⟩ rfl rfl trivial ?_ | refine bs_bf (congrArg Bool.not hv) ?_ | refine CallK.val (R := []) har (by kernel_rfl) rfl (by simp [V.wf, A.wf, C.wf, V.i]) ⟨roE_ints (l := 0) rfl (by omega) rfl (.inl rfl), roE_cells (l := 1) rfl (by omega) rfl (.inl rfl), trivial⟩ rfl rfl trivial ?_ | refine br_bf (congrArg Bool.not hB) ?_ | refine CallK.val (R := []) k1 (by kernel_rfl) rfl (by simp [V.wf, A.wf, C.wf, V.i]) ⟨roE_ints (l := 0) rfl (by omega) rfl (.inl rfl), roE_cells (l := 1) rfl (by omega) rfl (.inl rfl), trivial⟩ rfl rfl (by simp [V.wf, A.wf, C.wf]) ?_ | refine CallK.cellsE (R := []) k2 (by kernel_rfl) rfl (by simp [V.wf, A.wf, C.wf, V.i]) ⟨roE_ints (l := 0) rfl (by omega) rfl (.inl rfl), roE_cells (l := 1) rfl (by omega) rfl (.inl rfl), trivial⟩ rfl ?_ | refine CallK.chg (R := []) k3 (by kernel_rfl) rfl (by simp [V.wf, A.wf, C.wf, V.i]) ⟨roE_ints (l := 0) rfl (by omega) rfl (.inl rfl), roE_cells (l := 1) rfl (by omega) rfl (.inl rfl), trivial⟩ rfl ?_ | refine CallK.cellsE (R := [(0, some 4)]) k4 (by kernel_rfl) rfl (by simp [V.wf, A.wf, C.wf, V.i]) ⟨roE_ints (l := 4) rfl (by omega) rfl (.inl rfl), trivial⟩ rfl ?_ | refine CallK.val (R := [(0, some 0), (1, some 1), (2, some 3)]) k5 (by kernel_rfl) rfl (by simp [V.wf, A.wf, C.wf, V.i]) ⟨roE_ints (l := 0) rfl (by omega) rfl (.inl rfl), roE_cells (l := 1) rfl (by omega) rfl (.inl rfl), roE_cells (l := 3) rfl (by omega) rfl (.inr rfl), trivial⟩ rfl rfl (by simp [V.wf, A.wf, C.wf]) ?_ | refine bs_bf (Eq.refl false) ?_ | refine br_bf (Eq.refl false) ?_ | refine br_bt (Eq.refl true) ?_ | refine awake_k ?_ | refine CallK.m ?_)
        intro ρ; rfl
      | none =>
        obtain ⟨⟨l, w⟩, hb⟩ := hei.1 hc
        obtain ⟨⟨c1, c2⟩, c3, c4⟩ := chC_none hv hB hc
        rw [c3, c4] at k1
        rw [c1, c2] at k2
        obtain ⟨e1, e2⟩ := barC_some hvd hb
        rw [e1, e2] at k4
        obtain ⟨hbar, _, _, _⟩ := bar_is hokd hb
        have hbc := hbd _ hbar
        have hll : (cellsL W l).length ≤ 100 := hbar.len.2
        have k6 := risBar_spec W H cs (cellsL W l) hl (by omega)
        rw [hv, isBar_iff.2 hbc] at k6
        have k7 := lawCells_spec W H cs (cellsL W l) hW hl (by omega)
        have k8 := lawCells_spec W H cd (cellsL W l) hW (by omega) (by omega)
        rw [← hcd _ hbar] at k8
        obtain ⟨bl, hbl⟩ : ∃ b, b = cellsL W l := ⟨_, rfl⟩
        rw [← hbl] at k4 k6 k7 k8 hll
        obtain ⟨fl, hfl⟩ : ∃ b, b = cellsF W cs bl := ⟨_, rfl⟩
        rw [← hfl] at k7 k8
        repeat ((conv => whnf); first | refine Exists.intro _ (And.intro rfl ?_) | refine And.intro (And.intro rfl (chk_rowI _ _ _ _)) ?_ | refine br_t (by omega) ?_ | refine br_f (by omega) ?_ | refine bs_f (by omega) ?_ | refine fun (K' : K3) hK' => ?_ | (refine hK' _ _ _ ?_; clear hK' K') | refine draw_auto tok mixed (by kernel_rfl) ?_ | refine wide_k (by omega) ?_ | refine long_k (by omega) ?_ | refine CallK.val (R := []) hva (by kernel_rfl) rfl (by simp [V.wf, A.wf, C.wf, V.i]) ⟨roE_ints (l := 0) rfl (by omega) rfl (.inl rfl), trivial⟩ rfl rfl trivial ?_ | refine bs_bf (congrArg Bool.not hv) ?_ | refine CallK.val (R := []) har (by kernel_rfl) rfl (by simp [V.wf, A.wf, C.wf, V.i]) ⟨roE_ints (l := 0) rfl (by omega) rfl (.inl rfl), roE_cells (l := 1) rfl (by omega) rfl (.inl rfl), trivial⟩ rfl rfl trivial ?_ | refine br_bf (congrArg Bool.not hB) ?_ | refine CallK.val (R := []) k1 (by kernel_rfl) rfl (by simp [V.wf, A.wf, C.wf, V.i]) ⟨roE_ints (l := 0) rfl (by omega) rfl (.inl rfl), roE_cells (l := 1) rfl (by omega) rfl (.inl rfl), trivial⟩ rfl rfl (by simp [V.wf, A.wf, C.wf]) ?_ | refine CallK.cellsE (R := []) k2 (by kernel_rfl) rfl (by simp [V.wf, A.wf, C.wf, V.i]) ⟨roE_ints (l := 0) rfl (by omega) rfl (.inl rfl), roE_cells (l := 1) rfl (by omega) rfl (.inl rfl), trivial⟩ rfl ?_ | refine CallK.chg (R := []) k3 (by kernel_rfl) rfl (by simp [V.wf, A.wf, C.wf, V.i]) ⟨roE_ints (l := 0) rfl (by omega) rfl (.inl rfl), roE_cells (l := 1) rfl (by omega) rfl (.inl rfl), trivial⟩ rfl ?_ | refine CallK.cellsE (R := [(0, some 4)]) k4 (by kernel_rfl) rfl (by simp [V.wf, A.wf, C.wf, V.i]) ⟨roE_ints (l := 4) rfl (by omega) rfl (.inl rfl), trivial⟩ rfl ?_ | refine CallK.val (R := [(0, some 0), (1, some 5)]) k6 (by kernel_rfl) rfl (by simp [V.wf, A.wf, C.wf, V.i]) ⟨roE_ints (l := 0) rfl (by omega) rfl (.inl rfl), roE_cells (l := 5) rfl (by omega) rfl (.inr rfl), trivial⟩ rfl rfl (by simp [V.wf, A.wf, C.wf]) ?_ | refine HD_mk (fun _ h => CallK.cellsR (R := [(0, some 0), (1, some 5)]) k7 (by kernel_rfl) rfl (by simp [V.wf, A.wf, C.wf, V.i]) ⟨roE_ints (l := 0) rfl (by omega) rfl (.inl rfl), roE_cells (l := 5) rfl (by omega) rfl (.inr rfl), trivial⟩ rfl h) ?_ | refine HD_mk (fun _ h => CallK.chg (R := []) k3 (by kernel_rfl) rfl (by simp [V.wf, A.wf, C.wf, V.i]) ⟨roE_ints (l := 0) rfl (by omega) rfl (.inl rfl), roE_cells (l := 1) rfl (by omega) rfl (.inl rfl), trivial⟩ rfl h) ?_ | refine HD_mk (fun _ h => CallK.cellsR (R := [(0, some 7), (1, some 5)]) k8 (by kernel_rfl) rfl (by simp [V.wf, A.wf, C.wf, V.i]) ⟨roE_ints (l := 7) rfl (by omega) rfl (.inl rfl), roE_cells (l := 5) rfl (by omega) rfl (.inr rfl), trivial⟩ rfl h) ?_ | refine And.intro (And.intro rfl (chk_rowC _ _ _ _)) ?_ | refine bs_bf (Eq.refl false) ?_ | refine br_bf (Eq.refl false) ?_ | refine br_bt (Eq.refl true) ?_ | refine HD_mk (fun _ h => awake_k h) ?_ | refine CallK.m ?_ | refine And.intro (And.intro rfl rfl) ?_)
        intro ρ; rfl
theorem either_any (W H : Int) (cs : List Int) (bs : List Cell) (ao : Option Addr) (c : Nat) (bo : Option Addr) (d : Nat) (w : World) (h : IntsAt w ao cs) (h2 : CellsAt w bo d bs) :
    Calls Try.prog 9 #[.agg #[.int .i64 W, .int .i64 H, .slice ao cs.length c], .slice bo bs.length d] w fun e w' => e = .returned (.bool true) ∧ Below w.heap.size w w' := by
  by_cases hl : (cs.length : Int) > 300 ∨ (bs.length : Int) > 250
  · exact isTrue_any (vs := [chR W H cs.length, V.c (.sl 1 bs.length)]) (either_long W H cs bs h.2 h2.2.2 hl) (hp_2 h h2) (by simp [V.wf, A.wf, C.wf]) rfl
  · exact isTrue_any (vs := [chR W H cs.length, V.c (.sl 1 bs.length)]) (either_spec W H cs bs (fun e => hl (.inl e)) (fun e => hl (.inr e))) (hp_2 h h2) (by simp [V.wf, A.wf, C.wf]) rfl
end Go.Proofs.Ytbhpnhcdjmcaoaa

