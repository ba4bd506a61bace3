/- Texts of the proof, part 7: L15, RF. -/
import Derived.Test.YtbhpnhcdjmcaoaaV6
import Derived.WalkKit
import Derived.Below
import Derived.Laws.OwnMore
import Derived.Maps.AppendAt
import Derived.Laws.IdiomCopy
import Derived.Laws.CopyRow
import Derived.IntWalk
import Derived.StillTail
import Derived.Scope
import Derived.ChangeKeysEq
import Derived.Laws.Small
import Derived.OrdersIn
import Derived.TacticsIn
import Derived.OwnWalkIn
import Derived.RangeFuncNested
import Derived.RangeFuncLeaves
import Derived.RangeFuncRecord
import Derived.Maps.Keyed
import Derived.Maps.RangeRun
import Derived.DeepKeys4
import Derived.Test.YtbhpnhcdjmcaoaaRows
import Derived.KernelRfl
import Derived.ProofKit
import Derived.OpenShut
import Derived.Lib.SmallJoins
import Derived.Deep.Slices
import Derived.PlainAid
import Derived.StillTailTactics
import Derived.WalkSpells
import Derived.OwnWalk
import Derived.Deep.RegionLaw
import Derived.Lib.SliceRun
import Derived.Carry
import Derived.ChangeShapes
/- Boom: the law of the whole. -/
namespace Go.Proofs.Ytbhpnhcdjmcaoaa
open Go.RowKit
set_option linter.unusedVariables false
set_option linter.unusedSimpArgs false
theorem top_long (W H : Int) (cs : List Int) (bs l : List Cell) (hs : List Int) (n : Int) (hcs : cs.length < 9223372036854775808) (hb : bs.length < 9223372036854775808) (hl : l.length < 9223372036854775808) (hhs : hs.length < 9223372036854775808) (h : (cs.length : Int) > 300 ∨ (bs.length : Int) > 250 ∨ (l.length : Int) > 250 ∨ (hs.length : Int) > 300) :
    Spec Try.prog 15 [chR W H cs.length, V.c (.sl 1 bs.length), V.c (.sl 2 l.length), V.c (.sl 3 hs.length), V.i n] [⟨0, .ro 0, cs.map C.i⟩, ⟨1, .ro 2, cellC bs⟩, ⟨2, .ro 2, cellC l⟩, ⟨3, .ro 0, hs.map C.i⟩] 4 (Is (V.c (.bool true))) := by
  refine Spec.of tok Try.func15 rfl rfl rfl fun n0 cx => vc_ok tok ?_
  by_cases h1 : (cs.length : Int) > 300
  · repeat ((conv => whnf); first | refine Exists.intro _ (And.intro rfl ?_) | refine bs_t (by omega) ?_ | refine fun (K' : K3) hK' => ?_ | (refine hK' _ _ _ ?_; clear hK' K') | refine wide_k hcs ?_ | refine awake_k ?_ | refine CallK.m ?_)
    intro ρ; rfl
  · by_cases h2 : (bs.length : Int) > 250
    · repeat ((conv => whnf); first | refine Exists.intro _ (And.intro rfl ?_) | refine bs_t (by omega) ?_ | refine bs_f (by omega) ?_ | refine fun (K' : K3) hK' => ?_ | (refine hK' _ _ _ ?_; clear hK' K') | refine wide_k hcs ?_ | refine long_k hb ?_ | refine awake_k ?_ | refine CallK.m ?_)
      intro ρ; rfl
    · by_cases h3 : (l.length : Int) > 250
      · repeat ((conv => whnf); first | refine Exists.intro _ (And.intro rfl ?_) | refine bs_t (by omega) ?_ | refine bs_f (by omega) ?_ | refine fun (K' : K3) hK' => ?_ | (refine hK' _ _ _ ?_; clear hK' K') | refine wide_k hcs ?_ | refine long_k hl ?_ | refine long_k hb ?_ | refine awake_k ?_ | refine CallK.m ?_)
        intro ρ; rfl
      · have h4 : (hs.length : Int) > 300 := by omega
        repeat ((conv => whnf); first | refine Exists.intro _ (And.intro rfl ?_) | refine bs_t (by omega) ?_ | refine bs_f (by omega) ?_ | refine fun (K' : K3) hK' => ?_ | (refine hK' _ _ _ ?_; clear hK' K') | refine wide_k hcs ?_ | refine long_k hl ?_ | refine long_k hb ?_ | refine awake_k ?_ | refine CallK.m ?_)
        intro ρ; rfl
section
variable {W H : Int} {cs : List Int}
theorem all_ok (hok : CO W H cs) : okB W H cs (boomsL W cs) = true := okB_of hok (booms_sorted (by have := hok.w; omega)) fun p hp => (booms_mem hok).1 hp
theorem all_dual (hok : CO W H cs) : chanO W H cs.length (wetB cs (boomF W H (boomsL W cs))) = none ↔ ∃ q, barO W H cs = some q := dual hok hok fun p hp => by
  have hi := idxU_in hok hp
  have hg := hok.get hi.1 hi.2.1
  unfold hldI wetB
  rw [bm_mem hok (fun q hq => ((booms_mem hok).1 hq).1) hp]
  by_cases hm : p ∈ boomsL W cs
  · have := ((booms_mem hok).1 hm).2
    rw [dd_t hm, dd_t (show cs.getD (idxU W p).toNat 0 ≠ 0 by omega)]; simp
  · have h0 : ¬ cs.getD (idxU W p).toNat 0 > 0 := fun h => hm ((booms_mem hok).2 ⟨hp, h⟩)
    rw [dd_f hm]
    by_cases h1 : cs.getD (idxU W p).toNat 0 = 0
    · rw [dd_f (show ¬ cs.getD (idxU W p).toNat 0 ≠ 0 by omega), dd_t (show cs.getD (idxU W p).toNat 0 ≠ -1 by omega)]; rfl
    · rw [dd_t h1, dd_f (show ¬ cs.getD (idxU W p).toNat 0 ≠ -1 by omega)]; rfl
theorem isCh_nil (hv : okC W H cs = true) {bs l : List Cell} (h : ChanP W H (wetB cs (boomF W H bs)) l) : isChB W H cs [] l = true := by
  unfold isChB
  rw [hv, okB_nil, isChR_iff.2 ⟨h.on, h.nd, h.len, h.adj, fun j hj => by
    have := h.wet j hj
    unfold wetB at this ⊢
    rw [Bool.and_eq_true] at this
    rw [boomF_nil, this.1]; rfl, h.left, h.right⟩]
  rfl
theorem blB_at (hv : okC W H cs = true) {bs : List Cell} (hB : okB W H cs bs = true) : blB W H cs bs = (chanO W H cs.length (wetB cs (boomF W H bs))).isNone ∧ blE W H cs bs = 0 := by
  unfold blB blE; rw [hv, hB]; exact ⟨rfl, rfl⟩
theorem chC_some {bs : List Cell} {l : List Int} (hv : okC W H cs = true) (hB : okB W H cs bs = true) (hc : chanO W H cs.length (wetB cs (boomF W H bs)) = some l) : chC W H cs bs = cellsL W l ∧ chE W H cs bs = 0 := by
  unfold chC chE; rw [hv, hB, hc]; exact ⟨rfl, rfl⟩
theorem chC_none {bs : List Cell} (hv : okC W H cs = true) (hB : okB W H cs bs = true) (hc : chanO W H cs.length (wetB cs (boomF W H bs)) = none) : chC W H cs bs = [] ∧ chE W H cs bs = 5 := by
  unfold chC chE; rw [hv, hB, hc]; exact ⟨rfl, rfl⟩
end
set_option maxRecDepth 10000 in
set_option maxHeartbeats 16000000 in
theorem top_spec (W H : Int) (cs : List Int) (bs l : List Cell) (hs : List Int) (n : Int) (hn : -9223372036854775808 ≤ n ∧ n ≤ 9223372036854775807) (hcs : ¬ (cs.length : Int) > 300) (hbs : ¬ (bs.length : Int) > 250) (hls : ¬ (l.length : Int) > 250) (hhs : ¬ (hs.length : Int) > 300) :
    Spec Try.prog 15 [chR W H cs.length, V.c (.sl 1 bs.length), V.c (.sl 2 l.length), V.c (.sl 3 hs.length), V.i n] [⟨0, .ro 0, cs.map C.i⟩, ⟨1, .ro 2, cellC bs⟩, ⟨2, .ro 2, cellC l⟩, ⟨3, .ro 0, hs.map C.i⟩] 4 (Is (V.c (.bool true))) := by
  have hva := rvalid_spec W H cs (by omega)
  have hl : cs.length ≤ 300 := by omega
  have hlm : (cs.map C.i).length = cs.length := by simp
  refine Spec.of tok Try.func15 rfl rfl rfl fun n0 cx => vc_ok tok ?_
  cases hv : okC W H cs with
  | false =>
    repeat ((conv => whnf); first | refine Exists.intro _ (And.intro rfl ?_) | refine bs_f (by omega) ?_ | refine fun (K' : K3) hK' => ?_ | (refine hK' _ _ _ ?_; clear hK' K') | refine wide_k (by omega) ?_ | refine long_k (by omega) ?_ | refine CallK.val (R := []) hva (by kernel_rfl) rfl (by simp [V.wf, A.wf, C.wf, V.i]) ⟨roE_ints (l := 0) rfl (by omega) rfl (.inl rfl), trivial⟩ rfl rfl trivial ?_ | refine br_bt (congrArg Bool.not hv) ?_ | refine awake_k ?_ | refine CallK.m ?_)
    intro ρ; rfl
  | true =>
    have hok := okC_iff.1 hv
    have hW : 0 < W := by have := hok.w; omega
    have k1 := booms_spec W H cs hW hl
    have hal := boomsK_len W cs cs.length
    have hal : (boomsL W cs).length ≤ cs.length := hal
    have hA := all_ok hok
    have hdu := all_dual hok
    have k3 := pBlocks_spec W H cs (boomsL W cs) hl (by omega)
    have k4 := pChannel_spec W H cs (boomsL W cs) hl (by omega)
    rw [(blB_at hv hA).1, (blB_at hv hA).2] at k3
    have hcS := fun q => chC_some (l := q) hv hA
    have hcN := chC_none hv hA
    have hcI := fun q h => isCh_nil (bs := boomsL W cs) hv (chan_is (l := q) hok h)
    obtain ⟨all, hall⟩ : ∃ a, a = boomsL W cs := ⟨_, rfl⟩
    rw [← hall] at k1 k3 k4 hal hdu hcN
    simp only [← hall] at hcS hcI
    clear hA
    cases hc : chanO W H cs.length (wetB cs (boomF W H all)) with
    | some q =>
      have hb : barO W H cs = none := by
        cases hb : barO W H cs with
        | none => rfl
        | some q => have := hdu.2 ⟨q, hb⟩; rw [hc] at this; cases this
      have k2 := cheapN hl hv hb
      rw [hc] at k3
      rw [(hcS q hc).1, (hcS q hc).2] at k4
      have hci := hcI q hc
      have hq : (cellsL W q).length ≤ 300 := by
        have := (chan_is hok hc).len; omega
      have k5 := pIsChannel_spec W H cs [] (cellsL W q) hl (by simp) hq
      rw [hci, show blE W H cs [] = 0 by unfold blE; rw [hv, okB_nil]; rfl] at k5
      obtain ⟨ch, hch⟩ : ∃ b, b = cellsL W q := ⟨_, rfl⟩
      rw [← hch] at k4 k5 hq
      repeat ((conv => whnf); first | refine Exists.intro _ (And.intro rfl ?_) | refine br_t (by omega) ?_ | refine bs_f (by omega) ?_ | refine fun (K' : K3) hK' => ?_ | (refine hK' _ _ _ ?_; clear hK' K') | refine wide_k (by omega) ?_ | refine long_k (by omega) ?_ | refine CallK.val (R := []) hva (by kernel_rfl) rfl (by simp [V.wf, A.wf, C.wf, V.i]) ⟨roE_ints (l := 0) rfl (by omega) rfl (.inl rfl), trivial⟩ rfl rfl trivial ?_ | refine br_bf (congrArg Bool.not hv) ?_ | refine CallK.cellsR (R := []) k1 (by kernel_rfl) rfl (by simp [V.wf, A.wf, C.wf, V.i]) ⟨roE_ints (l := 0) rfl (by omega) rfl (.inl rfl), trivial⟩ rfl ?_ | refine CallK.val (R := []) k2 (by kernel_rfl) rfl (by simp [V.wf, A.wf, C.wf, V.i]) ⟨roE_ints (l := 0) rfl (by omega) rfl (.inl rfl), trivial⟩ rfl rfl (by simp [V.wf, A.wf, C.wf]) ?_ | refine CallK.val (R := [(0, some 0), (1, some 5)]) k3 (by kernel_rfl) rfl (by simp [V.wf, A.wf, C.wf, V.i]) ⟨roE_ints (l := 0) rfl (by omega) rfl (.inl rfl), roE_cells (l := 5) rfl (by omega) rfl (.inl rfl), trivial⟩ rfl rfl (by simp [V.wf, A.wf, C.wf]) ?_ | refine CallK.cellsE (R := [(0, some 0), (1, some 5)]) k4 (by kernel_rfl) rfl (by simp [V.wf, A.wf, C.wf, V.i]) ⟨roE_ints (l := 0) rfl (by omega) rfl (.inl rfl), roE_cells (l := 5) rfl (by omega) rfl (.inl rfl), trivial⟩ rfl ?_ | refine CallK.val (R := [(0, some 0), (1, none), (2, some 6)]) k5 (by kernel_rfl) rfl (by simp [V.wf, A.wf, C.wf, V.i]) ⟨roE_ints (l := 0) rfl (by omega) rfl (.inl rfl), roE_none rfl (by omega), roE_cells (l := 6) rfl (by omega) rfl (.inr rfl), trivial⟩ rfl rfl (by simp [V.wf, A.wf, C.wf]) ?_ | refine bs_bf (Eq.refl false) ?_ | refine br_bf (Eq.refl false) ?_ | refine br_bt (Eq.refl true) ?_ | refine awake_k ?_ | refine CallK.m ?_)
      intro ρ; rfl
    | none =>
      obtain ⟨⟨bl, w⟩, hb⟩ := hdu.1 hc
      have k2 := cheapS hl hv hb
      rw [hc] at k3
      rw [(hcN hc).1, (hcN hc).2] at k4
      have t1 := turned_spec W H cs hl
      have ho1 : turnO W H cs = some (chgL cs (turnG W H cs)) := by unfold turnO; rw [if_pos hv]
      have ht := turn_cost hok
      have hv1 := okC_iff.2 hok.turn
      have hl1 := chgL_len cs (turnG W H cs)
      obtain ⟨c1, hc1⟩ : ∃ c, c = chgL cs (turnG W H cs) := ⟨_, rfl⟩
      rw [← hc1] at ho1 ht hv1 hl1
      have hv7 := rvalid_spec W H c1 (by omega)
      rw [hv1] at hv7
      rw [hb] at ht
      have k9 := proves_spec W H cs hs n hl (by omega) hn
      have p9 := prv_two hv hs n
      have p10 := cost_two hv l hl (by omega)
      have hpl : provP W H cs hs n = true → n ≤ w.1 := fun hp => by
        have := prov_bar hok hp (bar_is hok hb).1
        have := (bar_is hok hb).2.1; omega
      have hcl5 : ∀ s, s = sumC W cs l → BarP W H cs l → w.1 ≤ s := fun s hs' hB' => by
        obtain ⟨l', w', he, hle⟩ := bar_least hok hB'
        rw [hb] at he; cases he; omega
      have hpc : provP W H cs hs n = true → ∀ s, s = sumC W cs l → BarP W H cs l → n ≤ s := fun hp s hs' hB' => by have := hpl hp; have := hcl5 s hs' hB'; omega
      have k11 := areBooms_spec W H cs bs hok (by omega)
      have hbc := fun hB h => blocks_cost (bs := bs) hok hB h
      obtain ⟨x, hx⟩ : ∃ x, x = w.1 := ⟨_, rfl⟩
      have k5 := topCheap_spec W H cs hl hv hb hx.symm
      have k8 : Spec Try.prog 56 [chR W H c1.length, V.i x] [⟨0, .ro 0, c1.map C.i⟩] 1 (Is (V.c (.bool true))) := by
        cases hb1 : barO W H c1 with
        | none => rw [hb1] at ht; cases ht
        | some q1 =>
          rw [hb1] at ht
          simp only [Option.map_some, Option.some.injEq] at ht
          exact topCheap_spec W H c1 (by omega) hv1 hb1 (by rw [ht, hx])
      rw [← hx] at k2 hpl hcl5
      have hbx : ∀ hB : okB W H cs bs = true, chanO W H cs.length (wetB cs (boomF W H bs)) = none → x ≤ totC W cs bs := fun hB h => by
        obtain ⟨l', w', he, hle⟩ := hbc hB h
        rw [hb] at he; cases he; omega
      clear hbc ht hdu
      have htb := fun k => totK_bd (W := W) (l := bs) hok.cost k
      have hn100 := hok.len
      have hw10 := hok.w
      have hcb := cellC_len bs
      have hend : totC W cs bs = totK W cs bs bs.length := by unfold totC totK; rw [List.take_length]
      rw [hend] at hbx
      have k12 := pBlocks_spec W H cs bs hl (by omega)
      have k13 := Thin_spec W H cs bs hl (by omega)
      unfold thC thE at k13
      rw [hv] at k13
      have htl := (thinO_sub (W := W) (H := H) (cs := cs) bs).length_le
      obtain ⟨th, hth⟩ : ∃ y, y = thinO W H cs bs := ⟨_, rfl⟩
      rw [← hth] at k13 htl
      repeat ((conv => whnf); first | (refine And.intro (by first | omega | exact Nat.le_of_ble_eq_true rfl) ?_) | refine Exists.intro _ (And.intro rfl ?_) | refine bs_f (by omega) ?_ | refine fun (K' : K3) hK' => ?_ | (refine hK' _ _ _ ?_; clear hK' K') | refine wide_k (by omega) ?_ | refine long_k (by omega) ?_ | refine CallK.val (R := []) hva (by kernel_rfl) rfl (by simp [V.wf, A.wf, C.wf, V.i]) ⟨roE_ints (l := 0) rfl (by omega) rfl (.inl rfl), trivial⟩ rfl rfl trivial ?_ | refine br_bf (congrArg Bool.not hv) ?_ | refine CallK.cellsR (R := []) k1 (by kernel_rfl) rfl (by simp [V.wf, A.wf, C.wf, V.i]) ⟨roE_ints (l := 0) rfl (by omega) rfl (.inl rfl), trivial⟩ rfl ?_ | refine CallK.val (R := []) k2 (by kernel_rfl) rfl (by simp [V.wf, A.wf, C.wf, V.i]) ⟨roE_ints (l := 0) rfl (by omega) rfl (.inl rfl), trivial⟩ rfl rfl (by simp [V.wf, A.wf, C.wf]) ?_ | refine CallK.val (R := [(0, some 0), (1, some 5)]) k3 (by kernel_rfl) rfl (by simp [V.wf, A.wf, C.wf, V.i]) ⟨roE_ints (l := 0) rfl (by omega) rfl (.inl rfl), roE_cells (l := 5) rfl (by omega) rfl (.inl rfl), trivial⟩ rfl rfl (by simp [V.wf, A.wf, C.wf]) ?_ | refine CallK.cellsE (R := [(0, some 0), (1, some 5)]) k4 (by kernel_rfl) rfl (by simp [V.wf, A.wf, C.wf, V.i]) ⟨roE_ints (l := 0) rfl (by omega) rfl (.inl rfl), roE_cells (l := 5) rfl (by omega) rfl (.inl rfl), trivial⟩ rfl ?_ | refine CallK.val (R := []) k5 (by kernel_rfl) rfl (by simp [V.wf, A.wf, C.wf, V.i]) ⟨roE_ints (l := 0) rfl (by omega) rfl (.inl rfl), trivial⟩ rfl rfl trivial ?_ | refine CallK.chS (R := []) ho1 t1 (by kernel_rfl) rfl (by simp [V.wf, A.wf, C.wf, V.i]) ⟨roE_ints (l := 0) rfl (by omega) rfl (.inl rfl), trivial⟩ rfl ?_ | refine CallK.val (R := [(0, some 7)]) hv7 (by kernel_rfl) rfl (by simp [V.wf, A.wf, C.wf, V.i]) ⟨roE_ints (l := 7) rfl (by omega) rfl (.inl rfl), trivial⟩ rfl rfl trivial ?_ | refine CallK.val (R := [(0, some 7)]) k8 (by kernel_rfl) rfl (by simp [V.wf, A.wf, C.wf, V.i]) ⟨roE_ints (l := 7) rfl (by omega) rfl (.inl rfl), trivial⟩ rfl rfl trivial ?_ | refine bs_bf (Eq.refl false) ?_ | refine br_bf (Eq.refl false) ?_ | refine CallK.m ?_)
      rcases p10 with ⟨s, hB10, hs10, k10⟩ | ⟨_, k10⟩
      · have hge5 : ¬ s < x := by have := hcl5 s hs10 hB10; omega
        clear hcl5
        rcases p9 with ⟨q1, q2⟩ | ⟨q1, q2⟩
        · cases hb' : provP W H cs hs n with
          | true =>
            rw [q1, q2, hb'] at k9
            have hnx : ¬ n > x := by have := hpl hb'; omega
            have hns : ¬ s < n := by have := hpc hb' s hs10 hB10; omega
            repeat ((conv => whnf); first | refine Exists.intro _ (And.intro rfl ?_) | refine br_t (by omega) ?_ | refine br_f (by omega) ?_ | refine bs_f (by omega) ?_ | refine fun (K' : K3) hK' => ?_ | (refine hK' _ _ _ ?_; clear hK' K') | refine CallK.val (R := [(0, some 0), (1, some 3)]) k9 (by kernel_rfl) rfl (by simp [V.wf, A.wf, C.wf, V.i]) ⟨roE_ints (l := 0) rfl (by omega) rfl (.inl rfl), roE_ints (l := 3) rfl (by omega) rfl (.inl rfl), trivial⟩ rfl rfl (by simp [V.wf, A.wf, C.wf]) ?_ | refine CallK.val (R := [(0, some 0), (1, some 2)]) k10 (by kernel_rfl) rfl (by simp [V.wf, A.wf, C.wf, V.i]) ⟨roE_ints (l := 0) rfl (by omega) rfl (.inl rfl), roE_cells (l := 2) rfl (by omega) rfl (.inr rfl), trivial⟩ rfl rfl (by simp [V.wf, A.wf, C.wf]) ?_ | refine br_bt (Eq.refl true) ?_ | refine CallK.m ?_)
            cases hB : okB W H cs bs with
            | false =>
              rw [hB] at k11
              repeat ((conv => whnf); first | refine fun (K' : K3) hK' => ?_ | (refine hK' _ _ _ ?_; clear hK' K') | refine CallK.val (R := []) k11 (by kernel_rfl) rfl (by simp [V.wf, A.wf, C.wf, V.i]) ⟨roE_ints (l := 0) rfl (by omega) rfl (.inl rfl), roE_cells (l := 1) rfl (by omega) rfl (.inl rfl), trivial⟩ rfl rfl trivial ?_ | refine br_bt (Eq.refl true) ?_ | refine awake_k ?_ | refine CallK.m ?_)
              intro ρ; rfl
            | true =>
              rw [hB] at k11 k13
              rw [(blB_at hv hB).1, (blB_at hv hB).2, show (chanO W H cs.length (wetB cs (boomF W H bs))).isNone = blkL W H cs bs from rfl] at k12
              have hon := okB_on hW hB
              have hbx' := hbx hB
              cases hk : blkL W H cs bs with
              | true =>
                rw [hk] at k12 k13
                rw [show (if (true && true && true) = true then th else []) = th from rfl, show (if true = true then (if true = true then (if true = true then (0 : Int) else 5) else 2) else 30) = 0 from rfl] at k13
                have hge : totK W cs bs bs.length ≥ x := hbx' (by unfold blkL at hk; rwa [Option.isNone_iff_eq_none] at hk)
                repeat ((conv => whnf); first | refine Exists.intro _ (And.intro rfl ?_) | refine fun (K' : K3) hK' => ?_ | (refine hK' _ _ _ ?_; clear hK' K') | refine CallK.val (R := []) k11 (by kernel_rfl) rfl (by simp [V.wf, A.wf, C.wf, V.i]) ⟨roE_ints (l := 0) rfl (by omega) rfl (.inl rfl), roE_cells (l := 1) rfl (by omega) rfl (.inl rfl), trivial⟩ rfl rfl trivial ?_ | refine CallK.val (R := []) k12 (by kernel_rfl) rfl (by simp [V.wf, A.wf, C.wf, V.i]) ⟨roE_ints (l := 0) rfl (by omega) rfl (.inl rfl), roE_cells (l := 1) rfl (by omega) rfl (.inl rfl), trivial⟩ rfl rfl (by simp [V.wf, A.wf, C.wf]) ?_ | refine br_bf (Eq.refl false) ?_ | refine CallK.m ?_)
                refine Tri.loop (γ := Nat) (fun k => k ≤ bs.length) (fun k => [(1, V.c (.sl 1 bs.length)), (5, V.c (.ptr 4 0)), (12, V.i x), (13, V.i 0), (14, V.c (.bool true)), (23, V.i (totK W cs bs k)), (190, V.c (.sl 1 bs.length)), (191, V.i bs.length), (192, V.i (k : Nat))])
                  (fun k => [⟨4, .own 24, [C.i W, C.i H, .sl 0 cs.length]⟩, ⟨0, .ro 0, cs.map C.i⟩, ⟨1, .ro 2, cellC bs⟩]) 5 (fun k => bs.length - k) 0 (R0 := []) ?_ ?_ ?_
                · omega
                · skip
                  refine ⟨?_, ?_, rfl, rfl, by exact Nat.le_of_ble_eq_true rfl⟩
                  · repeat (first | exact trivial | (refine And.intro (covS_syn (by rfl) rfl (by first | exact trivial | exact Nat.le_of_ble_eq_true rfl)) ?_))
                  · repeat (first | exact trivial | (refine And.intro (covE_id (Nat.le_of_ble_eq_true rfl) (by first | exact wf_ints _ _ | first | exact wf_cells _ _ | simp [C.wf]) rfl (by rfl)) ?_))
                · intro k hkb
                  refine vc_ok tok ?_
                  have hbd := htb k
                  by_cases hlt : k < bs.length
                  · have hld2 := cellT (l := bs) (k := k) rfl hlt
                    have ho := onB_t (hon k hlt)
                    have hidx := idxU_in hok (hon k hlt)
                    have hts := totK_succ (W := W) (cs := cs) hlt
                    obtain ⟨p, hp⟩ : ∃ p, p = bs.getD k (0, 0) := ⟨_, rfl⟩
                    rw [← hp] at hld2 ho hts hidx
                    have hpw : 0 ≤ p.2 * W ∧ p.2 * W ≤ 100 := ⟨Int.mul_nonneg (by omega) (by omega), by have := Int.mul_le_mul (show p.2 ≤ 10 by have := hok.h; omega) hok.w.2 (by omega) (by omega : (0:Int) ≤ 10); omega⟩
                    have he : p.2 * W + p.1 = idxU W p := rfl
                    have hld := intLz (l := cs) (k := (idxU W p).toNat) (z := p.2 * W + p.1) (by omega) (by omega)
                    have hxx := CO.get hok hidx.1 hidx.2.1
                    obtain ⟨y, hye⟩ : ∃ y, y = cs.getD (idxU W p).toNat 0 := ⟨_, rfl⟩
                    rw [← hye] at hld hts hxx
                    repeat ((conv => whnf); first | (refine And.intro (by first | omega | exact Nat.le_of_ble_eq_true rfl | (dsimp only [inK]; omega)) ?_) | with_reducible refine ld (hld2) ?_ | with_reducible refine ld (hld) ?_ | refine Exists.intro _ (And.intro rfl ?_) | refine br_t (by omega) ?_ | refine fun (K' : K3) hK' => ?_ | (refine hK' _ _ _ ?_; clear hK' K'))
                    refine ⟨k + 1, [], by omega, by omega, ?_⟩
                    refine ⟨?_, ?_, rfl, rfl, by exact Nat.le_of_ble_eq_true rfl⟩
                    · repeat (first | exact trivial | (refine And.intro (covS_syn (by first | rfl | (refine congrArg some (congrArg V.i ?_); first | omega | exact hts.symm)) rfl (by first | exact trivial | exact Nat.le_of_ble_eq_true rfl)) ?_))
                    · repeat (first | exact trivial | (refine And.intro (covE_id (Nat.le_of_ble_eq_true rfl) (by first | exact wf_ints _ _ | first | exact wf_cells _ _ | simp [C.wf]) rfl (by rfl)) ?_))
                  · have hkn : k = bs.length := by omega
                    subst hkn
                    repeat ((conv => whnf); first | refine Exists.intro _ (And.intro rfl ?_) | refine br_t (by omega) ?_ | refine br_f (by omega) ?_ | refine fun (K' : K3) hK' => ?_ | (refine hK' _ _ _ ?_; clear hK' K') | refine CallK.cellsE (R := []) k13 (by kernel_rfl) rfl (by simp [V.wf, A.wf, C.wf, V.i]) ⟨roE_ints (l := 0) rfl (by omega) rfl (.inl rfl), roE_cells (l := 1) rfl (by omega) rfl (.inl rfl), trivial⟩ rfl ?_ | refine bs_bf (Eq.refl false) ?_ | refine awake_k ?_ | refine br_bt (Eq.refl true) ?_ | refine CallK.m ?_)
                    intro ρ; rfl
              | false =>
                rw [hk] at k12 k13
                repeat ((conv => whnf); first | refine Exists.intro _ (And.intro rfl ?_) | refine fun (K' : K3) hK' => ?_ | (refine hK' _ _ _ ?_; clear hK' K') | refine CallK.val (R := []) k11 (by kernel_rfl) rfl (by simp [V.wf, A.wf, C.wf, V.i]) ⟨roE_ints (l := 0) rfl (by omega) rfl (.inl rfl), roE_cells (l := 1) rfl (by omega) rfl (.inl rfl), trivial⟩ rfl rfl trivial ?_ | refine CallK.val (R := []) k12 (by kernel_rfl) rfl (by simp [V.wf, A.wf, C.wf, V.i]) ⟨roE_ints (l := 0) rfl (by omega) rfl (.inl rfl), roE_cells (l := 1) rfl (by omega) rfl (.inl rfl), trivial⟩ rfl rfl (by simp [V.wf, A.wf, C.wf]) ?_ | refine br_bf (Eq.refl false) ?_ | refine CallK.m ?_)
                refine Tri.loop (γ := Nat) (fun k => k ≤ bs.length) (fun k => [(1, V.c (.sl 1 bs.length)), (5, V.c (.ptr 4 0)), (12, V.i x), (13, V.i 0), (14, V.c (.bool false)), (23, V.i (totK W cs bs k)), (190, V.c (.sl 1 bs.length)), (191, V.i bs.length), (192, V.i (k : Nat))])
                  (fun k => [⟨4, .own 24, [C.i W, C.i H, .sl 0 cs.length]⟩, ⟨0, .ro 0, cs.map C.i⟩, ⟨1, .ro 2, cellC bs⟩]) 5 (fun k => bs.length - k) 0 (R0 := []) ?_ ?_ ?_
                · omega
                · skip
                  refine ⟨?_, ?_, rfl, rfl, by exact Nat.le_of_ble_eq_true rfl⟩
                  · repeat (first | exact trivial | (refine And.intro (covS_syn (by rfl) rfl (by first | exact trivial | exact Nat.le_of_ble_eq_true rfl)) ?_))
                  · repeat (first | exact trivial | (refine And.intro (covE_id (Nat.le_of_ble_eq_true rfl) (by first | exact wf_ints _ _ | first | exact wf_cells _ _ | simp [C.wf]) rfl (by rfl)) ?_))
                · intro k hkb
                  refine vc_ok tok ?_
                  have hbd := htb k
                  by_cases hlt : k < bs.length
                  · have hld2 := cellT (l := bs) (k := k) rfl hlt
                    have ho := onB_t (hon k hlt)
                    have hidx := idxU_in hok (hon k hlt)
                    have hts := totK_succ (W := W) (cs := cs) hlt
                    obtain ⟨p, hp⟩ : ∃ p, p = bs.getD k (0, 0) := ⟨_, rfl⟩
                    rw [← hp] at hld2 ho hts hidx
                    have hpw : 0 ≤ p.2 * W ∧ p.2 * W ≤ 100 := ⟨Int.mul_nonneg (by omega) (by omega), by have := Int.mul_le_mul (show p.2 ≤ 10 by have := hok.h; omega) hok.w.2 (by omega) (by omega : (0:Int) ≤ 10); omega⟩
                    have he : p.2 * W + p.1 = idxU W p := rfl
                    have hld := intLz (l := cs) (k := (idxU W p).toNat) (z := p.2 * W + p.1) (by omega) (by omega)
                    have hxx := CO.get hok hidx.1 hidx.2.1
                    obtain ⟨y, hye⟩ : ∃ y, y = cs.getD (idxU W p).toNat 0 := ⟨_, rfl⟩
                    rw [← hye] at hld hts hxx
                    repeat ((conv => whnf); first | (refine And.intro (by first | omega | exact Nat.le_of_ble_eq_true rfl | (dsimp only [inK]; omega)) ?_) | with_reducible refine ld (hld2) ?_ | with_reducible refine ld (hld) ?_ | refine Exists.intro _ (And.intro rfl ?_) | refine br_t (by omega) ?_ | refine fun (K' : K3) hK' => ?_ | (refine hK' _ _ _ ?_; clear hK' K'))
                    refine ⟨k + 1, [], by omega, by omega, ?_⟩
                    refine ⟨?_, ?_, rfl, rfl, by exact Nat.le_of_ble_eq_true rfl⟩
                    · repeat (first | exact trivial | (refine And.intro (covS_syn (by first | rfl | (refine congrArg some (congrArg V.i ?_); first | omega | exact hts.symm)) rfl (by first | exact trivial | exact Nat.le_of_ble_eq_true rfl)) ?_))
                    · repeat (first | exact trivial | (refine And.intro (covE_id (Nat.le_of_ble_eq_true rfl) (by first | exact wf_ints _ _ | first | exact wf_cells _ _ | simp [C.wf]) rfl (by rfl)) ?_))
                  · have hkn : k = bs.length := by omega
                    subst hkn
                    repeat ((conv => whnf); first | refine Exists.intro _ (And.intro rfl ?_) | refine br_t (by omega) ?_ | refine br_f (by omega) ?_ | refine fun (K' : K3) hK' => ?_ | (refine hK' _ _ _ ?_; clear hK' K') | refine CallK.cellsE (R := []) k13 (by kernel_rfl) rfl (by simp [V.wf, A.wf, C.wf, V.i]) ⟨roE_ints (l := 0) rfl (by omega) rfl (.inl rfl), roE_cells (l := 1) rfl (by omega) rfl (.inl rfl), trivial⟩ rfl ?_ | refine bs_bt (Eq.refl true) ?_ | refine awake_k ?_ | refine br_bt (Eq.refl true) ?_ | refine CallK.m ?_)
                    intro ρ; rfl
          | false =>
            rw [q1, q2, hb'] at k9
            repeat ((conv => whnf); first | refine Exists.intro _ (And.intro rfl ?_) | refine br_t (by omega) ?_ | refine br_f (by omega) ?_ | refine bs_f (by omega) ?_ | refine fun (K' : K3) hK' => ?_ | (refine hK' _ _ _ ?_; clear hK' K') | refine CallK.val (R := [(0, some 0), (1, some 3)]) k9 (by kernel_rfl) rfl (by simp [V.wf, A.wf, C.wf, V.i]) ⟨roE_ints (l := 0) rfl (by omega) rfl (.inl rfl), roE_ints (l := 3) rfl (by omega) rfl (.inl rfl), trivial⟩ rfl rfl (by simp [V.wf, A.wf, C.wf]) ?_ | refine CallK.val (R := [(0, some 0), (1, some 2)]) k10 (by kernel_rfl) rfl (by simp [V.wf, A.wf, C.wf, V.i]) ⟨roE_ints (l := 0) rfl (by omega) rfl (.inl rfl), roE_cells (l := 2) rfl (by omega) rfl (.inr rfl), trivial⟩ rfl rfl (by simp [V.wf, A.wf, C.wf]) ?_ | refine br_bf (Eq.refl false) ?_ | refine CallK.m ?_)
            cases hB : okB W H cs bs with
            | false =>
              rw [hB] at k11
              repeat ((conv => whnf); first | refine fun (K' : K3) hK' => ?_ | (refine hK' _ _ _ ?_; clear hK' K') | refine CallK.val (R := []) k11 (by kernel_rfl) rfl (by simp [V.wf, A.wf, C.wf, V.i]) ⟨roE_ints (l := 0) rfl (by omega) rfl (.inl rfl), roE_cells (l := 1) rfl (by omega) rfl (.inl rfl), trivial⟩ rfl rfl trivial ?_ | refine br_bt (Eq.refl true) ?_ | refine awake_k ?_ | refine CallK.m ?_)
              intro ρ; rfl
            | true =>
              rw [hB] at k11 k13
              rw [(blB_at hv hB).1, (blB_at hv hB).2, show (chanO W H cs.length (wetB cs (boomF W H bs))).isNone = blkL W H cs bs from rfl] at k12
              have hon := okB_on hW hB
              have hbx' := hbx hB
              cases hk : blkL W H cs bs with
              | true =>
                rw [hk] at k12 k13
                rw [show (if (true && true && true) = true then th else []) = th from rfl, show (if true = true then (if true = true then (if true = true then (0 : Int) else 5) else 2) else 30) = 0 from rfl] at k13
                have hge : totK W cs bs bs.length ≥ x := hbx' (by unfold blkL at hk; rwa [Option.isNone_iff_eq_none] at hk)
                repeat ((conv => whnf); first | refine Exists.intro _ (And.intro rfl ?_) | refine fun (K' : K3) hK' => ?_ | (refine hK' _ _ _ ?_; clear hK' K') | refine CallK.val (R := []) k11 (by kernel_rfl) rfl (by simp [V.wf, A.wf, C.wf, V.i]) ⟨roE_ints (l := 0) rfl (by omega) rfl (.inl rfl), roE_cells (l := 1) rfl (by omega) rfl (.inl rfl), trivial⟩ rfl rfl trivial ?_ | refine CallK.val (R := []) k12 (by kernel_rfl) rfl (by simp [V.wf, A.wf, C.wf, V.i]) ⟨roE_ints (l := 0) rfl (by omega) rfl (.inl rfl), roE_cells (l := 1) rfl (by omega) rfl (.inl rfl), trivial⟩ rfl rfl (by simp [V.wf, A.wf, C.wf]) ?_ | refine br_bf (Eq.refl false) ?_ | refine CallK.m ?_)
                refine Tri.loop (γ := Nat) (fun k => k ≤ bs.length) (fun k => [(1, V.c (.sl 1 bs.length)), (5, V.c (.ptr 4 0)), (12, V.i x), (13, V.i 0), (14, V.c (.bool true)), (23, V.i (totK W cs bs k)), (190, V.c (.sl 1 bs.length)), (191, V.i bs.length), (192, V.i (k : Nat))])
                  (fun k => [⟨4, .own 24, [C.i W, C.i H, .sl 0 cs.length]⟩, ⟨0, .ro 0, cs.map C.i⟩, ⟨1, .ro 2, cellC bs⟩]) 5 (fun k => bs.length - k) 0 (R0 := []) ?_ ?_ ?_
                · omega
                · skip
                  refine ⟨?_, ?_, rfl, rfl, by exact Nat.le_of_ble_eq_true rfl⟩
                  · repeat (first | exact trivial | (refine And.intro (covS_syn (by rfl) rfl (by first | exact trivial | exact Nat.le_of_ble_eq_true rfl)) ?_))
                  · repeat (first | exact trivial | (refine And.intro (covE_id (Nat.le_of_ble_eq_true rfl) (by first | exact wf_ints _ _ | first | exact wf_cells _ _ | simp [C.wf]) rfl (by rfl)) ?_))
                · intro k hkb
                  refine vc_ok tok ?_
                  have hbd := htb k
                  by_cases hlt : k < bs.length
                  · have hld2 := cellT (l := bs) (k := k) rfl hlt
                    have ho := onB_t (hon k hlt)
                    have hidx := idxU_in hok (hon k hlt)
                    have hts := totK_succ (W := W) (cs := cs) hlt
                    obtain ⟨p, hp⟩ : ∃ p, p = bs.getD k (0, 0) := ⟨_, rfl⟩
                    rw [← hp] at hld2 ho hts hidx
                    have hpw : 0 ≤ p.2 * W ∧ p.2 * W ≤ 100 := ⟨Int.mul_nonneg (by omega) (by omega), by have := Int.mul_le_mul (show p.2 ≤ 10 by have := hok.h; omega) hok.w.2 (by omega) (by omega : (0:Int) ≤ 10); omega⟩
                    have he : p.2 * W + p.1 = idxU W p := rfl
                    have hld := intLz (l := cs) (k := (idxU W p).toNat) (z := p.2 * W + p.1) (by omega) (by omega)
                    have hxx := CO.get hok hidx.1 hidx.2.1
                    obtain ⟨y, hye⟩ : ∃ y, y = cs.getD (idxU W p).toNat 0 := ⟨_, rfl⟩
                    rw [← hye] at hld hts hxx
                    repeat ((conv => whnf); first | (refine And.intro (by first | omega | exact Nat.le_of_ble_eq_true rfl | (dsimp only [inK]; omega)) ?_) | with_reducible refine ld (hld2) ?_ | with_reducible refine ld (hld) ?_ | refine Exists.intro _ (And.intro rfl ?_) | refine br_t (by omega) ?_ | refine fun (K' : K3) hK' => ?_ | (refine hK' _ _ _ ?_; clear hK' K'))
                    refine ⟨k + 1, [], by omega, by omega, ?_⟩
                    refine ⟨?_, ?_, rfl, rfl, by exact Nat.le_of_ble_eq_true rfl⟩
                    · repeat (first | exact trivial | (refine And.intro (covS_syn (by first | rfl | (refine congrArg some (congrArg V.i ?_); first | omega | exact hts.symm)) rfl (by first | exact trivial | exact Nat.le_of_ble_eq_true rfl)) ?_))
                    · repeat (first | exact trivial | (refine And.intro (covE_id (Nat.le_of_ble_eq_true rfl) (by first | exact wf_ints _ _ | first | exact wf_cells _ _ | simp [C.wf]) rfl (by rfl)) ?_))
                  · have hkn : k = bs.length := by omega
                    subst hkn
                    repeat ((conv => whnf); first | refine Exists.intro _ (And.intro rfl ?_) | refine br_t (by omega) ?_ | refine br_f (by omega) ?_ | refine fun (K' : K3) hK' => ?_ | (refine hK' _ _ _ ?_; clear hK' K') | refine CallK.cellsE (R := []) k13 (by kernel_rfl) rfl (by simp [V.wf, A.wf, C.wf, V.i]) ⟨roE_ints (l := 0) rfl (by omega) rfl (.inl rfl), roE_cells (l := 1) rfl (by omega) rfl (.inl rfl), trivial⟩ rfl ?_ | refine bs_bf (Eq.refl false) ?_ | refine awake_k ?_ | refine br_bt (Eq.refl true) ?_ | refine CallK.m ?_)
                    intro ρ; rfl
              | false =>
                rw [hk] at k12 k13
                repeat ((conv => whnf); first | refine Exists.intro _ (And.intro rfl ?_) | refine fun (K' : K3) hK' => ?_ | (refine hK' _ _ _ ?_; clear hK' K') | refine CallK.val (R := []) k11 (by kernel_rfl) rfl (by simp [V.wf, A.wf, C.wf, V.i]) ⟨roE_ints (l := 0) rfl (by omega) rfl (.inl rfl), roE_cells (l := 1) rfl (by omega) rfl (.inl rfl), trivial⟩ rfl rfl trivial ?_ | refine CallK.val (R := []) k12 (by kernel_rfl) rfl (by simp [V.wf, A.wf, C.wf, V.i]) ⟨roE_ints (l := 0) rfl (by omega) rfl (.inl rfl), roE_cells (l := 1) rfl (by omega) rfl (.inl rfl), trivial⟩ rfl rfl (by simp [V.wf, A.wf, C.wf]) ?_ | refine br_bf (Eq.refl false) ?_ | refine CallK.m ?_)
                refine Tri.loop (γ := Nat) (fun k => k ≤ bs.length) (fun k => [(1, V.c (.sl 1 bs.length)), (5, V.c (.ptr 4 0)), (12, V.i x), (13, V.i 0), (14, V.c (.bool false)), (23, V.i (totK W cs bs k)), (190, V.c (.sl 1 bs.length)), (191, V.i bs.length), (192, V.i (k : Nat))])
                  (fun k => [⟨4, .own 24, [C.i W, C.i H, .sl 0 cs.length]⟩, ⟨0, .ro 0, cs.map C.i⟩, ⟨1, .ro 2, cellC bs⟩]) 5 (fun k => bs.length - k) 0 (R0 := []) ?_ ?_ ?_
                · omega
                · skip
                  refine ⟨?_, ?_, rfl, rfl, by exact Nat.le_of_ble_eq_true rfl⟩
                  · repeat (first | exact trivial | (refine And.intro (covS_syn (by rfl) rfl (by first | exact trivial | exact Nat.le_of_ble_eq_true rfl)) ?_))
                  · repeat (first | exact trivial | (refine And.intro (covE_id (Nat.le_of_ble_eq_true rfl) (by first | exact wf_ints _ _ | first | exact wf_cells _ _ | simp [C.wf]) rfl (by rfl)) ?_))
                · intro k hkb
                  refine vc_ok tok ?_
                  have hbd := htb k
                  by_cases hlt : k < bs.length
                  · have hld2 := cellT (l := bs) (k := k) rfl hlt
                    have ho := onB_t (hon k hlt)
                    have hidx := idxU_in hok (hon k hlt)
                    have hts := totK_succ (W := W) (cs := cs) hlt
                    obtain ⟨p, hp⟩ : ∃ p, p = bs.getD k (0, 0) := ⟨_, rfl⟩
                    rw [← hp] at hld2 ho hts hidx
                    have hpw : 0 ≤ p.2 * W ∧ p.2 * W ≤ 100 := ⟨Int.mul_nonneg (by omega) (by omega), by have := Int.mul_le_mul (show p.2 ≤ 10 by have := hok.h; omega) hok.w.2 (by omega) (by omega : (0:Int) ≤ 10); omega⟩
                    have he : p.2 * W + p.1 = idxU W p := rfl
                    have hld := intLz (l := cs) (k := (idxU W p).toNat) (z := p.2 * W + p.1) (by omega) (by omega)
                    have hxx := CO.get hok hidx.1 hidx.2.1
                    obtain ⟨y, hye⟩ : ∃ y, y = cs.getD (idxU W p).toNat 0 := ⟨_, rfl⟩
                    rw [← hye] at hld hts hxx
                    repeat ((conv => whnf); first | (refine And.intro (by first | omega | exact Nat.le_of_ble_eq_true rfl | (dsimp only [inK]; omega)) ?_) | with_reducible refine ld (hld2) ?_ | with_reducible refine ld (hld) ?_ | refine Exists.intro _ (And.intro rfl ?_) | refine br_t (by omega) ?_ | refine fun (K' : K3) hK' => ?_ | (refine hK' _ _ _ ?_; clear hK' K'))
                    refine ⟨k + 1, [], by omega, by omega, ?_⟩
                    refine ⟨?_, ?_, rfl, rfl, by exact Nat.le_of_ble_eq_true rfl⟩
                    · repeat (first | exact trivial | (refine And.intro (covS_syn (by first | rfl | (refine congrArg some (congrArg V.i ?_); first | omega | exact hts.symm)) rfl (by first | exact trivial | exact Nat.le_of_ble_eq_true rfl)) ?_))
                    · repeat (first | exact trivial | (refine And.intro (covE_id (Nat.le_of_ble_eq_true rfl) (by first | exact wf_ints _ _ | first | exact wf_cells _ _ | simp [C.wf]) rfl (by rfl)) ?_))
                  · have hkn : k = bs.length := by omega
                    subst hkn
                    repeat ((conv => whnf); first | refine Exists.intro _ (And.intro rfl ?_) | refine br_t (by omega) ?_ | refine br_f (by omega) ?_ | refine fun (K' : K3) hK' => ?_ | (refine hK' _ _ _ ?_; clear hK' K') | refine CallK.cellsE (R := []) k13 (by kernel_rfl) rfl (by simp [V.wf, A.wf, C.wf, V.i]) ⟨roE_ints (l := 0) rfl (by omega) rfl (.inl rfl), roE_cells (l := 1) rfl (by omega) rfl (.inl rfl), trivial⟩ rfl ?_ | refine bs_bt (Eq.refl true) ?_ | refine awake_k ?_ | refine br_bt (Eq.refl true) ?_ | refine CallK.m ?_)
                    intro ρ; rfl
        · rw [q1, q2] at k9
          repeat ((conv => whnf); first | refine Exists.intro _ (And.intro rfl ?_) | refine br_t (by omega) ?_ | refine br_f (by omega) ?_ | refine bs_f (by omega) ?_ | refine fun (K' : K3) hK' => ?_ | (refine hK' _ _ _ ?_; clear hK' K') | refine CallK.val (R := [(0, some 0), (1, some 3)]) k9 (by kernel_rfl) rfl (by simp [V.wf, A.wf, C.wf, V.i]) ⟨roE_ints (l := 0) rfl (by omega) rfl (.inl rfl), roE_ints (l := 3) rfl (by omega) rfl (.inl rfl), trivial⟩ rfl rfl (by simp [V.wf, A.wf, C.wf]) ?_ | refine CallK.val (R := [(0, some 0), (1, some 2)]) k10 (by kernel_rfl) rfl (by simp [V.wf, A.wf, C.wf, V.i]) ⟨roE_ints (l := 0) rfl (by omega) rfl (.inl rfl), roE_cells (l := 2) rfl (by omega) rfl (.inr rfl), trivial⟩ rfl rfl (by simp [V.wf, A.wf, C.wf]) ?_ | refine br_bf (Eq.refl false) ?_ | refine CallK.m ?_)
          cases hB : okB W H cs bs with
          | false =>
            rw [hB] at k11
            repeat ((conv => whnf); first | refine fun (K' : K3) hK' => ?_ | (refine hK' _ _ _ ?_; clear hK' K') | refine CallK.val (R := []) k11 (by kernel_rfl) rfl (by simp [V.wf, A.wf, C.wf, V.i]) ⟨roE_ints (l := 0) rfl (by omega) rfl (.inl rfl), roE_cells (l := 1) rfl (by omega) rfl (.inl rfl), trivial⟩ rfl rfl trivial ?_ | refine br_bt (Eq.refl true) ?_ | refine awake_k ?_ | refine CallK.m ?_)
            intro ρ; rfl
          | true =>
            rw [hB] at k11 k13
            rw [(blB_at hv hB).1, (blB_at hv hB).2, show (chanO W H cs.length (wetB cs (boomF W H bs))).isNone = blkL W H cs bs from rfl] at k12
            have hon := okB_on hW hB
            have hbx' := hbx hB
            cases hk : blkL W H cs bs with
            | true =>
              rw [hk] at k12 k13
              rw [show (if (true && true && true) = true then th else []) = th from rfl, show (if true = true then (if true = true then (if true = true then (0 : Int) else 5) else 2) else 30) = 0 from rfl] at k13
              have hge : totK W cs bs bs.length ≥ x := hbx' (by unfold blkL at hk; rwa [Option.isNone_iff_eq_none] at hk)
              repeat ((conv => whnf); first | refine Exists.intro _ (And.intro rfl ?_) | refine fun (K' : K3) hK' => ?_ | (refine hK' _ _ _ ?_; clear hK' K') | refine CallK.val (R := []) k11 (by kernel_rfl) rfl (by simp [V.wf, A.wf, C.wf, V.i]) ⟨roE_ints (l := 0) rfl (by omega) rfl (.inl rfl), roE_cells (l := 1) rfl (by omega) rfl (.inl rfl), trivial⟩ rfl rfl trivial ?_ | refine CallK.val (R := []) k12 (by kernel_rfl) rfl (by simp [V.wf, A.wf, C.wf, V.i]) ⟨roE_ints (l := 0) rfl (by omega) rfl (.inl rfl), roE_cells (l := 1) rfl (by omega) rfl (.inl rfl), trivial⟩ rfl rfl (by simp [V.wf, A.wf, C.wf]) ?_ | refine br_bf (Eq.refl false) ?_ | refine CallK.m ?_)
              refine Tri.loop (γ := Nat) (fun k => k ≤ bs.length) (fun k => [(1, V.c (.sl 1 bs.length)), (5, V.c (.ptr 4 0)), (12, V.i x), (13, V.i 0), (14, V.c (.bool true)), (23, V.i (totK W cs bs k)), (190, V.c (.sl 1 bs.length)), (191, V.i bs.length), (192, V.i (k : Nat))])
                (fun k => [⟨4, .own 24, [C.i W, C.i H, .sl 0 cs.length]⟩, ⟨0, .ro 0, cs.map C.i⟩, ⟨1, .ro 2, cellC bs⟩]) 5 (fun k => bs.length - k) 0 (R0 := []) ?_ ?_ ?_
              · omega
              · skip
                refine ⟨?_, ?_, rfl, rfl, by exact Nat.le_of_ble_eq_true rfl⟩
                · repeat (first | exact trivial | (refine And.intro (covS_syn (by rfl) rfl (by first | exact trivial | exact Nat.le_of_ble_eq_true rfl)) ?_))
                · repeat (first | exact trivial | (refine And.intro (covE_id (Nat.le_of_ble_eq_true rfl) (by first | exact wf_ints _ _ | first | exact wf_cells _ _ | simp [C.wf]) rfl (by rfl)) ?_))
              · intro k hkb
                refine vc_ok tok ?_
                have hbd := htb k
                by_cases hlt : k < bs.length
                · have hld2 := cellT (l := bs) (k := k) rfl hlt
                  have ho := onB_t (hon k hlt)
                  have hidx := idxU_in hok (hon k hlt)
                  have hts := totK_succ (W := W) (cs := cs) hlt
                  obtain ⟨p, hp⟩ : ∃ p, p = bs.getD k (0, 0) := ⟨_, rfl⟩
                  rw [← hp] at hld2 ho hts hidx
                  have hpw : 0 ≤ p.2 * W ∧ p.2 * W ≤ 100 := ⟨Int.mul_nonneg (by omega) (by omega), by have := Int.mul_le_mul (show p.2 ≤ 10 by have := hok.h; omega) hok.w.2 (by omega) (by omega : (0:Int) ≤ 10); omega⟩
                  have he : p.2 * W + p.1 = idxU W p := rfl
                  have hld := intLz (l := cs) (k := (idxU W p).toNat) (z := p.2 * W + p.1) (by omega) (by omega)
                  have hxx := CO.get hok hidx.1 hidx.2.1
                  obtain ⟨y, hye⟩ : ∃ y, y = cs.getD (idxU W p).toNat 0 := ⟨_, rfl⟩
                  rw [← hye] at hld hts hxx
                  repeat ((conv => whnf); first | (refine And.intro (by first | omega | exact Nat.le_of_ble_eq_true rfl | (dsimp only [inK]; omega)) ?_) | with_reducible refine ld (hld2) ?_ | with_reducible refine ld (hld) ?_ | refine Exists.intro _ (And.intro rfl ?_) | refine br_t (by omega) ?_ | refine fun (K' : K3) hK' => ?_ | (refine hK' _ _ _ ?_; clear hK' K'))
                  refine ⟨k + 1, [], by omega, by omega, ?_⟩
                  refine ⟨?_, ?_, rfl, rfl, by exact Nat.le_of_ble_eq_true rfl⟩
                  · repeat (first | exact trivial | (refine And.intro (covS_syn (by first | rfl | (refine congrArg some (congrArg V.i ?_); first | omega | exact hts.symm)) rfl (by first | exact trivial | exact Nat.le_of_ble_eq_true rfl)) ?_))
                  · repeat (first | exact trivial | (refine And.intro (covE_id (Nat.le_of_ble_eq_true rfl) (by first | exact wf_ints _ _ | first | exact wf_cells _ _ | simp [C.wf]) rfl (by rfl)) ?_))
                · have hkn : k = bs.length := by omega
                  subst hkn
                  repeat ((conv => whnf); first | refine Exists.intro _ (And.intro rfl ?_) | refine br_t (by omega) ?_ | refine br_f (by omega) ?_ | refine fun (K' : K3) hK' => ?_ | (refine hK' _ _ _ ?_; clear hK' K') | refine CallK.cellsE (R := []) k13 (by kernel_rfl) rfl (by simp [V.wf, A.wf, C.wf, V.i]) ⟨roE_ints (l := 0) rfl (by omega) rfl (.inl rfl), roE_cells (l := 1) rfl (by omega) rfl (.inl rfl), trivial⟩ rfl ?_ | refine bs_bf (Eq.refl false) ?_ | refine awake_k ?_ | refine br_bt (Eq.refl true) ?_ | refine CallK.m ?_)
                  intro ρ; rfl
            | false =>
              rw [hk] at k12 k13
              repeat ((conv => whnf); first | refine Exists.intro _ (And.intro rfl ?_) | refine fun (K' : K3) hK' => ?_ | (refine hK' _ _ _ ?_; clear hK' K') | refine CallK.val (R := []) k11 (by kernel_rfl) rfl (by simp [V.wf, A.wf, C.wf, V.i]) ⟨roE_ints (l := 0) rfl (by omega) rfl (.inl rfl), roE_cells (l := 1) rfl (by omega) rfl (.inl rfl), trivial⟩ rfl rfl trivial ?_ | refine CallK.val (R := []) k12 (by kernel_rfl) rfl (by simp [V.wf, A.wf, C.wf, V.i]) ⟨roE_ints (l := 0) rfl (by omega) rfl (.inl rfl), roE_cells (l := 1) rfl (by omega) rfl (.inl rfl), trivial⟩ rfl rfl (by simp [V.wf, A.wf, C.wf]) ?_ | refine br_bf (Eq.refl false) ?_ | refine CallK.m ?_)
              refine Tri.loop (γ := Nat) (fun k => k ≤ bs.length) (fun k => [(1, V.c (.sl 1 bs.length)), (5, V.c (.ptr 4 0)), (12, V.i x), (13, V.i 0), (14, V.c (.bool false)), (23, V.i (totK W cs bs k)), (190, V.c (.sl 1 bs.length)), (191, V.i bs.length), (192, V.i (k : Nat))])
                (fun k => [⟨4, .own 24, [C.i W, C.i H, .sl 0 cs.length]⟩, ⟨0, .ro 0, cs.map C.i⟩, ⟨1, .ro 2, cellC bs⟩]) 5 (fun k => bs.length - k) 0 (R0 := []) ?_ ?_ ?_
              · omega
              · skip
                refine ⟨?_, ?_, rfl, rfl, by exact Nat.le_of_ble_eq_true rfl⟩
                · repeat (first | exact trivial | (refine And.intro (covS_syn (by rfl) rfl (by first | exact trivial | exact Nat.le_of_ble_eq_true rfl)) ?_))
                · repeat (first | exact trivial | (refine And.intro (covE_id (Nat.le_of_ble_eq_true rfl) (by first | exact wf_ints _ _ | first | exact wf_cells _ _ | simp [C.wf]) rfl (by rfl)) ?_))
              · intro k hkb
                refine vc_ok tok ?_
                have hbd := htb k
                by_cases hlt : k < bs.length
                · have hld2 := cellT (l := bs) (k := k) rfl hlt
                  have ho := onB_t (hon k hlt)
                  have hidx := idxU_in hok (hon k hlt)
                  have hts := totK_succ (W := W) (cs := cs) hlt
                  obtain ⟨p, hp⟩ : ∃ p, p = bs.getD k (0, 0) := ⟨_, rfl⟩
                  rw [← hp] at hld2 ho hts hidx
                  have hpw : 0 ≤ p.2 * W ∧ p.2 * W ≤ 100 := ⟨Int.mul_nonneg (by omega) (by omega), by have := Int.mul_le_mul (show p.2 ≤ 10 by have := hok.h; omega) hok.w.2 (by omega) (by omega : (0:Int) ≤ 10); omega⟩
                  have he : p.2 * W + p.1 = idxU W p := rfl
                  have hld := intLz (l := cs) (k := (idxU W p).toNat) (z := p.2 * W + p.1) (by omega) (by omega)
                  have hxx := CO.get hok hidx.1 hidx.2.1
                  obtain ⟨y, hye⟩ : ∃ y, y = cs.getD (idxU W p).toNat 0 := ⟨_, rfl⟩
                  rw [← hye] at hld hts hxx
                  repeat ((conv => whnf); first | (refine And.intro (by first | omega | exact Nat.le_of_ble_eq_true rfl | (dsimp only [inK]; omega)) ?_) | with_reducible refine ld (hld2) ?_ | with_reducible refine ld (hld) ?_ | refine Exists.intro _ (And.intro rfl ?_) | refine br_t (by omega) ?_ | refine fun (K' : K3) hK' => ?_ | (refine hK' _ _ _ ?_; clear hK' K'))
                  refine ⟨k + 1, [], by omega, by omega, ?_⟩
                  refine ⟨?_, ?_, rfl, rfl, by exact Nat.le_of_ble_eq_true rfl⟩
                  · repeat (first | exact trivial | (refine And.intro (covS_syn (by first | rfl | (refine congrArg some (congrArg V.i ?_); first | omega | exact hts.symm)) rfl (by first | exact trivial | exact Nat.le_of_ble_eq_true rfl)) ?_))
                  · repeat (first | exact trivial | (refine And.intro (covE_id (Nat.le_of_ble_eq_true rfl) (by first | exact wf_ints _ _ | first | exact wf_cells _ _ | simp [C.wf]) rfl (by rfl)) ?_))
                · have hkn : k = bs.length := by omega
                  subst hkn
                  repeat ((conv => whnf); first | refine Exists.intro _ (And.intro rfl ?_) | refine br_t (by omega) ?_ | refine br_f (by omega) ?_ | refine fun (K' : K3) hK' => ?_ | (refine hK' _ _ _ ?_; clear hK' K') | refine CallK.cellsE (R := []) k13 (by kernel_rfl) rfl (by simp [V.wf, A.wf, C.wf, V.i]) ⟨roE_ints (l := 0) rfl (by omega) rfl (.inl rfl), roE_cells (l := 1) rfl (by omega) rfl (.inl rfl), trivial⟩ rfl ?_ | refine bs_bt (Eq.refl true) ?_ | refine awake_k ?_ | refine br_bt (Eq.refl true) ?_ | refine CallK.m ?_)
                  intro ρ; rfl
      · clear hcl5
        rcases p9 with ⟨q1, q2⟩ | ⟨q1, q2⟩
        · cases hb' : provP W H cs hs n with
          | true =>
            rw [q1, q2, hb'] at k9
            have hnx : ¬ n > x := by have := hpl hb'; omega
            repeat ((conv => whnf); first | refine Exists.intro _ (And.intro rfl ?_) | refine br_t (by omega) ?_ | refine br_f (by omega) ?_ | refine bs_f (by omega) ?_ | refine fun (K' : K3) hK' => ?_ | (refine hK' _ _ _ ?_; clear hK' K') | refine CallK.val (R := [(0, some 0), (1, some 3)]) k9 (by kernel_rfl) rfl (by simp [V.wf, A.wf, C.wf, V.i]) ⟨roE_ints (l := 0) rfl (by omega) rfl (.inl rfl), roE_ints (l := 3) rfl (by omega) rfl (.inl rfl), trivial⟩ rfl rfl (by simp [V.wf, A.wf, C.wf]) ?_ | refine CallK.val (R := [(0, some 0), (1, some 2)]) k10 (by kernel_rfl) rfl (by simp [V.wf, A.wf, C.wf, V.i]) ⟨roE_ints (l := 0) rfl (by omega) rfl (.inl rfl), roE_cells (l := 2) rfl (by omega) rfl (.inr rfl), trivial⟩ rfl rfl (by simp [V.wf, A.wf, C.wf]) ?_ | refine br_bt (Eq.refl true) ?_ | refine CallK.m ?_)
            cases hB : okB W H cs bs with
            | false =>
              rw [hB] at k11
              repeat ((conv => whnf); first | refine fun (K' : K3) hK' => ?_ | (refine hK' _ _ _ ?_; clear hK' K') | refine CallK.val (R := []) k11 (by kernel_rfl) rfl (by simp [V.wf, A.wf, C.wf, V.i]) ⟨roE_ints (l := 0) rfl (by omega) rfl (.inl rfl), roE_cells (l := 1) rfl (by omega) rfl (.inl rfl), trivial⟩ rfl rfl trivial ?_ | refine br_bt (Eq.refl true) ?_ | refine awake_k ?_ | refine CallK.m ?_)
              intro ρ; rfl
            | true =>
              rw [hB] at k11 k13
              rw [(blB_at hv hB).1, (blB_at hv hB).2, show (chanO W H cs.length (wetB cs (boomF W H bs))).isNone = blkL W H cs bs from rfl] at k12
              have hon := okB_on hW hB
              have hbx' := hbx hB
              cases hk : blkL W H cs bs with
              | true =>
                rw [hk] at k12 k13
                rw [show (if (true && true && true) = true then th else []) = th from rfl, show (if true = true then (if true = true then (if true = true then (0 : Int) else 5) else 2) else 30) = 0 from rfl] at k13
                have hge : totK W cs bs bs.length ≥ x := hbx' (by unfold blkL at hk; rwa [Option.isNone_iff_eq_none] at hk)
                repeat ((conv => whnf); first | refine Exists.intro _ (And.intro rfl ?_) | refine fun (K' : K3) hK' => ?_ | (refine hK' _ _ _ ?_; clear hK' K') | refine CallK.val (R := []) k11 (by kernel_rfl) rfl (by simp [V.wf, A.wf, C.wf, V.i]) ⟨roE_ints (l := 0) rfl (by omega) rfl (.inl rfl), roE_cells (l := 1) rfl (by omega) rfl (.inl rfl), trivial⟩ rfl rfl trivial ?_ | refine CallK.val (R := []) k12 (by kernel_rfl) rfl (by simp [V.wf, A.wf, C.wf, V.i]) ⟨roE_ints (l := 0) rfl (by omega) rfl (.inl rfl), roE_cells (l := 1) rfl (by omega) rfl (.inl rfl), trivial⟩ rfl rfl (by simp [V.wf, A.wf, C.wf]) ?_ | refine br_bf (Eq.refl false) ?_ | refine CallK.m ?_)
                refine Tri.loop (γ := Nat) (fun k => k ≤ bs.length) (fun k => [(1, V.c (.sl 1 bs.length)), (5, V.c (.ptr 4 0)), (12, V.i x), (13, V.i 0), (14, V.c (.bool true)), (23, V.i (totK W cs bs k)), (190, V.c (.sl 1 bs.length)), (191, V.i bs.length), (192, V.i (k : Nat))])
                  (fun k => [⟨4, .own 24, [C.i W, C.i H, .sl 0 cs.length]⟩, ⟨0, .ro 0, cs.map C.i⟩, ⟨1, .ro 2, cellC bs⟩]) 5 (fun k => bs.length - k) 0 (R0 := []) ?_ ?_ ?_
                · omega
                · skip
                  refine ⟨?_, ?_, rfl, rfl, by exact Nat.le_of_ble_eq_true rfl⟩
                  · repeat (first | exact trivial | (refine And.intro (covS_syn (by rfl) rfl (by first | exact trivial | exact Nat.le_of_ble_eq_true rfl)) ?_))
                  · repeat (first | exact trivial | (refine And.intro (covE_id (Nat.le_of_ble_eq_true rfl) (by first | exact wf_ints _ _ | first | exact wf_cells _ _ | simp [C.wf]) rfl (by rfl)) ?_))
                · intro k hkb
                  refine vc_ok tok ?_
                  have hbd := htb k
                  by_cases hlt : k < bs.length
                  · have hld2 := cellT (l := bs) (k := k) rfl hlt
                    have ho := onB_t (hon k hlt)
                    have hidx := idxU_in hok (hon k hlt)
                    have hts := totK_succ (W := W) (cs := cs) hlt
                    obtain ⟨p, hp⟩ : ∃ p, p = bs.getD k (0, 0) := ⟨_, rfl⟩
                    rw [← hp] at hld2 ho hts hidx
                    have hpw : 0 ≤ p.2 * W ∧ p.2 * W ≤ 100 := ⟨Int.mul_nonneg (by omega) (by omega), by have := Int.mul_le_mul (show p.2 ≤ 10 by have := hok.h; omega) hok.w.2 (by omega) (by omega : (0:Int) ≤ 10); omega⟩
                    have he : p.2 * W + p.1 = idxU W p := rfl
                    have hld := intLz (l := cs) (k := (idxU W p).toNat) (z := p.2 * W + p.1) (by omega) (by omega)
                    have hxx := CO.get hok hidx.1 hidx.2.1
                    obtain ⟨y, hye⟩ : ∃ y, y = cs.getD (idxU W p).toNat 0 := ⟨_, rfl⟩
                    rw [← hye] at hld hts hxx
                    repeat ((conv => whnf); first | (refine And.intro (by first | omega | exact Nat.le_of_ble_eq_true rfl | (dsimp only [inK]; omega)) ?_) | with_reducible refine ld (hld2) ?_ | with_reducible refine ld (hld) ?_ | refine Exists.intro _ (And.intro rfl ?_) | refine br_t (by omega) ?_ | refine fun (K' : K3) hK' => ?_ | (refine hK' _ _ _ ?_; clear hK' K'))
                    refine ⟨k + 1, [], by omega, by omega, ?_⟩
                    refine ⟨?_, ?_, rfl, rfl, by exact Nat.le_of_ble_eq_true rfl⟩
                    · repeat (first | exact trivial | (refine And.intro (covS_syn (by first | rfl | (refine congrArg some (congrArg V.i ?_); first | omega | exact hts.symm)) rfl (by first | exact trivial | exact Nat.le_of_ble_eq_true rfl)) ?_))
                    · repeat (first | exact trivial | (refine And.intro (covE_id (Nat.le_of_ble_eq_true rfl) (by first | exact wf_ints _ _ | first | exact wf_cells _ _ | simp [C.wf]) rfl (by rfl)) ?_))
                  · have hkn : k = bs.length := by omega
                    subst hkn
                    repeat ((conv => whnf); first | refine Exists.intro _ (And.intro rfl ?_) | refine br_t (by omega) ?_ | refine br_f (by omega) ?_ | refine fun (K' : K3) hK' => ?_ | (refine hK' _ _ _ ?_; clear hK' K') | refine CallK.cellsE (R := []) k13 (by kernel_rfl) rfl (by simp [V.wf, A.wf, C.wf, V.i]) ⟨roE_ints (l := 0) rfl (by omega) rfl (.inl rfl), roE_cells (l := 1) rfl (by omega) rfl (.inl rfl), trivial⟩ rfl ?_ | refine bs_bf (Eq.refl false) ?_ | refine awake_k ?_ | refine br_bt (Eq.refl true) ?_ | refine CallK.m ?_)
                    intro ρ; rfl
              | false =>
                rw [hk] at k12 k13
                repeat ((conv => whnf); first | refine Exists.intro _ (And.intro rfl ?_) | refine fun (K' : K3) hK' => ?_ | (refine hK' _ _ _ ?_; clear hK' K') | refine CallK.val (R := []) k11 (by kernel_rfl) rfl (by simp [V.wf, A.wf, C.wf, V.i]) ⟨roE_ints (l := 0) rfl (by omega) rfl (.inl rfl), roE_cells (l := 1) rfl (by omega) rfl (.inl rfl), trivial⟩ rfl rfl trivial ?_ | refine CallK.val (R := []) k12 (by kernel_rfl) rfl (by simp [V.wf, A.wf, C.wf, V.i]) ⟨roE_ints (l := 0) rfl (by omega) rfl (.inl rfl), roE_cells (l := 1) rfl (by omega) rfl (.inl rfl), trivial⟩ rfl rfl (by simp [V.wf, A.wf, C.wf]) ?_ | refine br_bf (Eq.refl false) ?_ | refine CallK.m ?_)
                refine Tri.loop (γ := Nat) (fun k => k ≤ bs.length) (fun k => [(1, V.c (.sl 1 bs.length)), (5, V.c (.ptr 4 0)), (12, V.i x), (13, V.i 0), (14, V.c (.bool false)), (23, V.i (totK W cs bs k)), (190, V.c (.sl 1 bs.length)), (191, V.i bs.length), (192, V.i (k : Nat))])
                  (fun k => [⟨4, .own 24, [C.i W, C.i H, .sl 0 cs.length]⟩, ⟨0, .ro 0, cs.map C.i⟩, ⟨1, .ro 2, cellC bs⟩]) 5 (fun k => bs.length - k) 0 (R0 := []) ?_ ?_ ?_
                · omega
                · skip
                  refine ⟨?_, ?_, rfl, rfl, by exact Nat.le_of_ble_eq_true rfl⟩
                  · repeat (first | exact trivial | (refine And.intro (covS_syn (by rfl) rfl (by first | exact trivial | exact Nat.le_of_ble_eq_true rfl)) ?_))
                  · repeat (first | exact trivial | (refine And.intro (covE_id (Nat.le_of_ble_eq_true rfl) (by first | exact wf_ints _ _ | first | exact wf_cells _ _ | simp [C.wf]) rfl (by rfl)) ?_))
                · intro k hkb
                  refine vc_ok tok ?_
                  have hbd := htb k
                  by_cases hlt : k < bs.length
                  · have hld2 := cellT (l := bs) (k := k) rfl hlt
                    have ho := onB_t (hon k hlt)
                    have hidx := idxU_in hok (hon k hlt)
                    have hts := totK_succ (W := W) (cs := cs) hlt
                    obtain ⟨p, hp⟩ : ∃ p, p = bs.getD k (0, 0) := ⟨_, rfl⟩
                    rw [← hp] at hld2 ho hts hidx
                    have hpw : 0 ≤ p.2 * W ∧ p.2 * W ≤ 100 := ⟨Int.mul_nonneg (by omega) (by omega), by have := Int.mul_le_mul (show p.2 ≤ 10 by have := hok.h; omega) hok.w.2 (by omega) (by omega : (0:Int) ≤ 10); omega⟩
                    have he : p.2 * W + p.1 = idxU W p := rfl
                    have hld := intLz (l := cs) (k := (idxU W p).toNat) (z := p.2 * W + p.1) (by omega) (by omega)
                    have hxx := CO.get hok hidx.1 hidx.2.1
                    obtain ⟨y, hye⟩ : ∃ y, y = cs.getD (idxU W p).toNat 0 := ⟨_, rfl⟩
                    rw [← hye] at hld hts hxx
                    repeat ((conv => whnf); first | (refine And.intro (by first | omega | exact Nat.le_of_ble_eq_true rfl | (dsimp only [inK]; omega)) ?_) | with_reducible refine ld (hld2) ?_ | with_reducible refine ld (hld) ?_ | refine Exists.intro _ (And.intro rfl ?_) | refine br_t (by omega) ?_ | refine fun (K' : K3) hK' => ?_ | (refine hK' _ _ _ ?_; clear hK' K'))
                    refine ⟨k + 1, [], by omega, by omega, ?_⟩
                    refine ⟨?_, ?_, rfl, rfl, by exact Nat.le_of_ble_eq_true rfl⟩
                    · repeat (first | exact trivial | (refine And.intro (covS_syn (by first | rfl | (refine congrArg some (congrArg V.i ?_); first | omega | exact hts.symm)) rfl (by first | exact trivial | exact Nat.le_of_ble_eq_true rfl)) ?_))
                    · repeat (first | exact trivial | (refine And.intro (covE_id (Nat.le_of_ble_eq_true rfl) (by first | exact wf_ints _ _ | first | exact wf_cells _ _ | simp [C.wf]) rfl (by rfl)) ?_))
                  · have hkn : k = bs.length := by omega
                    subst hkn
                    repeat ((conv => whnf); first | refine Exists.intro _ (And.intro rfl ?_) | refine br_t (by omega) ?_ | refine br_f (by omega) ?_ | refine fun (K' : K3) hK' => ?_ | (refine hK' _ _ _ ?_; clear hK' K') | refine CallK.cellsE (R := []) k13 (by kernel_rfl) rfl (by simp [V.wf, A.wf, C.wf, V.i]) ⟨roE_ints (l := 0) rfl (by omega) rfl (.inl rfl), roE_cells (l := 1) rfl (by omega) rfl (.inl rfl), trivial⟩ rfl ?_ | refine bs_bt (Eq.refl true) ?_ | refine awake_k ?_ | refine br_bt (Eq.refl true) ?_ | refine CallK.m ?_)
                    intro ρ; rfl
          | false =>
            rw [q1, q2, hb'] at k9
            repeat ((conv => whnf); first | refine Exists.intro _ (And.intro rfl ?_) | refine br_t (by omega) ?_ | refine br_f (by omega) ?_ | refine bs_f (by omega) ?_ | refine fun (K' : K3) hK' => ?_ | (refine hK' _ _ _ ?_; clear hK' K') | refine CallK.val (R := [(0, some 0), (1, some 3)]) k9 (by kernel_rfl) rfl (by simp [V.wf, A.wf, C.wf, V.i]) ⟨roE_ints (l := 0) rfl (by omega) rfl (.inl rfl), roE_ints (l := 3) rfl (by omega) rfl (.inl rfl), trivial⟩ rfl rfl (by simp [V.wf, A.wf, C.wf]) ?_ | refine CallK.val (R := [(0, some 0), (1, some 2)]) k10 (by kernel_rfl) rfl (by simp [V.wf, A.wf, C.wf, V.i]) ⟨roE_ints (l := 0) rfl (by omega) rfl (.inl rfl), roE_cells (l := 2) rfl (by omega) rfl (.inr rfl), trivial⟩ rfl rfl (by simp [V.wf, A.wf, C.wf]) ?_ | refine br_bf (Eq.refl false) ?_ | refine CallK.m ?_)
            cases hB : okB W H cs bs with
            | false =>
              rw [hB] at k11
              repeat ((conv => whnf); first | refine fun (K' : K3) hK' => ?_ | (refine hK' _ _ _ ?_; clear hK' K') | refine CallK.val (R := []) k11 (by kernel_rfl) rfl (by simp [V.wf, A.wf, C.wf, V.i]) ⟨roE_ints (l := 0) rfl (by omega) rfl (.inl rfl), roE_cells (l := 1) rfl (by omega) rfl (.inl rfl), trivial⟩ rfl rfl trivial ?_ | refine br_bt (Eq.refl true) ?_ | refine awake_k ?_ | refine CallK.m ?_)
              intro ρ; rfl
            | true =>
              rw [hB] at k11 k13
              rw [(blB_at hv hB).1, (blB_at hv hB).2, show (chanO W H cs.length (wetB cs (boomF W H bs))).isNone = blkL W H cs bs from rfl] at k12
              have hon := okB_on hW hB
              have hbx' := hbx hB
              cases hk : blkL W H cs bs with
              | true =>
                rw [hk] at k12 k13
                rw [show (if (true && true && true) = true then th else []) = th from rfl, show (if true = true then (if true = true then (if true = true then (0 : Int) else 5) else 2) else 30) = 0 from rfl] at k13
                have hge : totK W cs bs bs.length ≥ x := hbx' (by unfold blkL at hk; rwa [Option.isNone_iff_eq_none] at hk)
                repeat ((conv => whnf); first | refine Exists.intro _ (And.intro rfl ?_) | refine fun (K' : K3) hK' => ?_ | (refine hK' _ _ _ ?_; clear hK' K') | refine CallK.val (R := []) k11 (by kernel_rfl) rfl (by simp [V.wf, A.wf, C.wf, V.i]) ⟨roE_ints (l := 0) rfl (by omega) rfl (.inl rfl), roE_cells (l := 1) rfl (by omega) rfl (.inl rfl), trivial⟩ rfl rfl trivial ?_ | refine CallK.val (R := []) k12 (by kernel_rfl) rfl (by simp [V.wf, A.wf, C.wf, V.i]) ⟨roE_ints (l := 0) rfl (by omega) rfl (.inl rfl), roE_cells (l := 1) rfl (by omega) rfl (.inl rfl), trivial⟩ rfl rfl (by simp [V.wf, A.wf, C.wf]) ?_ | refine br_bf (Eq.refl false) ?_ | refine CallK.m ?_)
                refine Tri.loop (γ := Nat) (fun k => k ≤ bs.length) (fun k => [(1, V.c (.sl 1 bs.length)), (5, V.c (.ptr 4 0)), (12, V.i x), (13, V.i 0), (14, V.c (.bool true)), (23, V.i (totK W cs bs k)), (190, V.c (.sl 1 bs.length)), (191, V.i bs.length), (192, V.i (k : Nat))])
                  (fun k => [⟨4, .own 24, [C.i W, C.i H, .sl 0 cs.length]⟩, ⟨0, .ro 0, cs.map C.i⟩, ⟨1, .ro 2, cellC bs⟩]) 5 (fun k => bs.length - k) 0 (R0 := []) ?_ ?_ ?_
                · omega
                · skip
                  refine ⟨?_, ?_, rfl, rfl, by exact Nat.le_of_ble_eq_true rfl⟩
                  · repeat (first | exact trivial | (refine And.intro (covS_syn (by rfl) rfl (by first | exact trivial | exact Nat.le_of_ble_eq_true rfl)) ?_))
                  · repeat (first | exact trivial | (refine And.intro (covE_id (Nat.le_of_ble_eq_true rfl) (by first | exact wf_ints _ _ | first | exact wf_cells _ _ | simp [C.wf]) rfl (by rfl)) ?_))
                · intro k hkb
                  refine vc_ok tok ?_
                  have hbd := htb k
                  by_cases hlt : k < bs.length
                  · have hld2 := cellT (l := bs) (k := k) rfl hlt
                    have ho := onB_t (hon k hlt)
                    have hidx := idxU_in hok (hon k hlt)
                    have hts := totK_succ (W := W) (cs := cs) hlt
                    obtain ⟨p, hp⟩ : ∃ p, p = bs.getD k (0, 0) := ⟨_, rfl⟩
                    rw [← hp] at hld2 ho hts hidx
                    have hpw : 0 ≤ p.2 * W ∧ p.2 * W ≤ 100 := ⟨Int.mul_nonneg (by omega) (by omega), by have := Int.mul_le_mul (show p.2 ≤ 10 by have := hok.h; omega) hok.w.2 (by omega) (by omega : (0:Int) ≤ 10); omega⟩
                    have he : p.2 * W + p.1 = idxU W p := rfl
                    have hld := intLz (l := cs) (k := (idxU W p).toNat) (z := p.2 * W + p.1) (by omega) (by omega)
                    have hxx := CO.get hok hidx.1 hidx.2.1
                    obtain ⟨y, hye⟩ : ∃ y, y = cs.getD (idxU W p).toNat 0 := ⟨_, rfl⟩
                    rw [← hye] at hld hts hxx
                    repeat ((conv => whnf); first | (refine And.intro (by first | omega | exact Nat.le_of_ble_eq_true rfl | (dsimp only [inK]; omega)) ?_) | with_reducible refine ld (hld2) ?_ | with_reducible refine ld (hld) ?_ | refine Exists.intro _ (And.intro rfl ?_) | refine br_t (by omega) ?_ | refine fun (K' : K3) hK' => ?_ | (refine hK' _ _ _ ?_; clear hK' K'))
                    refine ⟨k + 1, [], by omega, by omega, ?_⟩
                    refine ⟨?_, ?_, rfl, rfl, by exact Nat.le_of_ble_eq_true rfl⟩
                    · repeat (first | exact trivial | (refine And.intro (covS_syn (by first | rfl | (refine congrArg some (congrArg V.i ?_); first | omega | exact hts.symm)) rfl (by first | exact trivial | exact Nat.le_of_ble_eq_true rfl)) ?_))
                    · repeat (first | exact trivial | (refine And.intro (covE_id (Nat.le_of_ble_eq_true rfl) (by first | exact wf_ints _ _ | first | exact wf_cells _ _ | simp [C.wf]) rfl (by rfl)) ?_))
                  · have hkn : k = bs.length := by omega
                    subst hkn
                    repeat ((conv => whnf); first | refine Exists.intro _ (And.intro rfl ?_) | refine br_t (by omega) ?_ | refine br_f (by omega) ?_ | refine fun (K' : K3) hK' => ?_ | (refine hK' _ _ _ ?_; clear hK' K') | refine CallK.cellsE (R := []) k13 (by kernel_rfl) rfl (by simp [V.wf, A.wf, C.wf, V.i]) ⟨roE_ints (l := 0) rfl (by omega) rfl (.inl rfl), roE_cells (l := 1) rfl (by omega) rfl (.inl rfl), trivial⟩ rfl ?_ | refine bs_bf (Eq.refl false) ?_ | refine awake_k ?_ | refine br_bt (Eq.refl true) ?_ | refine CallK.m ?_)
                    intro ρ; rfl
              | false =>
                rw [hk] at k12 k13
                repeat ((conv => whnf); first | refine Exists.intro _ (And.intro rfl ?_) | refine fun (K' : K3) hK' => ?_ | (refine hK' _ _ _ ?_; clear hK' K') | refine CallK.val (R := []) k11 (by kernel_rfl) rfl (by simp [V.wf, A.wf, C.wf, V.i]) ⟨roE_ints (l := 0) rfl (by omega) rfl (.inl rfl), roE_cells (l := 1) rfl (by omega) rfl (.inl rfl), trivial⟩ rfl rfl trivial ?_ | refine CallK.val (R := []) k12 (by kernel_rfl) rfl (by simp [V.wf, A.wf, C.wf, V.i]) ⟨roE_ints (l := 0) rfl (by omega) rfl (.inl rfl), roE_cells (l := 1) rfl (by omega) rfl (.inl rfl), trivial⟩ rfl rfl (by simp [V.wf, A.wf, C.wf]) ?_ | refine br_bf (Eq.refl false) ?_ | refine CallK.m ?_)
                refine Tri.loop (γ := Nat) (fun k => k ≤ bs.length) (fun k => [(1, V.c (.sl 1 bs.length)), (5, V.c (.ptr 4 0)), (12, V.i x), (13, V.i 0), (14, V.c (.bool false)), (23, V.i (totK W cs bs k)), (190, V.c (.sl 1 bs.length)), (191, V.i bs.length), (192, V.i (k : Nat))])
                  (fun k => [⟨4, .own 24, [C.i W, C.i H, .sl 0 cs.length]⟩, ⟨0, .ro 0, cs.map C.i⟩, ⟨1, .ro 2, cellC bs⟩]) 5 (fun k => bs.length - k) 0 (R0 := []) ?_ ?_ ?_
                · omega
                · skip
                  refine ⟨?_, ?_, rfl, rfl, by exact Nat.le_of_ble_eq_true rfl⟩
                  · repeat (first | exact trivial | (refine And.intro (covS_syn (by rfl) rfl (by first | exact trivial | exact Nat.le_of_ble_eq_true rfl)) ?_))
                  · repeat (first | exact trivial | (refine And.intro (covE_id (Nat.le_of_ble_eq_true rfl) (by first | exact wf_ints _ _ | first | exact wf_cells _ _ | simp [C.wf]) rfl (by rfl)) ?_))
                · intro k hkb
                  refine vc_ok tok ?_
                  have hbd := htb k
                  by_cases hlt : k < bs.length
                  · have hld2 := cellT (l := bs) (k := k) rfl hlt
                    have ho := onB_t (hon k hlt)
                    have hidx := idxU_in hok (hon k hlt)
                    have hts := totK_succ (W := W) (cs := cs) hlt
                    obtain ⟨p, hp⟩ : ∃ p, p = bs.getD k (0, 0) := ⟨_, rfl⟩
                    rw [← hp] at hld2 ho hts hidx
                    have hpw : 0 ≤ p.2 * W ∧ p.2 * W ≤ 100 := ⟨Int.mul_nonneg (by omega) (by omega), by have := Int.mul_le_mul (show p.2 ≤ 10 by have := hok.h; omega) hok.w.2 (by omega) (by omega : (0:Int) ≤ 10); omega⟩
                    have he : p.2 * W + p.1 = idxU W p := rfl
                    have hld := intLz (l := cs) (k := (idxU W p).toNat) (z := p.2 * W + p.1) (by omega) (by omega)
                    have hxx := CO.get hok hidx.1 hidx.2.1
                    obtain ⟨y, hye⟩ : ∃ y, y = cs.getD (idxU W p).toNat 0 := ⟨_, rfl⟩
                    rw [← hye] at hld hts hxx
                    repeat ((conv => whnf); first | (refine And.intro (by first | omega | exact Nat.le_of_ble_eq_true rfl | (dsimp only [inK]; omega)) ?_) | with_reducible refine ld (hld2) ?_ | with_reducible refine ld (hld) ?_ | refine Exists.intro _ (And.intro rfl ?_) | refine br_t (by omega) ?_ | refine fun (K' : K3) hK' => ?_ | (refine hK' _ _ _ ?_; clear hK' K'))
                    refine ⟨k + 1, [], by omega, by omega, ?_⟩
                    refine ⟨?_, ?_, rfl, rfl, by exact Nat.le_of_ble_eq_true rfl⟩
                    · repeat (first | exact trivial | (refine And.intro (covS_syn (by first | rfl | (refine congrArg some (congrArg V.i ?_); first | omega | exact hts.symm)) rfl (by first | exact trivial | exact Nat.le_of_ble_eq_true rfl)) ?_))
                    · repeat (first | exact trivial | (refine And.intro (covE_id (Nat.le_of_ble_eq_true rfl) (by first | exact wf_ints _ _ | first | exact wf_cells _ _ | simp [C.wf]) rfl (by rfl)) ?_))
                  · have hkn : k = bs.length := by omega
                    subst hkn
                    repeat ((conv => whnf); first | refine Exists.intro _ (And.intro rfl ?_) | refine br_t (by omega) ?_ | refine br_f (by omega) ?_ | refine fun (K' : K3) hK' => ?_ | (refine hK' _ _ _ ?_; clear hK' K') | refine CallK.cellsE (R := []) k13 (by kernel_rfl) rfl (by simp [V.wf, A.wf, C.wf, V.i]) ⟨roE_ints (l := 0) rfl (by omega) rfl (.inl rfl), roE_cells (l := 1) rfl (by omega) rfl (.inl rfl), trivial⟩ rfl ?_ | refine bs_bt (Eq.refl true) ?_ | refine awake_k ?_ | refine br_bt (Eq.refl true) ?_ | refine CallK.m ?_)
                    intro ρ; rfl
        · rw [q1, q2] at k9
          repeat ((conv => whnf); first | refine Exists.intro _ (And.intro rfl ?_) | refine br_t (by omega) ?_ | refine br_f (by omega) ?_ | refine bs_f (by omega) ?_ | refine fun (K' : K3) hK' => ?_ | (refine hK' _ _ _ ?_; clear hK' K') | refine CallK.val (R := [(0, some 0), (1, some 3)]) k9 (by kernel_rfl) rfl (by simp [V.wf, A.wf, C.wf, V.i]) ⟨roE_ints (l := 0) rfl (by omega) rfl (.inl rfl), roE_ints (l := 3) rfl (by omega) rfl (.inl rfl), trivial⟩ rfl rfl (by simp [V.wf, A.wf, C.wf]) ?_ | refine CallK.val (R := [(0, some 0), (1, some 2)]) k10 (by kernel_rfl) rfl (by simp [V.wf, A.wf, C.wf, V.i]) ⟨roE_ints (l := 0) rfl (by omega) rfl (.inl rfl), roE_cells (l := 2) rfl (by omega) rfl (.inr rfl), trivial⟩ rfl rfl (by simp [V.wf, A.wf, C.wf]) ?_ | refine br_bf (Eq.refl false) ?_ | refine CallK.m ?_)
          cases hB : okB W H cs bs with
          | false =>
            rw [hB] at k11
            repeat ((conv => whnf); first | refine fun (K' : K3) hK' => ?_ | (refine hK' _ _ _ ?_; clear hK' K') | refine CallK.val (R := []) k11 (by kernel_rfl) rfl (by simp [V.wf, A.wf, C.wf, V.i]) ⟨roE_ints (l := 0) rfl (by omega) rfl (.inl rfl), roE_cells (l := 1) rfl (by omega) rfl (.inl rfl), trivial⟩ rfl rfl trivial ?_ | refine br_bt (Eq.refl true) ?_ | refine awake_k ?_ | refine CallK.m ?_)
            intro ρ; rfl
          | true =>
            rw [hB] at k11 k13
            rw [(blB_at hv hB).1, (blB_at hv hB).2, show (chanO W H cs.length (wetB cs (boomF W H bs))).isNone = blkL W H cs bs from rfl] at k12
            have hon := okB_on hW hB
            have hbx' := hbx hB
            cases hk : blkL W H cs bs with
            | true =>
              rw [hk] at k12 k13
              rw [show (if (true && true && true) = true then th else []) = th from rfl, show (if true = true then (if true = true then (if true = true then (0 : Int) else 5) else 2) else 30) = 0 from rfl] at k13
              have hge : totK W cs bs bs.length ≥ x := hbx' (by unfold blkL at hk; rwa [Option.isNone_iff_eq_none] at hk)
              repeat ((conv => whnf); first | refine Exists.intro _ (And.intro rfl ?_) | refine fun (K' : K3) hK' => ?_ | (refine hK' _ _ _ ?_; clear hK' K') | refine CallK.val (R := []) k11 (by kernel_rfl) rfl (by simp [V.wf, A.wf, C.wf, V.i]) ⟨roE_ints (l := 0) rfl (by omega) rfl (.inl rfl), roE_cells (l := 1) rfl (by omega) rfl (.inl rfl), trivial⟩ rfl rfl trivial ?_ | refine CallK.val (R := []) k12 (by kernel_rfl) rfl (by simp [V.wf, A.wf, C.wf, V.i]) ⟨roE_ints (l := 0) rfl (by omega) rfl (.inl rfl), roE_cells (l := 1) rfl (by omega) rfl (.inl rfl), trivial⟩ rfl rfl (by simp [V.wf, A.wf, C.wf]) ?_ | refine br_bf (Eq.refl false) ?_ | refine CallK.m ?_)
              refine Tri.loop (γ := Nat) (fun k => k ≤ bs.length) (fun k => [(1, V.c (.sl 1 bs.length)), (5, V.c (.ptr 4 0)), (12, V.i x), (13, V.i 0), (14, V.c (.bool true)), (23, V.i (totK W cs bs k)), (190, V.c (.sl 1 bs.length)), (191, V.i bs.length), (192, V.i (k : Nat))])
                (fun k => [⟨4, .own 24, [C.i W, C.i H, .sl 0 cs.length]⟩, ⟨0, .ro 0, cs.map C.i⟩, ⟨1, .ro 2, cellC bs⟩]) 5 (fun k => bs.length - k) 0 (R0 := []) ?_ ?_ ?_
              · omega
              · skip
                refine ⟨?_, ?_, rfl, rfl, by exact Nat.le_of_ble_eq_true rfl⟩
                · repeat (first | exact trivial | (refine And.intro (covS_syn (by rfl) rfl (by first | exact trivial | exact Nat.le_of_ble_eq_true rfl)) ?_))
                · repeat (first | exact trivial | (refine And.intro (covE_id (Nat.le_of_ble_eq_true rfl) (by first | exact wf_ints _ _ | first | exact wf_cells _ _ | simp [C.wf]) rfl (by rfl)) ?_))
              · intro k hkb
                refine vc_ok tok ?_
                have hbd := htb k
                by_cases hlt : k < bs.length
                · have hld2 := cellT (l := bs) (k := k) rfl hlt
                  have ho := onB_t (hon k hlt)
                  have hidx := idxU_in hok (hon k hlt)
                  have hts := totK_succ (W := W) (cs := cs) hlt
                  obtain ⟨p, hp⟩ : ∃ p, p = bs.getD k (0, 0) := ⟨_, rfl⟩
                  rw [← hp] at hld2 ho hts hidx
                  have hpw : 0 ≤ p.2 * W ∧ p.2 * W ≤ 100 := ⟨Int.mul_nonneg (by omega) (by omega), by have := Int.mul_le_mul (show p.2 ≤ 10 by have := hok.h; omega) hok.w.2 (by omega) (by omega : (0:Int) ≤ 10); omega⟩
                  have he : p.2 * W + p.1 = idxU W p := rfl
                  have hld := intLz (l := cs) (k := (idxU W p).toNat) (z := p.2 * W + p.1) (by omega) (by omega)
                  have hxx := CO.get hok hidx.1 hidx.2.1
                  obtain ⟨y, hye⟩ : ∃ y, y = cs.getD (idxU W p).toNat 0 := ⟨_, rfl⟩
                  rw [← hye] at hld hts hxx
                  repeat ((conv => whnf); first | (refine And.intro (by first | omega | exact Nat.le_of_ble_eq_true rfl | (dsimp only [inK]; omega)) ?_) | with_reducible refine ld (hld2) ?_ | with_reducible refine ld (hld) ?_ | refine Exists.intro _ (And.intro rfl ?_) | refine br_t (by omega) ?_ | refine fun (K' : K3) hK' => ?_ | (refine hK' _ _ _ ?_; clear hK' K'))
                  refine ⟨k + 1, [], by omega, by omega, ?_⟩
                  refine ⟨?_, ?_, rfl, rfl, by exact Nat.le_of_ble_eq_true rfl⟩
                  · repeat (first | exact trivial | (refine And.intro (covS_syn (by first | rfl | (refine congrArg some (congrArg V.i ?_); first | omega | exact hts.symm)) rfl (by first | exact trivial | exact Nat.le_of_ble_eq_true rfl)) ?_))
                  · repeat (first | exact trivial | (refine And.intro (covE_id (Nat.le_of_ble_eq_true rfl) (by first | exact wf_ints _ _ | first | exact wf_cells _ _ | simp [C.wf]) rfl (by rfl)) ?_))
                · have hkn : k = bs.length := by omega
                  subst hkn
                  repeat ((conv => whnf); first | refine Exists.intro _ (And.intro rfl ?_) | refine br_t (by omega) ?_ | refine br_f (by omega) ?_ | refine fun (K' : K3) hK' => ?_ | (refine hK' _ _ _ ?_; clear hK' K') | refine CallK.cellsE (R := []) k13 (by kernel_rfl) rfl (by simp [V.wf, A.wf, C.wf, V.i]) ⟨roE_ints (l := 0) rfl (by omega) rfl (.inl rfl), roE_cells (l := 1) rfl (by omega) rfl (.inl rfl), trivial⟩ rfl ?_ | refine bs_bf (Eq.refl false) ?_ | refine awake_k ?_ | refine br_bt (Eq.refl true) ?_ | refine CallK.m ?_)
                  intro ρ; rfl
            | false =>
              rw [hk] at k12 k13
              repeat ((conv => whnf); first | refine Exists.intro _ (And.intro rfl ?_) | refine fun (K' : K3) hK' => ?_ | (refine hK' _ _ _ ?_; clear hK' K') | refine CallK.val (R := []) k11 (by kernel_rfl) rfl (by simp [V.wf, A.wf, C.wf, V.i]) ⟨roE_ints (l := 0) rfl (by omega) rfl (.inl rfl), roE_cells (l := 1) rfl (by omega) rfl (.inl rfl), trivial⟩ rfl rfl trivial ?_ | refine CallK.val (R := []) k12 (by kernel_rfl) rfl (by simp [V.wf, A.wf, C.wf, V.i]) ⟨roE_ints (l := 0) rfl (by omega) rfl (.inl rfl), roE_cells (l := 1) rfl (by omega) rfl (.inl rfl), trivial⟩ rfl rfl (by simp [V.wf, A.wf, C.wf]) ?_ | refine br_bf (Eq.refl false) ?_ | refine CallK.m ?_)
              refine Tri.loop (γ := Nat) (fun k => k ≤ bs.length) (fun k => [(1, V.c (.sl 1 bs.length)), (5, V.c (.ptr 4 0)), (12, V.i x), (13, V.i 0), (14, V.c (.bool false)), (23, V.i (totK W cs bs k)), (190, V.c (.sl 1 bs.length)), (191, V.i bs.length), (192, V.i (k : Nat))])
                (fun k => [⟨4, .own 24, [C.i W, C.i H, .sl 0 cs.length]⟩, ⟨0, .ro 0, cs.map C.i⟩, ⟨1, .ro 2, cellC bs⟩]) 5 (fun k => bs.length - k) 0 (R0 := []) ?_ ?_ ?_
              · omega
              · skip
                refine ⟨?_, ?_, rfl, rfl, by exact Nat.le_of_ble_eq_true rfl⟩
                · repeat (first | exact trivial | (refine And.intro (covS_syn (by rfl) rfl (by first | exact trivial | exact Nat.le_of_ble_eq_true rfl)) ?_))
                · repeat (first | exact trivial | (refine And.intro (covE_id (Nat.le_of_ble_eq_true rfl) (by first | exact wf_ints _ _ | first | exact wf_cells _ _ | simp [C.wf]) rfl (by rfl)) ?_))
              · intro k hkb
                refine vc_ok tok ?_
                have hbd := htb k
                by_cases hlt : k < bs.length
                · have hld2 := cellT (l := bs) (k := k) rfl hlt
                  have ho := onB_t (hon k hlt)
                  have hidx := idxU_in hok (hon k hlt)
                  have hts := totK_succ (W := W) (cs := cs) hlt
                  obtain ⟨p, hp⟩ : ∃ p, p = bs.getD k (0, 0) := ⟨_, rfl⟩
                  rw [← hp] at hld2 ho hts hidx
                  have hpw : 0 ≤ p.2 * W ∧ p.2 * W ≤ 100 := ⟨Int.mul_nonneg (by omega) (by omega), by have := Int.mul_le_mul (show p.2 ≤ 10 by have := hok.h; omega) hok.w.2 (by omega) (by omega : (0:Int) ≤ 10); omega⟩
                  have he : p.2 * W + p.1 = idxU W p := rfl
                  have hld := intLz (l := cs) (k := (idxU W p).toNat) (z := p.2 * W + p.1) (by omega) (by omega)
                  have hxx := CO.get hok hidx.1 hidx.2.1
                  obtain ⟨y, hye⟩ : ∃ y, y = cs.getD (idxU W p).toNat 0 := ⟨_, rfl⟩
                  rw [← hye] at hld hts hxx
                  repeat ((conv => whnf); first | (refine And.intro (by first | omega | exact Nat.le_of_ble_eq_true rfl | (dsimp only [inK]; omega)) ?_) | with_reducible refine ld (hld2) ?_ | with_reducible refine ld (hld) ?_ | refine Exists.intro _ (And.intro rfl ?_) | refine br_t (by omega) ?_ | refine fun (K' : K3) hK' => ?_ | (refine hK' _ _ _ ?_; clear hK' K'))
                  refine ⟨k + 1, [], by omega, by omega, ?_⟩
                  refine ⟨?_, ?_, rfl, rfl, by exact Nat.le_of_ble_eq_true rfl⟩
                  · repeat (first | exact trivial | (refine And.intro (covS_syn (by first | rfl | (refine congrArg some (congrArg V.i ?_); first | omega | exact hts.symm)) rfl (by first | exact trivial | exact Nat.le_of_ble_eq_true rfl)) ?_))
                  · repeat (first | exact trivial | (refine And.intro (covE_id (Nat.le_of_ble_eq_true rfl) (by first | exact wf_ints _ _ | first | exact wf_cells _ _ | simp [C.wf]) rfl (by rfl)) ?_))
                · have hkn : k = bs.length := by omega
                  subst hkn
                  repeat ((conv => whnf); first | refine Exists.intro _ (And.intro rfl ?_) | refine br_t (by omega) ?_ | refine br_f (by omega) ?_ | refine fun (K' : K3) hK' => ?_ | (refine hK' _ _ _ ?_; clear hK' K') | refine CallK.cellsE (R := []) k13 (by kernel_rfl) rfl (by simp [V.wf, A.wf, C.wf, V.i]) ⟨roE_ints (l := 0) rfl (by omega) rfl (.inl rfl), roE_cells (l := 1) rfl (by omega) rfl (.inl rfl), trivial⟩ rfl ?_ | refine bs_bt (Eq.refl true) ?_ | refine awake_k ?_ | refine br_bt (Eq.refl true) ?_ | refine CallK.m ?_)
                  intro ρ; rfl
theorem hp_4 {W : World} {cs hs : List Int} {bs l : List Cell} {ao bo co fo : Option Addr} {c d e f : Nat} (h : IntsAt W ao cs) (h1 : CellsAt W bo d bs) (h2 : CellsAt W co e l) (h3 : IntsAt W fo hs) : Hp W.heap.size (envL [(ao, c), (bo, d), (co, e), (fo, f)]) W [⟨0, .ro 0, cs.map C.i⟩, ⟨1, .ro 2, cellC bs⟩, ⟨2, .ro 2, cellC l⟩, ⟨3, .ro 0, hs.map C.i⟩] 4 := by
  refine Hp.rosz (fun x hx => ?_) rfl
  simp only [List.mem_cons, List.not_mem_nil, or_false] at hx
  rcases hx with rfl | rfl | rfl | rfl
  · exact ent_ints h (by show 0 < 4; omega) rfl
  · exact ent_cells h1 (by show 1 < 4; omega) rfl
  · exact ent_cells h2 (by show 2 < 4; omega) rfl
  · exact ent_ints h3 (by show 3 < 4; omega) rfl
theorem top_any (W H : Int) (cs : List Int) (bs l : List Cell) (hs : List Int) (n : Int) (hn : -9223372036854775808 ≤ n ∧ n ≤ 9223372036854775807) (ao : Option Addr) (c : Nat) (bo : Option Addr) (d : Nat) (co : Option Addr) (e : Nat) (fo : Option Addr) (f : Nat) (w : World) (h : IntsAt w ao cs) (h1 : CellsAt w bo d bs) (h2 : CellsAt w co e l) (h3 : IntsAt w fo hs) :
    Calls Try.prog 15 #[.agg #[.int .i64 W, .int .i64 H, .slice ao cs.length c], .slice bo bs.length d, .slice co l.length e, .slice fo hs.length f, .int .i64 n] w fun e w' => e = .returned (.bool true) ∧ Below w.heap.size w w' := by
  by_cases hl : (cs.length : Int) > 300 ∨ (bs.length : Int) > 250 ∨ (l.length : Int) > 250 ∨ (hs.length : Int) > 300
  · exact isTrue_any (vs := [chR W H cs.length, V.c (.sl 1 bs.length), V.c (.sl 2 l.length), V.c (.sl 3 hs.length), V.i n]) (top_long W H cs bs l hs n h.2 h1.2.2 h2.2.2 h3.2 hl) (hp_4 h h1 h2 h3) (by simp [V.wf, A.wf, C.wf, V.i]) rfl
  · exact isTrue_any (vs := [chR W H cs.length, V.c (.sl 1 bs.length), V.c (.sl 2 l.length), V.c (.sl 3 hs.length), V.i n]) (top_spec W H cs bs l hs n hn (fun e => hl (.inl e)) (fun e => hl (.inr (.inl e))) (fun e => hl (.inr (.inr (.inl e)))) (fun e => hl (.inr (.inr (.inr e))))) (hp_4 h h1 h2 h3) (by simp [V.wf, A.wf, C.wf, V.i]) rfl
end Go.Proofs.Ytbhpnhcdjmcaoaa

/- Five things that are handed in. -/
namespace Go.Proofs.Ytbhpnhcdjmcaoaa
open Go.RowKit
set_option linter.unusedVariables false
set_option linter.unusedSimpArgs false
section
open Go.ChangeShapes Go.RowKit
variable {H : Type} {enc : TypeId × Value → H} {P : Program} {w : World} {base : Nat} {spare : Nat → Bool} {held : Bool}
theorem trodAll_five {t t' t'' t3 t4 : TypeId} {args : Array Value} {ds : List (DataW H)} {ps : List MemPlace} (h : DataW.TrodAll enc P w base spare held [t, t', t'', t3, t4] args.toList ds ps) :
    ∃ v v' v'' v3 v4 d d' d'' d3 d4 p p' p'' p3 p4, args = #[v, v', v'', v3, v4] ∧ ds = [d, d', d'', d3, d4] ∧ ps = p ++ p' ++ p'' ++ p3 ++ p4 ∧ DataW.Trod enc P w base spare held t v d p ∧ DataW.Trod enc P w base spare held t' v' d' p' ∧ DataW.Trod enc P w base spare held t'' v'' d'' p'' ∧ DataW.Trod enc P w base spare held t3 v3 d3 p3 ∧ DataW.Trod enc P w base spare held t4 v4 d4 p4 := by
  obtain ⟨v, vs, d, ds', p, q, hargs, rfl, rfl, hd, hrest⟩ := trodAll_cons h
  obtain ⟨v', vs', d', ds'', p', q', rfl, rfl, rfl, hd', hrest'⟩ := trodAll_cons hrest
  obtain ⟨v'', vs'', d'', ds''', p'', q'', rfl, rfl, rfl, hd'', hrest''⟩ := trodAll_cons hrest'
  obtain ⟨v3, vs3, d3, ds3, p3, q3, rfl, rfl, rfl, hd3, hrest3⟩ := trodAll_cons hrest''
  obtain ⟨v4, vs4, d4, ds4, p4, q4, rfl, rfl, rfl, hd4, hrest4⟩ := trodAll_cons hrest3
  obtain ⟨rfl, rfl, rfl⟩ := trodAll_nil hrest4
  exact ⟨v, v', v'', v3, v4, d, d', d'', d3, d4, p, p', p'', p3, p4, by cases args; simp_all, rfl, by simp, hd, hd', hd'', hd3, hd4⟩
theorem trodAll_mk5 {t t' t'' t3 t4 : TypeId} {v v' v'' v3 v4 : Value} {d d' d'' d3 d4 : DataW H} {p p' p'' p3 p4 : List MemPlace} (h : DataW.Trod enc P w base spare held t v d p) (h' : DataW.Trod enc P w base spare held t' v' d' p')
    (h'' : DataW.Trod enc P w base spare held t'' v'' d'' p'') (h3 : DataW.Trod enc P w base spare held t3 v3 d3 p3) (h4 : DataW.Trod enc P w base spare held t4 v4 d4 p4) : DataW.TrodAll enc P w base spare held [t, t', t'', t3, t4] [v, v', v'', v3, v4] [d, d', d'', d3, d4] (p ++ (p' ++ (p'' ++ (p3 ++ p4)))) := ⟨p, p' ++ (p'' ++ (p3 ++ p4)), h, trodAll_mk4 h' h'' h3 h4, rfl⟩
end
end Go.Proofs.Ytbhpnhcdjmcaoaa

