/- Texts of the proof, part 5: T2, T3, D4, D5, L10. -/
import Derived.Test.YtbhpnhcdjmcaoaaU4
import Derived.WalkKit
import Derived.Below
import Derived.Laws.OwnMore
import Derived.Maps.AppendAt
import Derived.Laws.IdiomCopy
import Derived.Laws.CopyRow
import Derived.IntWalk
import Derived.StillTail
import Derived.Scope
import Derived.ChangeKeysEq
import Derived.Laws.Small
import Derived.OrdersIn
import Derived.TacticsIn
import Derived.OwnWalkIn
import Derived.RangeFuncNested
import Derived.RangeFuncLeaves
import Derived.RangeFuncRecord
import Derived.Maps.Keyed
import Derived.Maps.RangeRun
import Derived.DeepKeys4
import Derived.Test.YtbhpnhcdjmcaoaaRows
import Derived.KernelRfl
import Derived.ProofKit
import Derived.OpenShut
import Derived.Lib.SmallJoins
import Derived.Deep.Slices
import Derived.PlainAid
import Derived.StillTailTactics
import Derived.WalkSpells
import Derived.OwnWalk
import Derived.Deep.RegionLaw
import Derived.Lib.SliceRun
/- slices.Clone, slices.Delete, slices.Backward at cells: calls of the calculus. -/
namespace Go.Proofs.Ytbhpnhcdjmcaoaa
open Go.RowKit
set_option linter.unusedVariables false
set_option linter.unusedSimpArgs false
theorem own_baseC {w : World} {b b' e sz n : Nat} {v : Value} {xs : List Value} (h : w.ownsRow b e sz v n xs) (hb : b' ≤ b) : w.ownsRow b' e sz v n xs := by
  obtain ⟨h1, h2 | ⟨g, cap, cur, hv, hg, hh, hn, hm, hs, ht⟩⟩ := h
  · exact ⟨h1, .inl h2⟩
  · exact ⟨h1, .inr ⟨g, cap, cur, hv, by omega, hh, hn, hm, hs, ht⟩⟩
theorem own_sliceC {w : World} {base n : Nat} {v : Value} {xs : List Value} (h : w.ownsRow base 57 2 v n xs) : ∃ ao c, v = .slice ao n c ∧ ∀ a, ao = some a → base ≤ a.block := by
  obtain ⟨h1, ⟨rfl, h2⟩ | ⟨g, cap, cur, rfl, hb, hh, hn, hm, hs, ht⟩⟩ := h
  · exact ⟨none, 0, by rw [h2], fun a ha => by cases ha⟩
  · exact ⟨_, _, rfl, fun a ha => by cases ha; exact hb⟩
theorem ro_getC {w : World} {ao : Option Addr} {l : List Value} {k : Nat} (h : RoAt w ao l) (hk : k < l.length) : ∃ b off, ao = some ⟨b, off, none⟩ ∧ b < w.heap.size ∧ w.cell? ⟨b, off + k, none⟩ = some (l.getD k undef) := by
  obtain ⟨b, off, h1, h2, h3⟩ := h (by intro e; rw [e] at hk; simp at hk)
  exact ⟨b, off, h1, h2, h3 k hk⟩
set_option maxRecDepth 100000 in
set_option maxHeartbeats 400000 in
theorem cloneC_any (ao : Option Addr) (c n : Nat) (xs : List Value) (w : World) (hl : RoAt w ao xs) (h2 : xs.length = n * 2) (h1 : ∀ u ∈ xs, u.oneCell' = true) (hn : n ≤ 1000000) :
    Calls Try.prog 88 #[.slice ao n c] w fun e w' => ∃ rv, e = .returned rv ∧ w'.ownsRow w.heap.size 57 2 rv n xs ∧ Below w.heap.size w w' := by
  cases ao with
  | none =>
    have h0 : n = 0 := by
      cases n with
      | zero => rfl
      | succ n => obtain ⟨b, off, h, _⟩ := ro_getC hl (k := 0) (by omega); cases h
    subst h0
    have hx : xs = [] := List.eq_nil_of_length_eq_zero (by simpa using h2)
    subst hx
    have he := fun W => Lib.run_eql_slice_nil (P := Try.prog) W 30 57 none 0 c 0 0 Try.underlying30
    go_enter Try.func88, Try.ntmps88
    go_wp2
    go_ret
    exact ⟨_, rfl, World.ownsRow_nil _ _ _ _, Below.refl _ _⟩
  | some a =>
    have he := fun W => Lib.run_eql_slice_nil (P := Try.prog) W 30 57 (some a) n c 0 0 Try.underlying30
    obtain ⟨i0, hi, hz0, hz1, hz2⟩ : ∃ i, Try.prog.info? 57 = some i ∧ i.size = 2 ∧ i.bytes = 16 ∧ i.zero = some (.agg #[.int .i64 0, .int .i64 0]) := ⟨(Try.prog.info? 57).getD default, by kernel_rfl, by kernel_rfl, by kernel_rfl, by kernel_rfl⟩
    have hown : (w.alloc (.cells #[] 57)).ownsRow w.heap.size 57 2 (.slice (some ⟨w.heap.size, 0, none⟩) 0 0) 0 [] :=
      ⟨rfl, .inr ⟨w.heap.size, 0, #[], rfl, Nat.le_refl _, World.alloc_heap_new _ _, Nat.le_refl _, by simp [maxLen], rfl, rfl⟩⟩
    have hnews : ∀ j u, xs[j]? = some u → (w.alloc (.cells #[] 57)).cell? (a.add j) = some u := by
      intro j u hj
      obtain ⟨hj1, hj2⟩ := List.getElem?_eq_some_iff.1 hj
      obtain ⟨b, off, ha, hb, hc⟩ := ro_getC hl hj1
      obtain rfl : a = ⟨b, off, none⟩ := by simpa using ha
      have : (⟨b, off, none⟩ : Addr).add j = ⟨b, off + j, none⟩ := by
        unfold Addr.add; split
        · rename_i h; subst h; rfl
        · rfl
      rw [this, World.cell?_alloc_lt _ _ _ hb, hc, ← hj2]
      simp [List.getD_eq_getElem?_getD, List.getElem?_eq_getElem hj1]
    have hxl : xs.length = n * 2 := h2
    go_enter Try.func88, Try.ntmps88
    go_wp2_with (first | (at_builtin; go_loud (refine wpList_append_own _ rfl _ _ 30 rfl w.heap.size 57 i0 (.agg #[.int .i64 0, .int .i64 0]) 2 16 Try.underlying30 hi hz2 hz0 hz1 rfl (by decide) _ _ _ rfl hown a n c xs rfl hxl hnews h1 (by simp [maxLen]; omega) (by omega) (by simp) ?_; intro v' w1 hown1 hgrow1 _)))
    go_ret
    exact ⟨_, rfl, by simpa using hown1, ((Below.refl _ _).alloc (Nat.le_refl _) _).grown hgrow1 (by simp) (fun k e => by cases e; exact Nat.le_refl _)⟩
theorem cloneC_k {n0 nx a : Nat} {k : Kd} {l : List Cell} {L : List E} {K : V → List E → Nat → Prop} (hn : l.length ≤ 1000000) (ha : find L a = some ⟨a, k, cellC l⟩) (hK : K (V.c (.sl nx l.length)) [⟨nx, .vec 57 2, cellC l⟩] (nx + 1)) : CallK Try.prog n0 88 [V.c (.sl a l.length)] L nx K := by
  refine ⟨by kernel_rfl, fun ρ w hp _ => ?_⟩
  have hag : ∀ ρ' : Env, (cellC l).map (C.den ρ') = (cellC l).map (C.den ρ) := fun ρ' => List.map_congr_left fun c hc => by obtain ⟨z, rfl⟩ := cellC_mem hc; rfl
  have hc := cloneC_any (ρ a).1 (ρ a).2 l.length ((cellC l).map (C.den ρ)) w (hp.row ha).1 (by rw [List.length_map, cellC_len]; omega) (fun u hu => by
    obtain ⟨c, hc, rfl⟩ := List.mem_map.1 hu
    obtain ⟨z, rfl⟩ := cellC_mem hc; rfl) hn
  refine Calls.mono (show Calls Try.prog 88 ([V.c (.sl a l.length)].map (V.den ρ)).toArray w _ from hc) ?_
  rintro e w' ⟨rv, rfl, hown, hbw⟩
  obtain ⟨ao, c, rfl, hblk⟩ := own_sliceC hown
  refine ⟨V.c (.sl nx l.length), [⟨nx, .vec 57 2, cellC l⟩], nx + 1, ρ.put nx ao c, ?_, Nat.le_succ _, Nat.lt_succ_self nx, Env.put_agr _ _ _ _, hbw, News.one ?_ rfl (wf_cells _ _) ?_, hK⟩
  · simp [V.den, A.den, C.den, Env.put_same]
  · refine ⟨l.length, ?_⟩
    simp only [Env.put_same]
    rw [hag]
    exact rowO.of (own_baseC hown hp.base)
  · intro b hb
    simp only [blk, Env.put_same, Option.map_eq_some_iff] at hb
    obtain ⟨a, ha, rfl⟩ := hb
    exact hblk a ha
/-- One cell of a row of one's own, left out. -/
theorem CallM.del {n0 nx l n k : Nat} {z1 z2 : Int} {cs : List C} {L : List E} {K : V → List E → Nat → Prop} (hf : find L l = some ⟨l, .vec 57 2, cs⟩) (hlen : cs.length = n * 2) (hk : k < n) (hz1 : z1 = k) (hz2 : z2 = k + 1)
    (hK : rmK l L fun L' => K (V.c (.sl nx (n - 1))) (⟨nx, .vec 57 2, cs.take (k * 2) ++ cs.drop ((k + 1) * 2)⟩ :: L') (nx + 1)) : CallM Try.prog n0 91 [V.c (.sl l n), V.i z1, V.i z2] L nx K := by
  subst hz1 hz2
  refine ⟨by kernel_rfl, fun ρ w hp _ => ?_⟩
  rw [rmK_eq] at hK
  obtain ⟨hm, _⟩ := find_mem hf
  have hok := hp.ok _ hm
  have hwf := hp.wf _ hm
  obtain ⟨n', hown⟩ := hok
  simp only at hown
  have hn' : n' = n := by
    have h5 := hown.1
    simp only [List.length_map, hlen] at h5
    omega
  subst hn'
  have hblk := hown
  obtain ⟨_, ⟨_, h0⟩ | ⟨g, off, cap, cur, hv, hb, hg, _⟩⟩ := hown
  · omega
  have hv1 : (ρ l).1 = some ⟨g, off, none⟩ ∧ (ρ l).2 = cap := by
    simp only [Value.slice.injEq, true_and] at hv; exact hv
  rw [hv] at hblk
  have hc := delete_any g off n' cap k (k + 1) w n0 (cs.map (C.den ρ)) hblk (fun u hu => by
    obtain ⟨c, hc, rfl⟩ := List.mem_map.1 hu
    exact C.one (hwf.2 c hc) ρ) rfl (by omega)
  have hargs : ([V.c (.sl l n'), V.i (k : Nat), V.i ((k : Nat) + 1)].map (V.den ρ)).toArray = #[.slice (some ⟨g, off, none⟩) n' cap, .int .i64 (k : Nat), .int .i64 ((k + 1 : Nat) : Int)] := by
    simp [V.den, A.den, C.den, hv1.1, hv1.2]
  rw [hargs]
  refine hc.mono ?_
  rintro e w' ⟨rfl, hgr, hrow⟩
  have hkn : k + (n' - (k + 1)) = n' - 1 := by omega
  rw [hkn] at hrow ⊢
  have hcells : List.take (k * 2) (cs.map (C.den ρ)) ++ List.drop ((k + 1) * 2) (cs.map (C.den ρ)) = (cs.take (k * 2) ++ cs.drop ((k + 1) * 2)).map (C.den ρ) := by
    rw [List.map_append, List.map_take, List.map_drop]
  rw [hcells] at hrow
  have hob : blk ρ l = some g := by simp [blk, hv1.1]
  obtain ⟨g1, g2⟩ := hp.moved (L0 := rmL L l) (v := .slice (some ⟨g, off, none⟩) n' cap) (fun e he => (rmL_mem he).1) (fun y hy hcs b hb' => by
    have := cut_gone hp hm rfl rfl y hy hcs b hb'
    rw [hob] at this; exact this) (fun c hc => by
    rcases List.mem_append.1 hc with hc | hc
    · exact hwf.2 c (List.mem_of_mem_take hc)
    · exact hwf.2 c (List.mem_of_mem_drop hc)) (fun b hb' => by
      simp only [Value.ownBlock, Option.some.injEq] at hb'
      subst hb'
      exact ⟨hb, fun o ho => by rw [hg] at ho; cases ho; rfl⟩) hrow hgr (fun b hb' => .inl (by simpa [Value.ownBlock] using hb'))
  exact ⟨V.c (.sl nx (n' - 1)), _, nx + 1, ρ.put nx (some ⟨g, off, none⟩) cap, by simp [V.den, A.den, C.den, Env.put_same], by omega, Nat.lt_succ_self nx, Env.put_agr _ _ _ _, g2, g1, hK⟩
theorem backC_spec (lc n nx : Nat) (L : List E) : SpecM Try.prog 89 [V.c (.sl lc n)] L nx (fun v L' nx' => v = V.c (.fn 107 [(nx, 0)]) ∧ L' = ⟨nx, .own 30, [.sl lc n]⟩ :: L ∧ nx' = nx + 1) := by
  refine SpecM.of tok Try.func89 rfl rfl rfl fun n0 cx => vc_ok tok ?_
  repeat ((conv => whnf); first | (refine And.intro (by first | omega | exact Nat.le_of_ble_eq_true rfl | (dsimp only [inK]; omega) | (simp only [mulS_eq]; omega) | (simp only [mulS_eq, setL_length]; omega) | (simp only [setL_length]; omega) | (simp only [setL_length, List.length_map]; omega) | (exact ⟨by omega, by omega, by first | exact Nat.le_of_ble_eq_true rfl | (dsimp only; omega) | (simp only [setL_length]; omega) | (simp only [setL_length, List.length_map]; omega)⟩) | (exact ⟨by omega, by first | rfl | omega, by omega, Nat.le_of_ble_eq_true rfl, Nat.le_of_ble_eq_true rfl⟩) | (exact ⟨rfl, rfl, rfl, Nat.le_of_ble_eq_true rfl, by first | rfl | omega | exact Nat.le_of_ble_eq_true rfl | (dsimp only; omega) | (simp; done) | (simp; omega), by first | rfl | omega | exact Nat.le_of_ble_eq_true rfl | (dsimp only; omega) | (simp; done) | (simp; omega), by omega, Nat.le_of_ble_eq_true rfl⟩) | exact Eq.refl true) ?_) | refine Exists.intro _ (And.intro rfl ?_) | refine And.intro (And.intro rfl (chk_rowI _ _ _ _)) ?_ | refine br_t (by omega) ?_ | refine br_f (by omega) ?_ | refine bs_t (by omega) ?_ | refine bs_f (by omega) ?_ | refine fun (K' : K3) hK' => ?_ | (refine hK' _ _ _ ?_; clear hK' K') | refine draw_auto tok mixed (by kernel_rfl) ?_ | refine bs_bt (Eq.refl true) ?_ | refine bs_bf (Eq.refl false) ?_ | refine br_bt (Eq.refl true) ?_ | refine br_bf (Eq.refl false) ?_ | refine CallK.m ?_ | refine Two.l ?_ | refine And.intro (And.intro rfl rfl) ?_)
  exact ⟨rfl, rfl, rfl⟩
theorem bmF_del (f : Int → Bool) (i : Int) : delF (bmF f) [i] = bmF (fun j => f j && !decide (j = i)) := by
  funext k
  unfold delF
  match k with
  | [] => rfl
  | [j] =>
    by_cases h : j = i
    · subst h; simp [bmF]
    · have : ¬ ([j] : List Int) = [i] := by simpa using h
      simp only [this, if_false, bmF, h, decide_false, Bool.not_false, Bool.and_true]
  | _ :: _ :: _ => simp [bmF]
/-- The cells of a list but one. -/
theorem cellC_erase : ∀ (l : List Cell) (k : Nat), (cellC l).take (k * 2) ++ (cellC l).drop ((k + 1) * 2) = cellC (l.eraseIdx k)
  | [], k => by simp [cellC]
  | x :: r, 0 => by simp [cellC_cons]
  | x :: r, k + 1 => by
    have := cellC_erase r k
    rw [List.eraseIdx_cons_succ, cellC_cons, cellC_cons, ← this, show (k + 1 + 1) * 2 = ((k + 1) * 2 + 1) + 1 by omega, show (cellC r).take (k * 2) = (cellC r).take (k * 2) from rfl]
    simp only [show (k + 1) * 2 = (k * 2 + 1) + 1 by omega, List.take_succ_cons, List.drop_succ_cons, List.cons_append]
end Go.Proofs.Ytbhpnhcdjmcaoaa

/- Boom: Thin. -/
namespace Go.Proofs.Ytbhpnhcdjmcaoaa
open Go.RowKit
set_option linter.unusedVariables false
set_option linter.unusedSimpArgs false
noncomputable def thC (W H : Int) (cs : List Int) (bs : List Cell) : List Cell := if okC W H cs && okB W H cs bs && blkL W H cs bs then thinO W H cs bs else []
noncomputable def thE (W H : Int) (cs : List Int) (bs : List Cell) : Int := if okC W H cs then (if okB W H cs bs then (if blkL W H cs bs then 0 else 5) else 2) else 30
set_option maxRecDepth 10000 in
set_option maxHeartbeats 8000000 in
theorem Thin_spec (W H : Int) (cs : List Int) (bs : List Cell) (hl : cs.length ≤ 300) (hb : bs.length ≤ 300) :
    Spec Try.prog 48 [chR W H cs.length, V.c (.sl 1 bs.length)] [⟨0, .ro 0, cs.map C.i⟩, ⟨1, .ro 0, cellC bs⟩] 2 (fun v L' _ => cellsE (thC W H cs bs) (thE W H cs bs) v L') := by
  unfold thC thE
  have hcl := cellC_len bs
  refine Spec.of tok Try.func48 rfl rfl rfl fun n0 cx => vc_ok tok ?_
  cases hv : okC W H cs with
  | false =>
    repeat ((conv => whnf); first | (refine And.intro (by first | omega | exact Nat.le_of_ble_eq_true rfl) ?_) | refine Exists.intro _ (And.intro rfl ?_) | refine br_t (by omega) ?_ | refine fun (K' : K3) hK' => ?_ | (refine hK' _ _ _ ?_; clear hK' K') | refine CallK.newNo (a := 0) (bs := bs) (R := []) 30 hl hb (.inl ⟨hv, rfl⟩) rfl rfl ⟨roE_ints (l := 0) rfl (by omega) rfl (.inl rfl), roE_cells (l := 1) rfl (by omega) rfl (.inl rfl), trivial⟩ ?_ | refine CallK.m ?_)
    exact .inl ⟨rfl, rfl⟩
  | true =>
    cases hB : okB W H cs bs with
    | false =>
      repeat ((conv => whnf); first | (refine And.intro (by first | omega | exact Nat.le_of_ble_eq_true rfl) ?_) | refine Exists.intro _ (And.intro rfl ?_) | refine br_t (by omega) ?_ | refine fun (K' : K3) hK' => ?_ | (refine hK' _ _ _ ?_; clear hK' K') | refine CallK.newNo (a := 0) (bs := bs) (R := []) 2 hl hb (.inr ⟨hv, hB, rfl⟩) rfl rfl ⟨roE_ints (l := 0) rfl (by omega) rfl (.inl rfl), roE_cells (l := 1) rfl (by omega) rfl (.inl rfl), trivial⟩ ?_ | refine CallK.m ?_)
      exact .inl ⟨rfl, rfl⟩
    | true =>
      have hok := okC_iff.1 hv
      have hbl := fun f => blocks_spec W H cs f hok
      have hbl0 := hbl (boomF W H bs)
      rw [show (chanO W H cs.length (wetB cs (boomF W H bs))).isNone = blkL W H cs bs from rfl] at hbl0
      cases hk : blkL W H cs bs with
      | false =>
        rw [hk] at hbl0
        repeat ((conv => whnf); first | (refine And.intro (by first | omega | exact Nat.le_of_ble_eq_true rfl) ?_) | refine Exists.intro _ (And.intro rfl ?_) | refine br_f (by omega) ?_ | refine fun (K' : K3) hK' => ?_ | (refine hK' _ _ _ ?_; clear hK' K') | refine CallK.newOk (a := 0) (bs := bs) (R := []) hl hb hv hB rfl rfl (by omega) ⟨roE_ints (l := 0) rfl (by omega) rfl (.inl rfl), roE_cells (l := 1) rfl (by omega) rfl (.inl rfl), trivial⟩ ?_ | refine CallK.val (R := [(1, some 3)]) hbl0 (by kernel_rfl) rfl (by simp [V.wf, A.wf, C.wf]) ⟨roE_ints (l := 0) rfl (by omega) rfl (.inl rfl), roE_map (l := 3) rfl (by omega) rfl, trivial⟩ rfl rfl trivial ?_ | refine br_bt (Eq.refl true) ?_ | refine CallK.m ?_)
        exact .inl ⟨rfl, rfl⟩
      | true =>
        rw [hk] at hbl0
        have hW : 0 < W := by have := hok.w; omega
        repeat ((conv => whnf); first | (refine And.intro (by first | omega | exact Nat.le_of_ble_eq_true rfl) ?_) | refine Exists.intro _ (And.intro rfl ?_) | refine br_f (by omega) ?_ | refine fun (K' : K3) hK' => ?_ | (refine hK' _ _ _ ?_; clear hK' K') | refine CallK.newOk (a := 0) (bs := bs) (R := []) hl hb hv hB rfl rfl (by omega) ⟨roE_ints (l := 0) rfl (by omega) rfl (.inl rfl), roE_cells (l := 1) rfl (by omega) rfl (.inl rfl), trivial⟩ ?_ | refine CallK.val (R := [(1, some 3)]) hbl0 (by kernel_rfl) rfl (by simp [V.wf, A.wf, C.wf]) ⟨roE_ints (l := 0) rfl (by omega) rfl (.inl rfl), roE_map (l := 3) rfl (by omega) rfl, trivial⟩ rfl rfl trivial ?_ | refine cloneC_k (l := bs) (by omega) rfl ?_ | refine CallK.fresh (by kernel_rfl) (backC_spec _ _ _ _) rfl ?_ | refine br_bf (Eq.refl false) ?_ | refine CallK.m ?_)
        refine Tri.opq fun K' hK' => ?_
        refine Tri.rangeFunc tok (by exact rfl) (by kernel_rfl) (by exact rfl) (by exact rfl) (by exact rfl) (by exact rfl) (by exact rfl) (by exact rfl) ?_
        intro y cxi oo ob od hy hY
        refine vc_ok tok ?_
        repeat ((conv => whnf); first | (refine And.intro (by first | omega | (dsimp only [inK]; omega)) ?_) | refine Exists.intro _ (And.intro rfl ?_) | refine fun (K' : K3) hK' => ?_ | (refine hK' _ _ _ ?_; clear hK' K'))
        refine Tri.loop (γ := Nat × List Cell) (fun g => thinL (blkL W H cs) g.1 g.2 = thinO W H cs bs ∧ g.2.Sublist bs ∧ g.2.take g.1 = bs.take g.1 ∧ g.1 ≤ g.2.length) (fun g => [(0, V.c (.v y)), (1, V.c (.ptr 7 0)), (3, V.i ((g.1 : Int) - 1))])
          (fun g => [⟨8, .obj oo, []⟩, ⟨7, .own 30, [.sl 1 bs.length]⟩, ⟨6, .own 30, [.sl 20 g.2.length]⟩, ⟨20, .vec 57 2, cellC g.2⟩, ⟨4, .own 65, [C.i W, C.i H, .sl 0 cs.length, .mp 3]⟩, ⟨3, .mp true .int (bmF (boomF W H g.2)), []⟩, ⟨2, .own 24, [C.i W, C.i H, .sl 0 cs.length]⟩, ⟨0, .ro 0, cs.map C.i⟩, ⟨1, .ro 0, cellC bs⟩]) 21 (fun g => g.1) (bs.length, bs) (R0 := [(20, some 5)]) ?_ ?_ ?_
        · exact ⟨rfl, List.Sublist.refl _, rfl, Nat.le_refl _⟩
        · skip
          refine ⟨?_, ?_, rfl, rfl, by exact Nat.le_of_ble_eq_true rfl⟩
          · repeat (first | exact trivial | (refine And.intro (covS_syn (by rfl) rfl (by first | exact trivial | exact Nat.le_of_ble_eq_true rfl | exact hy)) ?_))
          · repeat (first | exact trivial | refine And.intro (covE_mp rfl (Nat.le_of_ble_eq_true rfl) rfl rfl) ?_ | refine And.intro (covE_some rfl (Nat.le_of_ble_eq_true rfl) (wf_cells _ _) rfl (ren_cells _ _)) ?_ | (refine And.intro (covE_some rfl (Nat.le_of_ble_eq_true rfl) (by first | exact wf_ints _ _ | simp [C.wf]) rfl (by first | exact ren_ints _ _ | rfl)) ?_))
        · rintro ⟨m, out⟩ ⟨hT, hs, ht, hm⟩
          simp only at hT hs ht hm ⊢
          have hol := hs.length_le
          refine vc_ok tok ?_
          cases m with
          | zero =>
            have hT : out = thinO W H cs bs := hT
            repeat ((conv => whnf); first | refine br_f (by omega) ?_ | refine fun (K' : K3) hK' => ?_ | (refine hK' _ _ _ ?_; clear hK' K') | refine Or.inl ?_ | refine And.intro (Eq.refl oo) ?_)
            refine hK' _ _ _ _ ?_
            repeat ((conv => whnf); first | refine Exists.intro _ (And.intro rfl ?_) | refine fun (K' : K3) hK' => ?_ | (refine hK' _ _ _ ?_; clear hK' K'))
            subst hT
            exact .inr ⟨20, rfl, rfl⟩
          | succ k =>
            have hkb : k < bs.length := by omega
            have hko : k < out.length := by omega
            obtain ⟨t1, t2, t3, t4⟩ := thin_step ht hm hkb
            have hoo := okB_sub hok hB hs
            have hld := cellT (l := bs) (k := k) (z := ((k + 1 : Nat) : Int) - 1) (by omega) hkb
            have e : bs.getD k (0, 0) = out[k] := by rw [List.getD_eq_getElem?_getD, List.getElem?_eq_getElem hkb]; exact t1
            rw [e] at hld
            have hon := (okB_mem hW hoo (List.getElem_mem hko)).1
            have hix := index_spec W H cs.length out[k].1 out[k].2 (by have := hok.w; omega) (by have := hok.h; omega)
            rw [show idxI W H out[k].1 out[k].2 = idxC W H out[k] from rfl] at hix
            have hbe := boomF_erase hok hoo hko
            have hbb := boomF_back (W := W) (H := H) hko
            have hbi := idxI_bd (x := out[k].1) (y := out[k].2) hok.w hok.h
            rw [show idxI W H out[k].1 out[k].2 = idxC W H out[k] from rfl] at hbi
            have hbl1 := hbl (boomF W H (out.eraseIdx k))
            rw [show (chanO W H cs.length (wetB cs (boomF W H (out.eraseIdx k)))).isNone = blkL W H cs (out.eraseIdx k) from rfl] at hbl1
            have hTT : thinL (blkL W H cs) k (if blkL W H cs (out.eraseIdx k) = true then out.eraseIdx k else out) = thinO W H cs bs := hT
            have hce := cellC_erase out k
            have hlo := cellC_len out
            have hle : (out.eraseIdx k).length = out.length - 1 := List.length_eraseIdx_of_lt hko
            obtain ⟨p, hp⟩ : ∃ p, p = out[k] := ⟨_, rfl⟩
            rw [← hp] at hld hix hbe hbb hbi
            obtain ⟨i, hi⟩ : ∃ i, i = idxC W H p := ⟨_, rfl⟩
            rw [← hi] at hix hbe hbb hbi
            have hdl : delF (bmF (boomF W H out)) [i] = bmF (boomF W H (out.eraseIdx k)) := by rw [bmF_del, hbe]
            repeat ((conv => whnf); first | (refine And.intro (by first | omega | (dsimp only [inK]; omega)) ?_) | with_reducible refine ld (hld) ?_ | refine Exists.intro _ (And.intro rfl ?_) | refine br_t (by omega) ?_ | refine fun (K' : K3) hK' => ?_ | (refine hK' _ _ _ ?_; clear hK' K'))
            refine hY _ _ _ _ (Nat.le_of_ble_eq_true rfl) rfl ⟨rfl, trivial⟩ ?_
            intro cxb hcx
            refine vc_ok tok ?_
            repeat ((conv => whnf); first | (refine And.intro (by first | omega | exact Nat.le_of_ble_eq_true rfl) ?_) | refine fun (K' : K3) hK' => ?_ | (refine hK' _ _ _ ?_; clear hK' K') | refine And.intro (Eq.refl oo) ?_)
            refine vc_ok tok ?_
            cases hkk : blkL W H cs (out.eraseIdx k) with
            | true =>
              rw [hkk] at hbl1
              rw [hkk, if_pos rfl] at hTT
              repeat ((conv => whnf); first | (refine And.intro (by first | omega | exact Nat.le_of_ble_eq_true rfl | (dsimp only [inK]; omega)) ?_) | refine Exists.intro _ (And.intro rfl ?_) | refine fun (K' : K3) hK' => ?_ | (refine hK' _ _ _ ?_; clear hK' K') | refine CallM.del (k := k) rfl (by omega) (by omega) (by omega) (by omega) ?_ | refine CallK.val (R := [(1, some 3)]) hix (by kernel_rfl) rfl (by simp [V.wf, A.wf, C.wf]) trivial rfl rfl trivial ?_ | (refine CallK.val (R := [(1, some 3)]) hbl1 (by kernel_rfl) rfl (by simp [V.wf, A.wf, C.wf]) ⟨roE_ints (l := 0) rfl (by omega) rfl (.inl rfl), roE_map (l := 3) rfl (by omega) (by rw [← hdl]; rfl), trivial⟩ rfl rfl trivial ?_) | refine And.intro (Eq.refl ob) ?_ | refine br_bt (Eq.refl true) ?_ | refine CallK.m ?_)
              refine ⟨(k, out.eraseIdx k), [(20, some 22)], ⟨hTT, (List.eraseIdx_sublist _ _).trans hs, t2, t4⟩, Nat.lt_succ_self k, ?_⟩
              simp only [hle]
              refine ⟨?_, ?_, rfl, rfl, by exact Nat.le_of_ble_eq_true rfl⟩
              · repeat (first | exact trivial | (refine And.intro (covS_syn (by first | rfl | (refine congrArg some (congrArg V.i ?_); omega)) rfl (by first | exact trivial | exact Nat.le_of_ble_eq_true rfl | exact hy)) ?_))
              · repeat (first | exact trivial | refine And.intro (covE_mp rfl (Nat.le_of_ble_eq_true rfl) rfl hdl) ?_ | refine And.intro (covE_some rfl (Nat.le_of_ble_eq_true rfl) (wf_cells _ _) rfl ((ren_cells _ _).trans (congrArg some hce.symm))) ?_ | refine And.intro (covE_some rfl (Nat.le_of_ble_eq_true rfl) (wf_cells _ _) rfl (ren_cells _ _)) ?_ | (refine And.intro (covE_some rfl (Nat.le_of_ble_eq_true rfl) (by first | exact wf_ints _ _ | simp [C.wf]) rfl (by first | exact ren_ints _ _ | rfl)) ?_))
            | false =>
              rw [hkk] at hbl1
              rw [hkk, if_neg (by simp)] at hTT
              repeat ((conv => whnf); first | (refine And.intro (by first | omega | exact Nat.le_of_ble_eq_true rfl | (dsimp only [inK]; omega)) ?_) | refine Exists.intro _ (And.intro rfl ?_) | refine fun (K' : K3) hK' => ?_ | (refine hK' _ _ _ ?_; clear hK' K') | refine CallK.val (R := [(1, some 3)]) hix (by kernel_rfl) rfl (by simp [V.wf, A.wf, C.wf]) trivial rfl rfl trivial ?_ | (refine CallK.val (R := [(1, some 3)]) hbl1 (by kernel_rfl) rfl (by simp [V.wf, A.wf, C.wf]) ⟨roE_ints (l := 0) rfl (by omega) rfl (.inl rfl), roE_map (l := 3) rfl (by omega) (by rw [← hdl]; rfl), trivial⟩ rfl rfl trivial ?_) | refine And.intro (Eq.refl ob) ?_ | refine br_bf (Eq.refl false) ?_ | refine CallK.m ?_)
              refine ⟨(k, out), [], ⟨hTT, hs, t3, by simp only; omega⟩, Nat.lt_succ_self k, ?_⟩
              refine ⟨?_, ?_, rfl, rfl, by exact Nat.le_of_ble_eq_true rfl⟩
              · repeat (first | exact trivial | (refine And.intro (covS_syn (by first | rfl | (refine congrArg some (congrArg V.i ?_); omega)) rfl (by first | exact trivial | exact Nat.le_of_ble_eq_true rfl | exact hy)) ?_))
              · repeat (first | exact trivial | (refine And.intro (covE_mp rfl (Nat.le_of_ble_eq_true rfl) rfl (by rw [bmF_del, bmF_upd]; exact congrArg bmF hbb)) ?_) | (refine And.intro (covE_id (Nat.le_of_ble_eq_true rfl) (by first | exact wf_ints _ _ | first | exact wf_cells _ _ | exact wf_zc _ | simp [C.wf]) rfl (by rfl)) ?_))
end Go.Proofs.Ytbhpnhcdjmcaoaa

/- Boom: the booms of a chart, those of a list. -/
namespace Go.Proofs.Ytbhpnhcdjmcaoaa
open Go.RowKit
set_option linter.unusedVariables false
set_option linter.unusedSimpArgs false
def boomsK (W : Int) (cs : List Int) (k : Nat) : List Cell := ((List.range k).filter fun i => decide (cs.getD i 0 > 0)).map fun i : Nat => cellI W (i : Int)
end Go.Proofs.Ytbhpnhcdjmcaoaa

/- Boom: the booms of a list. -/
namespace Go.Proofs.Ytbhpnhcdjmcaoaa
open Go.RowKit
set_option linter.unusedVariables false
set_option linter.unusedSimpArgs false
def memK (l : List Cell) (p : Cell) (j : Nat) : Bool := (l.take j).any fun q => decide (p = q)
theorem memK_succ {l : List Cell} {p : Cell} {j : Nat} (h : j < l.length) : memK l p (j + 1) = (memK l p j || decide (p = l.getD j cz)) := by
  unfold memK
  rw [List.take_add_one, show l[j]?.toList = [l.getD j cz] by rw [List.getElem?_eq_getElem h, List.getD_eq_getElem?_getD, List.getElem?_eq_getElem h]; rfl]
  simp
theorem memK_end (l : List Cell) (p : Cell) : memK l p l.length = decide (p ∈ l) := by
  unfold memK
  rw [List.take_length, Bool.eq_iff_iff, List.any_eq_true, decide_eq_true_eq]
  exact ⟨fun ⟨q, h1, h2⟩ => by rw [of_decide_eq_true h2]; exact h1, fun h => ⟨p, h, by simp⟩⟩
def fltK (b l : List Cell) (k : Nat) : List Cell := (b.take k).filter fun p => decide (p ∈ l)
end Go.Proofs.Ytbhpnhcdjmcaoaa

/- Boom: the law of thin booms. -/
namespace Go.Proofs.Ytbhpnhcdjmcaoaa
open Go.RowKit
set_option linter.unusedVariables false
set_option linter.unusedSimpArgs false
/-- A row that a callee left, read alone from now on. -/
theorem CallK.ro1 {P : Program} {n0 : Nat} {f : FuncId} {vs : List V} {L : List E} {nx : Nat} {K : V → List E → Nat → Prop}
    (h : CallK P n0 f vs L nx (fun v new nx' => match new with | [⟨l, .vec _ z, cs⟩] => K v [⟨l, .ro z, cs⟩] nx' | _ => False)) : CallK P n0 f vs L nx K := by
  refine ⟨h.ok, fun ρ w hp hv => (h.run ρ w hp hv).mono ?_⟩
  rintro e w' ⟨v, new, nx', ρ', rfl, h1, h2, h3, h4, h5, hK⟩
  split at hK
  · rename_i l t z cs
    have hok := h5.ok _ (List.mem_singleton.2 rfl)
    have hwf := h5.wf _ (List.mem_singleton.2 rfl)
    refine ⟨v, _, nx', ρ', rfl, h1, h2, h3, h4, ⟨fun e he => ?_, fun e he => ?_, fun e he e' he' _ => ?_, fun e he e' he' hro => ?_, fun e he => ?_⟩, hK⟩
    · rw [List.mem_singleton.1 he]; exact hok.toRo (.inr rfl)
    · rw [List.mem_singleton.1 he]; exact hwf
    · rw [List.mem_singleton.1 he, List.mem_singleton.1 he']
    · rw [List.mem_singleton.1 he] at hro; cases hro
    · rw [List.mem_singleton.1 he]
      rcases h5.place _ (List.mem_singleton.2 rfl) with hp | ⟨hp, _⟩
      · exact .inl hp
      · cases hp
  · exact hK.elim
theorem thins_long (W H : Int) (cs : List Int) (bs : List Cell) (d : Int) (hcs : cs.length < 9223372036854775808) (hb : bs.length < 9223372036854775808) (h : (cs.length : Int) > 300 ∨ (bs.length : Int) > 250) :
    Spec Try.prog 10 [chR W H cs.length, V.c (.sl 1 bs.length), V.c (.int .u8 d)] [⟨0, .ro 0, cs.map C.i⟩, ⟨1, .ro 2, cellC bs⟩] 2 (Is (V.c (.bool true))) := by
  refine Spec.of tok Try.func10 rfl rfl rfl fun n0 cx => vc_ok tok ?_
  by_cases h1 : (cs.length : Int) > 300
  · repeat ((conv => whnf); first | refine Exists.intro _ (And.intro rfl ?_) | refine bs_t (by omega) ?_ | refine fun (K' : K3) hK' => ?_ | (refine hK' _ _ _ ?_; clear hK' K') | refine wide_k hcs ?_ | refine awake_k ?_ | refine CallK.m ?_)
    intro ρ; rfl
  · have h2 : (bs.length : Int) > 250 := by omega
    repeat ((conv => whnf); first | refine Exists.intro _ (And.intro rfl ?_) | refine bs_t (by omega) ?_ | refine bs_f (by omega) ?_ | refine fun (K' : K3) hK' => ?_ | (refine hK' _ _ _ ?_; clear hK' K') | refine wide_k hcs ?_ | refine long_k hb ?_ | refine awake_k ?_ | refine CallK.m ?_)
    intro ρ; rfl
theorem cellC_but (l : List Cell) (i : Nat) (hi : i < l.length) : (cellC l).take (i * 2) ++ (((cellC l).drop ((i + 1) * 2)).take ((l.length - (i + 1)) * 2)).take ((l.length - (i + 1)) * 2) = cellC (l.eraseIdx i) := by
  rw [← cellC_erase, List.take_take, Nat.min_self]
  congr 1
  exact List.take_of_length_le (by rw [List.length_drop, cellC_len]; omega)
theorem chk_appA (p : Nat → Bool) (l : List Cell) (n : Nat) (lab : Nat) (kd : Kd) : (([⟨lab, kd, ([] : List C) ++ (cellC l).take n⟩] : List E).all fun e => e.cs.all (C.chk p)) = true := by
  simp only [List.all_cons, List.all_nil, Bool.and_true, List.nil_append]
  exact List.all_eq_true.2 fun c hc => List.all_eq_true.1 (chk_cells p l) c (List.mem_of_mem_take hc)
theorem len_appT (l : List Cell) {k : Nat} (hk : k ≤ l.length) : (([] : List C) ++ (cellC l).take (k * 2)).length = (0 + k) * 2 := by
  rw [List.nil_append, List.length_take, cellC_len]; omega
theorem len_slT (l : List Cell) {a : Nat} (ha : a ≤ l.length) : (l.length - a) * 2 ≤ (((cellC l).drop (a * 2)).take ((l.length - a) * 2)).length := by
  rw [List.length_take, List.length_drop, cellC_len]; omega
theorem chk_slC (p : Nat → Bool) (m : List Cell) (a b : Nat) (lab : Nat) (kd : Kd) : (([⟨lab, kd, ((cellC m).drop a).take b⟩] : List E).all fun e => e.cs.all (C.chk p)) = true := by
  simp only [List.all_cons, List.all_nil, Bool.and_true]
  exact List.all_eq_true.2 fun c hc => List.all_eq_true.1 (chk_cells p m) c (List.mem_of_mem_drop (List.mem_of_mem_take hc))
theorem chk_appC (p : Nat → Bool) (l m : List Cell) (n a b k : Nat) (lab : Nat) (kd : Kd) : (([⟨lab, kd, (([] : List C) ++ (cellC l).take n) ++ (((cellC m).drop a).take b).take k⟩] : List E).all fun e => e.cs.all (C.chk p)) = true := by
  simp only [List.all_cons, List.all_nil, Bool.and_true, List.nil_append, List.all_append, Bool.and_eq_true]
  exact ⟨List.all_eq_true.2 fun c hc => List.all_eq_true.1 (chk_cells p l) c (List.mem_of_mem_take hc), List.all_eq_true.2 fun c hc => List.all_eq_true.1 (chk_cells p m) c (List.mem_of_mem_drop (List.mem_of_mem_take (List.mem_of_mem_take hc)))⟩
set_option maxRecDepth 10000 in
set_option maxHeartbeats 8000000 in
theorem thins_spec (W H : Int) (cs : List Int) (bs : List Cell) (d : Int) (hd : 0 ≤ d ∧ d ≤ 255) (hcs : ¬ (cs.length : Int) > 300) (hbs : ¬ (bs.length : Int) > 250) :
    Spec Try.prog 10 [chR W H cs.length, V.c (.sl 1 bs.length), V.c (.int .u8 d)] [⟨0, .ro 0, cs.map C.i⟩, ⟨1, .ro 2, cellC bs⟩] 2 (Is (V.c (.bool true))) := by
  have hva := rvalid_spec W H cs (by omega)
  have hl : cs.length ≤ 300 := by omega
  refine Spec.of tok Try.func10 rfl rfl rfl fun n0 cx => vc_ok tok ?_
  cases hv : okC W H cs with
  | false =>
    repeat ((conv => whnf); first | refine Exists.intro _ (And.intro rfl ?_) | refine bs_f (by omega) ?_ | refine fun (K' : K3) hK' => ?_ | (refine hK' _ _ _ ?_; clear hK' K') | refine wide_k (by omega) ?_ | refine long_k (by omega) ?_ | refine CallK.val (R := []) hva (by kernel_rfl) rfl (by simp [V.wf, A.wf, C.wf, V.i]) ⟨roE_ints (l := 0) rfl (by omega) rfl (.inl rfl), trivial⟩ rfl rfl trivial ?_ | refine bs_bt (congrArg Bool.not hv) ?_ | refine awake_k ?_ | refine CallK.m ?_)
    intro ρ; rfl
  | true =>
    have hok := okC_iff.1 hv
    have har := areBooms_spec W H cs bs hok (by omega)
    cases hB : okB W H cs bs with
    | false =>
      repeat ((conv => whnf); first | refine Exists.intro _ (And.intro rfl ?_) | refine bs_f (by omega) ?_ | refine fun (K' : K3) hK' => ?_ | (refine hK' _ _ _ ?_; clear hK' K') | refine wide_k (by omega) ?_ | refine long_k (by omega) ?_ | refine CallK.val (R := []) hva (by kernel_rfl) rfl (by simp [V.wf, A.wf, C.wf, V.i]) ⟨roE_ints (l := 0) rfl (by omega) rfl (.inl rfl), trivial⟩ rfl rfl trivial ?_ | refine bs_bf (congrArg Bool.not hv) ?_ | refine CallK.val (R := []) har (by kernel_rfl) rfl (by simp [V.wf, A.wf, C.wf, V.i]) ⟨roE_ints (l := 0) rfl (by omega) rfl (.inl rfl), roE_cells (l := 1) rfl (by omega) rfl (.inl rfl), trivial⟩ rfl rfl trivial ?_ | refine br_bt (congrArg Bool.not hB) ?_ | refine awake_k ?_ | refine CallK.m ?_)
      intro ρ; rfl
    | true =>
      have hcl := cellC_len bs
      have k1 := pBlocks_spec W H cs bs hl (by omega)
      have k2 := Thin_spec W H cs bs hl (by omega)
      unfold blB blE at k1
      unfold thC thE at k2
      rw [hv, hB, show (chanO W H cs.length (wetB cs (boomF W H bs))).isNone = blkL W H cs bs from rfl] at k1
      rw [hv, hB] at k2
      cases hk : blkL W H cs bs with
      | false =>
        rw [hk] at k1 k2
        repeat ((conv => whnf); first | refine Exists.intro _ (And.intro rfl ?_) | refine bs_f (by omega) ?_ | refine fun (K' : K3) hK' => ?_ | (refine hK' _ _ _ ?_; clear hK' K') | refine wide_k (by omega) ?_ | refine long_k (by omega) ?_ | refine CallK.val (R := []) hva (by kernel_rfl) rfl (by simp [V.wf, A.wf, C.wf, V.i]) ⟨roE_ints (l := 0) rfl (by omega) rfl (.inl rfl), trivial⟩ rfl rfl trivial ?_ | refine bs_bf (congrArg Bool.not hv) ?_ | refine CallK.val (R := []) har (by kernel_rfl) rfl (by simp [V.wf, A.wf, C.wf, V.i]) ⟨roE_ints (l := 0) rfl (by omega) rfl (.inl rfl), roE_cells (l := 1) rfl (by omega) rfl (.inl rfl), trivial⟩ rfl rfl trivial ?_ | refine br_bf (congrArg Bool.not hB) ?_ | refine CallK.val (R := []) k1 (by kernel_rfl) rfl (by simp [V.wf, A.wf, C.wf, V.i]) ⟨roE_ints (l := 0) rfl (by omega) rfl (.inl rfl), roE_cells (l := 1) rfl (by omega) rfl (.inl rfl), trivial⟩ rfl rfl (by simp [V.wf, A.wf, C.wf]) ?_ | refine CallK.ro1 (CallK.cellsE (R := []) k2 (by kernel_rfl) rfl (by simp [V.wf, A.wf, C.wf, V.i]) ⟨roE_ints (l := 0) rfl (by omega) rfl (.inl rfl), roE_cells (l := 1) rfl (by omega) rfl (.inl rfl), trivial⟩ rfl ?_) | refine bs_bf (Eq.refl false) ?_ | refine br_bf (Eq.refl false) ?_ | refine br_bt (Eq.refl true) ?_ | refine awake_k ?_ | refine CallK.m ?_)
        intro ρ; rfl
      | true =>
        rw [hk] at k1 k2
        rw [show (if (true && true && true) = true then thinO W H cs bs else []) = thinO W H cs bs from rfl] at k2
        have hsu := thinO_sub (W := W) (H := H) (cs := cs) bs
        have hth := okB_sub hok hB hsu
        have hbt := thinO_bl hk
        have hmin := thinO_min hok hB
        obtain ⟨th, hthe⟩ : ∃ t, t = thinO W H cs bs := ⟨_, rfl⟩
        rw [← hthe] at k2 hsu hth hbt hmin
        have htl := hsu.length_le
        have hcth := cellC_len th
        have k3 := pBlocks_spec W H cs th hl (by omega)
        unfold blB blE at k3
        rw [hv, hth, show (chanO W H cs.length (wetB cs (boomF W H th))).isNone = blkL W H cs th from rfl, hbt] at k3
        repeat ((conv => whnf); first | refine Exists.intro _ (And.intro rfl ?_) | refine bs_f (by omega) ?_ | refine fun (K' : K3) hK' => ?_ | (refine hK' _ _ _ ?_; clear hK' K') | refine wide_k (by omega) ?_ | refine long_k (by omega) ?_ | refine CallK.val (R := []) hva (by kernel_rfl) rfl (by simp [V.wf, A.wf, C.wf, V.i]) ⟨roE_ints (l := 0) rfl (by omega) rfl (.inl rfl), trivial⟩ rfl rfl trivial ?_ | refine bs_bf (congrArg Bool.not hv) ?_ | refine CallK.val (R := []) har (by kernel_rfl) rfl (by simp [V.wf, A.wf, C.wf, V.i]) ⟨roE_ints (l := 0) rfl (by omega) rfl (.inl rfl), roE_cells (l := 1) rfl (by omega) rfl (.inl rfl), trivial⟩ rfl rfl trivial ?_ | refine br_bf (congrArg Bool.not hB) ?_ | refine CallK.val (R := []) k1 (by kernel_rfl) rfl (by simp [V.wf, A.wf, C.wf, V.i]) ⟨roE_ints (l := 0) rfl (by omega) rfl (.inl rfl), roE_cells (l := 1) rfl (by omega) rfl (.inl rfl), trivial⟩ rfl rfl (by simp [V.wf, A.wf, C.wf]) ?_ | refine CallK.ro1 (CallK.cellsE (R := []) k2 (by kernel_rfl) rfl (by simp [V.wf, A.wf, C.wf, V.i]) ⟨roE_ints (l := 0) rfl (by omega) rfl (.inl rfl), roE_cells (l := 1) rfl (by omega) rfl (.inl rfl), trivial⟩ rfl ?_) | refine bs_bf (Eq.refl false) ?_ | refine br_bf (Eq.refl false) ?_ | refine CallK.m ?_)
        refine Tri.loop (γ := Nat) (fun k => k ≤ th.length) (fun k => [(1, V.c (.sl 1 bs.length)), (2, V.c (.int .u8 d)), (3, V.c (.ptr 2 0)), (9, V.c (.sl 3 th.length)), (71, V.c (.sl 3 th.length)), (72, V.i th.length), (73, V.i (k : Nat))]) (fun k => [⟨3, .ro 2, cellC th⟩, ⟨2, .own 24, [C.i W, C.i H, .sl 0 cs.length]⟩, ⟨0, .ro 0, cs.map C.i⟩, ⟨1, .ro 2, cellC bs⟩]) 4 (fun k => th.length - k) 0 (R0 := []) ?_ ?_ ?_
        · omega
        · skip
          refine ⟨?_, ?_, rfl, rfl, by exact Nat.le_of_ble_eq_true rfl⟩
          · repeat (first | exact trivial | (refine And.intro (covS_syn (by rfl) rfl (by first | exact trivial | exact Nat.le_of_ble_eq_true rfl)) ?_))
          · repeat (first | exact trivial | (refine And.intro (covE_id (Nat.le_of_ble_eq_true rfl) (by first | exact wf_ints _ _ | first | exact wf_cells _ _ | simp [C.wf]) rfl (by rfl)) ?_))
        · intro k hk
          refine vc_ok tok ?_
          by_cases hlt : k < th.length
          · have hld := cellT (l := th) (k := k) rfl hlt
            have hmem : th.getD k cz ∈ bs := by
              rw [List.getD_eq_getElem?_getD, List.getElem?_eq_getElem hlt]; exact hsu.subset (List.getElem_mem hlt)
            obtain ⟨p, hp⟩ : ∃ p, p = th.getD k cz := ⟨_, rfl⟩
            rw [← hp] at hld hmem
            repeat ((conv => whnf); first | (refine And.intro (by first | omega | exact Nat.le_of_ble_eq_true rfl | (dsimp only [inK]; omega)) ?_) | with_reducible refine ld (hld) ?_ | refine br_t (by omega) ?_ | refine fun (K' : K3) hK' => ?_ | (refine hK' _ _ _ ?_; clear hK' K'))
            refine Tri.loop (γ := Nat) (fun j => j ≤ bs.length) (fun j => [(1, V.c (.sl 1 bs.length)), (2, V.c (.int .u8 d)), (3, V.c (.ptr 2 0)), (9, V.c (.sl 3 th.length)), (12, V.c (.ptr 4 0)), (13, V.c (.bool (memK bs p j))), (71, V.c (.sl 3 th.length)), (72, V.i th.length), (73, V.i (k : Nat)), (77, V.c (.sl 1 bs.length)), (78, V.i bs.length), (79, V.i (j : Nat))])
              (fun j => [⟨4, .own 57, [C.i p.1, C.i p.2]⟩, ⟨3, .ro 2, cellC th⟩, ⟨2, .own 24, [C.i W, C.i H, .sl 0 cs.length]⟩, ⟨0, .ro 0, cs.map C.i⟩, ⟨1, .ro 2, cellC bs⟩]) 5 (fun j => bs.length - j) 0 (R0 := []) ?_ ?_ ?_
            · omega
            · skip
              refine ⟨?_, ?_, rfl, rfl, by exact Nat.le_of_ble_eq_true rfl⟩
              · repeat (first | exact trivial | (refine And.intro (covS_syn (by rfl) rfl (by first | exact trivial | exact Nat.le_of_ble_eq_true rfl)) ?_) | refine And.intro (covS_bool rfl rfl (by rfl)) ?_)
              · repeat (first | exact trivial | (refine And.intro (covE_id (Nat.le_of_ble_eq_true rfl) (by first | exact wf_ints _ _ | first | exact wf_cells _ _ | simp [C.wf]) rfl (by rfl)) ?_))
            · intro j hj
              refine vc_ok tok ?_
              by_cases hjl : j < bs.length
              · have hld2 := cellT (l := bs) (k := j) rfl hjl
                have hms := memK_succ (p := p) hjl
                obtain ⟨q, hq⟩ : ∃ q, q = bs.getD j cz := ⟨_, rfl⟩
                rw [← hq] at hld2 hms
                cases hm : memK bs p j with
                | true =>
                  have hm1 : memK bs p (j + 1) = true := by rw [hms, hm]; rfl
                  repeat ((conv => whnf); first | (refine And.intro (by first | omega | exact Nat.le_of_ble_eq_true rfl | (dsimp only [inK]; omega)) ?_) | with_reducible refine ld (hld2) ?_ | refine br_t (by omega) ?_ | refine fun (K' : K3) hK' => ?_ | (refine hK' _ _ _ ?_; clear hK' K') | refine bs_bt rfl ?_)
                  refine ⟨j + 1, [], by omega, by omega, ?_⟩
                  rw [hm1]
                  refine ⟨?_, ?_, rfl, rfl, by exact Nat.le_of_ble_eq_true rfl⟩
                  · repeat (first | exact trivial | (refine And.intro (covS_syn (by rfl) rfl (by first | exact trivial | exact Nat.le_of_ble_eq_true rfl)) ?_) | refine And.intro (covS_bool rfl rfl (by rfl)) ?_)
                  · repeat (first | exact trivial | (refine And.intro (covE_id (Nat.le_of_ble_eq_true rfl) (by first | exact wf_ints _ _ | first | exact wf_cells _ _ | simp [C.wf]) rfl (by rfl)) ?_))
                | false =>
                  have hm1 : memK bs p (j + 1) = (decide (p.1 = q.1) && (decide (p.2 = q.2) && true)) := by
                    rw [hms, hm, Bool.false_or, Bool.and_true, ← Bool.decide_and, decide_eq_decide]
                    exact Prod.ext_iff
                  repeat ((conv => whnf); first | (refine And.intro (by first | omega | exact Nat.le_of_ble_eq_true rfl | (dsimp only [inK]; omega)) ?_) | with_reducible refine ld (hld2) ?_ | refine Exists.intro _ (And.intro rfl ?_) | refine br_t (by omega) ?_ | refine fun (K' : K3) hK' => ?_ | (refine hK' _ _ _ ?_; clear hK' K') | refine bs_bf rfl ?_)
                  refine ⟨j + 1, [], by omega, by omega, ?_⟩
                  rw [hm1]
                  refine ⟨?_, ?_, rfl, rfl, by exact Nat.le_of_ble_eq_true rfl⟩
                  · repeat (first | exact trivial | (refine And.intro (covS_syn (by rfl) rfl (by first | exact trivial | exact Nat.le_of_ble_eq_true rfl)) ?_))
                  · repeat (first | exact trivial | (refine And.intro (covE_id (Nat.le_of_ble_eq_true rfl) (by first | exact wf_ints _ _ | first | exact wf_cells _ _ | simp [C.wf]) rfl (by rfl)) ?_))
              · have hje : j = bs.length := by omega
                subst hje
                rw [memK_end, decide_eq_true hmem]
                repeat ((conv => whnf); first | (refine And.intro (by first | omega | (dsimp only [inK]; omega)) ?_) | refine br_f (by omega) ?_ | refine fun (K' : K3) hK' => ?_ | (refine hK' _ _ _ ?_; clear hK' K') | refine br_bf (Eq.refl false) ?_)
                refine ⟨k + 1, [], by omega, by omega, ?_⟩
                refine ⟨?_, ?_, rfl, rfl, by exact Nat.le_of_ble_eq_true rfl⟩
                · repeat (first | exact trivial | (refine And.intro (covS_syn (by rfl) rfl (by first | exact trivial | exact Nat.le_of_ble_eq_true rfl)) ?_))
                · repeat (first | exact trivial | (refine And.intro (covE_id (Nat.le_of_ble_eq_true rfl) (by first | exact wf_ints _ _ | first | exact wf_cells _ _ | simp [C.wf]) rfl (by rfl)) ?_))
          · have hkl : k = th.length := by omega
            subst hkl
            by_cases h0 : (th.length : Int) = 0
            · repeat ((conv => whnf); first | refine Exists.intro _ (And.intro rfl ?_) | refine br_t (by omega) ?_ | refine br_f (by omega) ?_ | refine fun (K' : K3) hK' => ?_ | (refine hK' _ _ _ ?_; clear hK' K') | refine CallK.val (R := [(0, some 0), (1, some 3)]) k3 (by kernel_rfl) rfl (by simp [V.wf, A.wf, C.wf, V.i]) ⟨roE_ints (l := 0) rfl (by omega) rfl (.inl rfl), roE_cells (l := 3) rfl (by omega) rfl (.inl rfl), trivial⟩ rfl rfl (by simp [V.wf, A.wf, C.wf]) ?_ | refine bs_bf (Eq.refl false) ?_ | refine br_bf (Eq.refl false) ?_ | refine awake_k ?_ | refine CallK.m ?_)
              intro ρ; rfl
            · obtain ⟨i, hi⟩ : ∃ i : Nat, (i : Int) = d % th.length := ⟨(d % th.length).toNat, by have := Int.emod_nonneg d h0; omega⟩
              have hil : i < th.length := by have := Int.emod_lt_of_pos d (show (0 : Int) < th.length by omega); omega
              have hmi := hmin i hil
              have hee := okB_sub hok hth (List.eraseIdx_sublist th i)
              have hel : (th.eraseIdx i).length = i + (th.length - (i + 1)) := by rw [List.length_eraseIdx_of_lt hil]; omega
              have k4 := pBlocks_spec W H cs (th.eraseIdx i) hl (by omega)
              unfold blB blE at k4
              rw [hv, hee, show (chanO W H cs.length (wetB cs (boomF W H (th.eraseIdx i)))).isNone = blkL W H cs (th.eraseIdx i) from rfl, hmi] at k4
              have hi1 : (d % ↑th.length).toNat = i := by omega
              have hi2 : (d % ↑th.length + 1).toNat = i + 1 := by omega
              rw [show (th.eraseIdx i).length = 0 + (d % ↑th.length).toNat + (th.length - (d % ↑th.length + 1).toNat) by rw [hi1, hi2]; omega] at k4
              have hbut : (([] : List C) ++ (cellC th).take ((d % ↑th.length).toNat * 2)) ++ (((cellC th).drop ((d % ↑th.length + 1).toNat * 2)).take ((th.length - (d % ↑th.length + 1).toNat) * 2)).take ((th.length - (d % ↑th.length + 1).toNat) * 2) = cellC (th.eraseIdx i) := by
                rw [hi1, hi2, List.nil_append]; exact cellC_but th i hil
              repeat ((conv => whnf); first | (refine And.intro (by first | omega | (dsimp only [inK]; omega) | (exact ⟨rfl, rfl, rfl, Nat.le_of_ble_eq_true rfl, by rfl, by dsimp only; omega, by omega, Nat.le_of_ble_eq_true rfl⟩) | exact Eq.refl true) ?_) | refine Exists.intro _ (And.intro rfl ?_) | refine br_f (by omega) ?_ | refine fun (K' : K3) hK' => ?_ | (refine hK' _ _ _ ?_; clear hK' K') | refine draw_kill [4, 5] tok mixed (by decide +kernel) ?_ | refine CallK.val (R := [(0, some 0), (1, some 3)]) k3 (by kernel_rfl) rfl (by simp [V.wf, A.wf, C.wf, V.i]) ⟨roE_ints (l := 0) rfl (by omega) rfl (.inl rfl), roE_cells (l := 3) rfl (by omega) rfl (.inl rfl), trivial⟩ rfl rfl (by simp [V.wf, A.wf, C.wf]) ?_ | refine bs_bf (Eq.refl false) ?_ | refine br_bf (Eq.refl false) ?_ | refine And.intro (And.intro rfl (chk_appA _ _ _ _ _)) ?_ | refine And.intro (And.intro rfl (chk_slC _ _ _ _ _ _)) ?_ | refine And.intro ⟨rfl, rfl, rfl, Nat.le_of_ble_eq_true rfl, len_appT th (by omega), len_slT th (by omega), by omega, Nat.le_of_ble_eq_true rfl⟩ ?_ | refine And.intro (And.intro rfl (chk_appC _ _ _ _ _ _ _ _ _)) ?_ | (refine CallK.val (R := [(0, some 0), (1, some 7)]) k4 (by kernel_rfl) rfl (by simp [V.wf, A.wf, C.wf, V.i]) ⟨roE_ints (l := 0) rfl (by omega) rfl (.inl rfl), ⟨by show 1 < 2; omega, wf_cells _ _, _, _, rfl, .inl rfl, (ren_cells _ _).trans (congrArg some hbut.symm)⟩, trivial⟩ rfl rfl (by simp [V.wf, A.wf, C.wf]) ?_) | refine br_bt (Eq.refl true) ?_ | refine awake_k ?_ | refine CallK.m ?_ | refine And.intro (And.intro rfl rfl) ?_)
              intro ρ; rfl
theorem thins_any (W H : Int) (cs : List Int) (bs : List Cell) (m : Int) (hm : 0 ≤ m ∧ m ≤ 255) (ao : Option Addr) (c : Nat) (bo : Option Addr) (d : Nat) (w : World) (h : IntsAt w ao cs) (h2 : CellsAt w bo d bs) :
    Calls Try.prog 10 #[.agg #[.int .i64 W, .int .i64 H, .slice ao cs.length c], .slice bo bs.length d, .int .u8 m] w fun e w' => e = .returned (.bool true) ∧ Below w.heap.size w w' := by
  by_cases hl : (cs.length : Int) > 300 ∨ (bs.length : Int) > 250
  · exact isTrue_any (vs := [chR W H cs.length, V.c (.sl 1 bs.length), V.c (.int .u8 m)]) (thins_long W H cs bs m h.2 h2.2.2 hl) (hp_2 h h2) (by simp [V.wf, A.wf, C.wf]) rfl
  · exact isTrue_any (vs := [chR W H cs.length, V.c (.sl 1 bs.length), V.c (.int .u8 m)]) (thins_spec W H cs bs m hm (fun e => hl (.inl e)) (fun e => hl (.inr e))) (hp_2 h h2) (by simp [V.wf, A.wf, C.wf]) rfl
end Go.Proofs.Ytbhpnhcdjmcaoaa

