/- Texts of the proof, part 5: D1, D2, D3, X4, X7, X9, P16, X5, P10, P11, P17, X6, P18, P21, D4, D5, L14. -/
import Derived.Test.YtbhpnhcdjmcaoaaY4
import Derived.WalkKit
import Derived.Below
import Derived.Laws.OwnMore
import Derived.Maps.AppendAt
import Derived.Laws.IdiomCopy
import Derived.Laws.CopyRow
import Derived.IntWalk
import Derived.StillTail
import Derived.Scope
import Derived.ChangeKeysEq
import Derived.Laws.Small
import Derived.OrdersIn
import Derived.TacticsIn
import Derived.OwnWalkIn
import Derived.RangeFuncNested
import Derived.RangeFuncLeaves
import Derived.RangeFuncRecord
import Derived.Maps.Keyed
import Derived.Maps.RangeRun
import Derived.DeepKeys4
import Derived.Test.YtbhpnhcdjmcaoaaRows
import Derived.KernelRfl
import Derived.ProofKit
import Derived.OpenShut
import Derived.Lib.SmallJoins
import Derived.Deep.Slices
import Derived.Sort.LoopGhostIn
import Derived.Shelf.Sort.Plain
import Derived.Shelf.Slices.In.SortNone
/- Boom: charts that are told cell by cell. -/
namespace Go.Proofs.Ytbhpnhcdjmcaoaa
open Go.RowKit
set_option linter.unusedVariables false
set_option linter.unusedSimpArgs false
theorem fn_wf3 {nx : Nat} {f : FuncId} {caps : List (Nat × Nat)} (h : (caps.all fun p => Nat.blt p.1 nx) = true) : (V.c (.fn f caps)).wf nx := fun p hp => Nat.le_of_ble_eq_true (List.all_eq_true.1 h p hp)
def chgL (cs : List Int) (g : Int → Int) : List Int := (List.range cs.length).map fun i : Nat => g (i : Int)
def chgK (g : Int → Int) (k : Nat) : List Int := (List.range k).map fun i : Nat => g (i : Int)
theorem chgL_len (cs : List Int) (g : Int → Int) : (chgL cs g).length = cs.length := by simp [chgL]
def dryG (W H : Int) (cs : List Int) (bs : List Cell) (i : Int) : Int := if boomF W H bs i then -1 else cs.getD i.toNat 0
def turnI (W H i : Int) : Int := (H - 1 - i / W) * W + i % W
def turnG (W H : Int) (cs : List Int) (i : Int) : Int := cs.getD (turnI W H i).toNat 0
def strG (cs : List Int) (most : Int) (i : Int) : Int := if cs.getD i.toNat 0 > most then 0 else cs.getD i.toNat 0
theorem turnI_bd {W H i : Int} (hW : 0 < W) (hi : 0 ≤ i) (hn : i < W * H) : 0 ≤ turnI W H i ∧ turnI W H i < W * H := by
  have h1 := Int.emod_nonneg i (show W ≠ 0 by omega)
  have h2 := Int.emod_lt_of_pos i hW
  have h4 : 0 ≤ i / W := Int.ediv_nonneg hi (by omega)
  have h5 : i / W < H := Int.ediv_lt_of_lt_mul hW (by rw [Int.mul_comm]; exact hn)
  unfold turnI
  have h6 : 0 ≤ (H - 1 - i / W) * W := Int.mul_nonneg (by omega) (by omega)
  have h7 : (H - 1 - i / W) * W ≤ (H - 1) * W := Int.mul_le_mul_of_nonneg_right (by omega) (by omega)
  have h8 : (H - 1) * W = W * H - W := by rw [Int.sub_mul, Int.mul_comm H W]; omega
  omega
/-- A chart that comes about, and an error. -/
def chgR (W H : Int) (l : List Int) (v : V) (L' : List E) : Prop := ∃ lab, v = V.agg [C.i W, C.i H, .sl lab l.length] ∧ find L' lab = some ⟨lab, .vec 3 1, l.map C.i⟩

end Go.Proofs.Ytbhpnhcdjmcaoaa

/- Boom: Dry, Turned, Strong. -/
namespace Go.Proofs.Ytbhpnhcdjmcaoaa
open Go.RowKit
set_option linter.unusedVariables false
set_option linter.unusedSimpArgs false
section
variable {P : Program} {n0 nx nac : Nat} {f : FuncId} {vs vs' : List V} {Lc L : List E} {R : Rn} {K : V → List E → Nat → Prop}
theorem CallK.chg {W H : Int} {l : List Int} (spec : Spec P f vs Lc nac (fun v L' _ => chgR W H l v L')) (hok : callB P f = true)
    (hv : renVs R vs = some vs') (hvw : ∀ v ∈ vs, v.wf nac) (hL : roL R nac L Lc) (hLc : injB [] Lc = true)
    (hK : K (V.agg [C.i W, C.i H, .sl nx l.length]) [⟨nx, .vec 3 1, l.map C.i⟩] (nx + 1)) : CallK P n0 f vs' L nx K := by
  refine CallK.mk' hok spec hv hvw hL hLc ?_
  rintro v L' nx' hw ⟨lab, rfl, hf⟩
  refine ⟨V.agg [C.i W, C.i H, .sl nx l.length], [⟨nx, .vec 3 1, l.map C.i⟩], nx + 1, [(nx, some lab)], ⟨Nat.le_succ _, ?_, ?_, ⟨covE_some (renL_one _ _) (Nat.lt_succ_self nx) (wf_ints _ _) hf (ren_ints _ _), trivial⟩, rfl, ?_⟩, hK⟩
  · simp [V.ren, A.ren, C.ren, renL_one, C.i, seqO]
  · simp [V.chk, A.chk, C.chk, inLab_one, C.i]
  · simp only [List.all_cons, List.all_nil, Bool.and_true, inLab_one, Kd.isRo, Bool.not_false, Bool.true_and]
    exact chk_ints _ _
/-- A chart and an error. -/
def chrE (o : Option (List Int)) (W H Er : Int) (v : V) (L' : List E) : Prop := match o with
  | none => v = V.tup [A.agg [C.i 0, C.i 0, .nil], A.c (C.i Er)]
  | some l => ∃ lab, v = V.tup [A.agg [C.i W, C.i H, .sl lab l.length], A.c (C.i 0)] ∧ find L' lab = some ⟨lab, .vec 3 1, l.map C.i⟩
end
def dryO (W H : Int) (cs : List Int) (bs : List Cell) : Option (List Int) := if okC W H cs = true ∧ okB W H cs bs = true then some (chgL cs (dryG W H cs bs)) else none
def dryE (W H : Int) (cs : List Int) (bs : List Cell) : Int := if okC W H cs = true then (if okB W H cs bs = true then 0 else 2) else 30
def turnO (W H : Int) (cs : List Int) : Option (List Int) := if okC W H cs = true then some (chgL cs (turnG W H cs)) else none
def turnE (W H : Int) (cs : List Int) : Int := if okC W H cs = true then 0 else 30
def strO (W H : Int) (cs : List Int) (most : Int) : Option (List Int) := if okC W H cs = true ∧ (0 ≤ most ∧ most ≤ 100) then some (chgL cs (strG cs most)) else none
def strE (W H : Int) (cs : List Int) (most : Int) : Int := if okC W H cs = true then (if 0 ≤ most ∧ most ≤ 100 then 0 else 2) else 30
end Go.Proofs.Ytbhpnhcdjmcaoaa

/- Boom, the reference: booms; Dry, Turned, Strong; charts that are the same. -/
namespace Go.Proofs.Ytbhpnhcdjmcaoaa
open Go.RowKit
set_option linter.unusedVariables false
set_option linter.unusedSimpArgs false
def askE (W H : Int) (cs : List Int) (bs : List Cell) : Int := if okC W H cs = true then (if okB W H cs bs = true then 0 else 2) else 30
/-- What comes about, cell by cell. -/
def mixL (cs : List Int) (b : Int → Bool) (g : Int → Int) : List Int := (List.range cs.length).map fun i : Nat => if b (i : Int) then g (i : Int) else cs.getD i 0
end Go.Proofs.Ytbhpnhcdjmcaoaa

/- Boom, the reference: the shortest channel that comes first, and whether booms block. -/
namespace Go.Proofs.Ytbhpnhcdjmcaoaa
open Go.RowKit
set_option linter.unusedVariables false
set_option linter.unusedSimpArgs false
/-- The first of some cells that is wanted; -1: none is. -/
def firstF (p : Int → Bool) (l : List Int) : Int := match l.find? p with
  | some k => k
  | none => -1
end Go.Proofs.Ytbhpnhcdjmcaoaa

/- Boom: ref.Flooded. -/
namespace Go.Proofs.Ytbhpnhcdjmcaoaa
open Go.RowKit
set_option linter.unusedVariables false
set_option linter.unusedSimpArgs false
noncomputable def flC (W H : Int) (cs : List Int) (bs : List Cell) : List Cell := if okC W H cs && okB W H cs bs then floK W (floB W H cs.length (wetB cs (boomF W H bs))) cs.length else []
end Go.Proofs.Ytbhpnhcdjmcaoaa

/- Boom: Flooded. -/
namespace Go.Proofs.Ytbhpnhcdjmcaoaa
open Go.RowKit
set_option linter.unusedVariables false
set_option linter.unusedSimpArgs false
set_option maxRecDepth 10000 in
set_option maxHeartbeats 8000000 in
theorem pFlooded_spec (W H : Int) (cs : List Int) (bs : List Cell) (hl : cs.length ≤ 300) (hb : bs.length ≤ 300) :
    Spec Try.prog 52 [chR W H cs.length, V.c (.sl 1 bs.length)] [⟨0, .ro 0, cs.map C.i⟩, ⟨1, .ro 0, cellC bs⟩] 2 (fun v L' _ => cellsE (flC W H cs bs) (blE W H cs bs) v L') := by
  unfold flC blE
  refine Spec.of tok Try.func52 rfl rfl rfl fun n0 cx => ?_
  refine Tri.seq (vc_ok tok ?_)
  repeat ((conv => whnf); first | refine fun (K' : K3) hK' => ?_ | (refine hK' _ _ _ ?_; clear hK' K'))
  refine Tri.seq (vc_ok tok ?_)
  cases hv : okC W H cs with
  | false =>
    repeat ((conv => whnf); first | (refine And.intro (by first | omega | exact Nat.le_of_ble_eq_true rfl) ?_) | refine Exists.intro _ (And.intro rfl ?_) | refine fun (K' : K3) hK' => ?_ | (refine hK' _ _ _ ?_; clear hK' K') | refine CallK.newNo (a := 0) (bs := bs) (R := []) 30 hl hb (.inl ⟨hv, rfl⟩) rfl rfl ⟨roE_ints (l := 0) rfl (by omega) rfl (.inl rfl), roE_cells (l := 1) rfl (by omega) rfl (.inl rfl), trivial⟩ ?_ | refine CallK.m ?_)
    refine Tri.seq (vc_ok tok ?_)
    repeat ((conv => whnf); first | refine Exists.intro _ (And.intro rfl ?_) | refine br_t (by omega) ?_ | refine fun (K' : K3) hK' => ?_ | (refine hK' _ _ _ ?_; clear hK' K'))
    exact .inl ⟨rfl, rfl⟩
  | true =>
    cases hB : okB W H cs bs with
    | false =>
      repeat ((conv => whnf); first | (refine And.intro (by first | omega | exact Nat.le_of_ble_eq_true rfl) ?_) | refine Exists.intro _ (And.intro rfl ?_) | refine fun (K' : K3) hK' => ?_ | (refine hK' _ _ _ ?_; clear hK' K') | refine CallK.newNo (a := 0) (bs := bs) (R := []) 2 hl hb (.inr ⟨hv, hB, rfl⟩) rfl rfl ⟨roE_ints (l := 0) rfl (by omega) rfl (.inl rfl), roE_cells (l := 1) rfl (by omega) rfl (.inl rfl), trivial⟩ ?_ | refine CallK.m ?_)
      refine Tri.seq (vc_ok tok ?_)
      repeat ((conv => whnf); first | refine Exists.intro _ (And.intro rfl ?_) | refine br_t (by omega) ?_ | refine fun (K' : K3) hK' => ?_ | (refine hK' _ _ _ ?_; clear hK' K'))
      exact .inl ⟨rfl, rfl⟩
    | true =>
      have hok := okC_iff.1 hv
      have hfr := from_spec W H cs (boomF W H bs) 0 hok (by have := hok.w; omega)
      have hdom : ∀ {i m : Int}, distW W H cs.length (wetB cs (boomF W H bs)) 0 i = some m → (0 ≤ i ∧ i < cs.length) ∧ wetB cs (boomF W H bs) i = true := fun h => distW_dom (by have := hok.w; omega) hok.len h
      rw [show (if (true && true) = true then floK W (floB W H cs.length (wetB cs (boomF W H bs))) cs.length else []) = floK W (floB W H cs.length (wetB cs (boomF W H bs))) cs.length from rfl]
      repeat ((conv => whnf); first | (refine And.intro (by first | omega | exact Nat.le_of_ble_eq_true rfl) ?_) | refine Exists.intro _ (And.intro rfl ?_) | refine fun (K' : K3) hK' => ?_ | (refine hK' _ _ _ ?_; clear hK' K') | refine CallK.newOk (a := 0) (bs := bs) (R := []) hl hb hv hB rfl rfl (by omega) ⟨roE_ints (l := 0) rfl (by omega) rfl (.inl rfl), roE_cells (l := 1) rfl (by omega) rfl (.inl rfl), trivial⟩ ?_ | refine CallK.m ?_)
      refine Tri.seq (vc_ok tok ?_)
      repeat ((conv => whnf); first | refine br_f (by omega) ?_ | refine fun (K' : K3) hK' => ?_ | (refine hK' _ _ _ ?_; clear hK' K'))
      refine Tri.seq (vc_ok tok ?_)
      repeat ((conv => whnf); first | refine fun (K' : K3) hK' => ?_ | (refine hK' _ _ _ ?_; clear hK' K'))
      refine Tri.seq ?_
      refine ⟨fun ρ a w hna hs hp hi => ?_⟩
      obtain ⟨K5, hK5⟩ : ∃ K : K3, K = fun s5 L5 nx5 => look s5 6 = some (V.c (.ptr 4 0)) ∧ look s5 8 = some (V.c .nil) ∧ look s5 20 = some (V.c (.mp 5)) ∧ L5 = [⟨5, .mp true .int (stepF (distW W H cs.length (wetB cs (boomF W H bs)) 0)), []⟩, ⟨4, .own 65, [C.i W, C.i H, .sl 0 cs.length, .mp 3]⟩, ⟨3, .mp true .int (bmF (boomF W H bs)), []⟩, ⟨2, .own 24, [C.i W, C.i H, .sl 0 cs.length]⟩, ⟨0, .ro 0, cs.map C.i⟩, ⟨1, .ro 0, cellC bs⟩] ∧ nx5 = 6 := ⟨_, rfl⟩
      refine seq_last tok (l := [_, _]) (r := [_]) (K := K5) rfl ?_ hna hs hp hi ?_ ?_
      · intro o ho
        simp at ho
        rcases ho with rfl | rfl <;> rfl
      · skip
        repeat ((conv => whnf); first | refine Exists.intro _ (And.intro rfl ?_) | refine CallK.mapR (R := [(1, some 3)]) hfr (by kernel_rfl) rfl (by simp [V.wf, A.wf, C.wf, V.i]) ⟨roE_ints (l := 0) rfl (by omega) rfl (.inl rfl), roE_map (l := 3) rfl (by omega) rfl, trivial⟩ rfl ?_ | refine CallK.m ?_)
        rw [hK5]
        exact ⟨rfl, rfl, rfl, rfl, rfl⟩
      · rintro a5 w5 ⟨ρ5, s5, L5, nx5, h1, h2, h3, h4, h5, h6⟩
        rw [hK5] at h6
        obtain ⟨q6, q8, q20, rfl, rfl⟩ := h6
        have hW0 : 0 < W := by have := hok.w; omega
        have hWH : (cs.length : Int) ≤ 100 := by have := Int.mul_le_mul hok.w.2 hok.h.2 (by have := hok.h; omega) (by omega : (0:Int) ≤ 10); have := hok.len; omega
        have hflo : ∀ i : Nat, floB W H cs.length (wetB cs (boomF W H bs)) i = (distW W H cs.length (wetB cs (boomF W H bs)) 0 i).isSome := fun i => rfl
        obtain ⟨flo, hfl⟩ : ∃ f, f = floB W H cs.length (wetB cs (boomF W H bs)) := ⟨_, rfl⟩
        rw [← hfl]
        rw [← hfl] at hflo
        obtain ⟨dO, hdO⟩ : ∃ d, d = distW W H cs.length (wetB cs (boomF W H bs)) 0 := ⟨_, rfl⟩
        rw [← hdO] at h4
        simp only [← hdO] at hdom hflo
        clear hfl hdO hK5 hfr
        obtain ⟨b, es, clock, hb1, hb2, hb3, hb4, _⟩ := h4.ok ⟨5, .mp true .int (stepF dO), []⟩ (by simp)
        simp only at hb1
        have hblt : b < w5.heap.size := (Array.getElem?_eq_some_iff.1 hb3).1
        have hev : a5.eval (.tmp 20) = .map (some b) := by
          rw [(h3.ev (.tmp 20) _ q20).1]; simp [V.den, A.den, C.den, hb1]
        have hst := hb4.st
        have hkv : ∀ e ∈ es.toList, ∃ k m : Int, e.key = .int .i64 k ∧ e.val = .int .i64 m ∧ dO k = some m := by
          intro e he
          obtain ⟨k, v, e1, e2, e3, e4⟩ := hb4.val e he
          match k, e1.1, e2, e3 with
          | [k], _, e2, e3 =>
            have e3 : stepF dO [k] = some v := e3
            cases hd : dO k with
            | none => rw [stepF_none hd] at e3; cases e3
            | some m => rw [stepF_some hd] at e3; cases e3; exact ⟨k, m, e2, e4, hd⟩
        have hqn : ∀ {E : List MapEntry} {q : List Int}, (∀ e ∈ E, e ∈ es.toList) → (E.map (·.born)).Nodup → E.map (·.key) = q.map (Value.int .i64) → q.Nodup ∧ (∀ x ∈ q, ∃ m, dO x = some m) ∧ q.length ≤ 100 := by
          intro E q m1 m2 m3
          have n1 : (E.map (·.key)).Nodup := by
            rw [List.nodup_iff_pairwise_ne, List.pairwise_map]
            rw [List.nodup_iff_pairwise_ne, List.pairwise_map] at m2
            refine List.Pairwise.imp_of_mem (fun {x y} hx hy hxy hk => hxy ?_) m2
            rw [map_inj_nd hst.2.2 (m1 x hx) (m1 y hy) hk]
          have n2 : q.Nodup := by
            rw [m3, List.nodup_iff_pairwise_ne, List.pairwise_map] at n1
            exact List.nodup_iff_pairwise_ne.2 (List.Pairwise.imp (fun h e => h (by rw [e])) n1)
          have n3 : ∀ x ∈ q, ∃ m, dO x = some m := fun x hx => by
            have : Value.int .i64 x ∈ E.map (·.key) := by rw [m3]; exact List.mem_map.2 ⟨x, hx, rfl⟩
            obtain ⟨e, he, hek⟩ := List.mem_map.1 this
            obtain ⟨k, m, e1, _, e3⟩ := hkv e (m1 e he)
            rw [e1] at hek
            cases hek
            exact ⟨m, e3⟩
          have n4 := nodup_len cs.length q n2 fun x hx => by obtain ⟨m, hm⟩ := n3 x hx; exact (hdom hm).1
          exact ⟨n2, n3, by omega⟩
        have hn0 : n0 ≤ w5.heap.size := h4.base
        refine wpListIn_raw rfl (fun c h => by cases h) (v := .pointer (some ⟨w5.heap.size, 0, none⟩)) (w1 := w5.alloc (.mapIter (some b) clock #[] clock)) ?_ ?_
        · simp [execOp, hev, run_range_map (P := Try.prog) w5 108 3 3 b es clock Try.underlying108 hb3, Result.andThen]
        · show Exit.then _ _ .normal _ _
          have hput := (Env.put_agr ρ5 6 none 0).lt
          have hal : Below w5.heap.size w5 (w5.alloc (.mapIter (some b) clock #[] clock)) := (Below.refl _ _).alloc (Nat.le_refl _) _
          have hP := h3.put hput (Nat.le_succ 6) (dst := some 21) rfl (v := V.c (.v (.pointer (some ⟨w5.heap.size, 0, none⟩)))) rfl
          refine wpIn_mono (MR.loop (P := Try.prog) (cx := cx) (N := Try.f52.ntmps) (n0 := n0) (ρ0 := ρ5) (w0 := w5) (b := b) (r := w5.heap.size) (es := es) (clock := clock) ?_ ?_) ?_
          · intro E q a w hM
            obtain ⟨⟨ρ', hS, hH, hA, hI⟩, hK, hB, hit, hmem, hnd, hkey⟩ := hM
            obtain ⟨hq1, hq2, hq3⟩ := hqn hmem hnd hkey
            have hbw : w.heap[b]? = some (.map es clock) := (hB.block b hblt).trans hb3
            have hev21 : a.eval (.tmp 21) = .pointer (some ⟨w5.heap.size, 0, none⟩) := (hS.ev (.tmp 21) _ rfl).1
            rcases run_next_at (P := Try.prog) w 0 w5.heap.size b clock clock _ es clock hit hbw hst.1 (Nat.le_refl _) with ⟨h0, hrun⟩ | ⟨e, he, w1, hw1, hrun⟩
            · have hemp : ∀ e ∈ es.toList, e.born ∈ E.map (·.born) := by
                intro e he
                by_cases hm : e.born ∈ E.map (·.born)
                · exact hm
                · exfalso
                  have h1 : e ∈ (leftOf es (E.map (·.born)).toArray).toList := by
                    simp only [leftOf, Array.toList_filter, List.mem_filter]
                    exact ⟨he, by simpa using hm⟩
                  have h2 : (leftOf es (E.map (·.born)).toArray).toList = [] := List.eq_nil_of_length_eq_zero (by simpa using h0)
                  rw [h2] at h1; cases h1
              obtain ⟨K6, hK6⟩ : ∃ K : Kt, K = fun e s L nx => e = .exit 0 ∧ look s 6 = some (V.c (.ptr 4 0)) ∧ look s 8 = some (V.c (.sl 6 q.length)) ∧ look s 21 = some (V.c (.v (.pointer (some ⟨w5.heap.size, 0, none⟩)))) ∧ L = [⟨6, .vec 3 1, q.map C.i⟩] ∧ nx = 7 := ⟨_, rfl⟩
              refine wpIn_mono (raw_seq tok (n0 := w5.heap.size + 1) (na := 6) (cx := cx) (K := K6) (l := [_]) (v := .tuple #[.bool false]) (w1 := w) rfl rfl (fun c h => by cases h) ?_ (by omega) (hS.put (AgrLt.refl _ _) (Nat.le_refl _) (dst := some 22) rfl (v := V.tup [A.c .ff]) ?_) hH ?_ ?_) ?_
              · simp [execOp, hev21, hrun, Result.andThen]
              · simp [V.wf, A.wf, C.wf]
              · rw [put_defers]; exact hI
              · skip
                repeat ((conv => whnf); refine And.intro (by omega) ?_)
                rw [hK6]
                exact ⟨rfl, rfl, rfl, rfl, rfl, rfl⟩
              · rintro e a' w' ⟨ρ2, s2, L2, nx2, g1, g2, g3, g4, g5, g6⟩
                rw [hK6] at g6
                obtain ⟨rfl, k6, k8, k21, rfl, rfl⟩ := g6
                refine ⟨⟨⟨ρ2, SlOK.of g3.size fun p hp => ?_, g4, hA.trans g2 (Nat.le_refl _), g5.2⟩, hK.trans ⟨g5.1.bel.mono (by omega), g5.1.stay⟩, hB.trans (g5.1.bel.mono (by omega)), (g5.1.bel.block _ (by omega)).trans hit, hmem, hnd, hkey⟩, hemp⟩
                simp only [List.mem_cons, List.not_mem_nil, or_false] at hp
                rcases hp with rfl | rfl | rfl
                · exact g3.ok 6 _ k6
                · exact g3.ok 8 _ k8
                · exact g3.ok 21 _ k21
            · have hel : e ∈ es.toList ∧ e.born ∉ E.map (·.born) := by
                simp only [leftOf, Array.toList_filter, List.mem_filter] at he
                exact ⟨he.1, by simpa using he.2⟩
              obtain ⟨k, m, hk1, hk2, hk3⟩ := hkv e hel.1
              rw [hk1, hk2] at hrun
              have hkd := (hdom hk3).1
              obtain ⟨w2, hw2⟩ : ∃ w2, w2 = Go.ChangeMaps.setBlock w1 w5.heap.size (.mapIter (some b) clock ((E.map (·.born)).toArray.push e.born) clock) := ⟨_, rfl⟩
              rw [← hw2] at hrun
              have hg : w.grownBy w2 (some w5.heap.size) := by
                rw [hw2]
                rcases hw1 with rfl | rfl
                · exact setBlock_grown _
                · have := setBlock_grown (w := w.drew) (b := w5.heap.size) (.mapIter (some b) clock ((E.map (·.born)).toArray.push e.born) clock)
                  exact ⟨this.os, this.tape, this.output, this.size, this.block⟩
              have hr2 : w2.heap[w5.heap.size]? = some (.mapIter (some b) clock ((E.map (·.born)).toArray.push e.born) clock) := by
                rw [hw2]
                refine setBlock_same (o := .mapIter (some b) clock (E.map (·.born)).toArray clock) ?_
                rcases hw1 with rfl | rfl <;> exact hit
              have hb2 : w2.heap[b]? = some (.map es clock) := (hg.block b (by have := (Array.getElem?_eq_some_iff.1 hbw).1; omega) (fun h => by cases h; omega)).trans hbw
              have hK2 : Keep n0 cx w w2 := Keep.row hg (fun b' hb' => by cases hb'; exact ⟨hn0, fun o ho => by rw [hit] at ho; cases ho; rfl⟩) (Nat.le_trans hn0 (by have := hH.base; omega))
              have hB2 : Below w5.heap.size w w2 := ⟨hg.os, hg.tape, hg.output, hg.size, fun i hi => hg.block i (by have := hH.base; omega) (fun h => by cases h; omega)⟩
              have hH2 : Hp (w5.heap.size + 1) ρ' w2 [⟨6, .vec 3 1, q.map C.i⟩] 7 := ⟨Nat.le_trans hH.base hg.size, fun x hx => (hH.ok x hx).kept hg (fun _ b' hb' heq => by
                cases heq
                rw [List.mem_singleton.1 hx] at hb'
                have := (hH.ok _ (List.mem_singleton.2 rfl)).blk_ge rfl _ hb'
                omega), hH.wf, hH.fn, hH.apart⟩
              obtain ⟨K7, hK7⟩ : ∃ K : K3, K = fun s L nx => look s 6 = some (V.c (.ptr 4 0)) ∧ look s 8 = some (V.c (.sl 6 q.length)) ∧ look s 21 = some (V.c (.v (.pointer (some ⟨w5.heap.size, 0, none⟩)))) ∧ look s 23 = some (V.a (A.c .tt)) ∧ L = [⟨6, .vec 3 1, q.map C.i⟩] ∧ nx = 7 := ⟨_, rfl⟩
              refine raw_seq2 tok (n0 := w5.heap.size + 1) (na := 6) (cx := cx) (K := K7) (l := [_]) (v := .tuple #[.bool true, .int .i64 k, .int .i64 m]) (w1 := w2) rfl rfl (fun c h => by cases h) ?_ (by omega) (hS.put (AgrLt.refl _ _) (Nat.le_refl _) (dst := some 22) rfl (v := V.tup [A.c .tt, A.c (C.i k), A.c (C.i m)]) ?_) hH2 ?_ ?_ ?_
              · simp [execOp, hev21, hrun, Result.andThen]
              · simp [V.wf, A.wf, C.wf]
              · rw [put_defers]; exact hI.keep (AgrLt.refl _ _) hK2
              · skip
                repeat ((conv => whnf); refine And.intro (by omega) ?_)
                rw [hK7]
                exact ⟨rfl, rfl, rfl, rfl, rfl, rfl⟩
              · rintro a3 w3 ⟨ρ3, s3, L3, nx3, g1, g2, g3, g4, g5, g6⟩
                rw [hK7] at g6
                obtain ⟨k6, k8, k21, k23, rfl, rfl⟩ := g6
                have hS3 : SlOK Try.f52.ntmps ρ3 a3 [(6, V.c (.ptr 4 0)), (8, V.c (.sl 6 q.length)), (21, V.c (.v (.pointer (some ⟨w5.heap.size, 0, none⟩))))] 7 := SlOK.of g3.size fun p hp => by
                  simp only [List.mem_cons, List.not_mem_nil, or_false] at hp
                  rcases hp with rfl | rfl | rfl
                  · exact g3.ok 6 _ k6
                  · exact g3.ok 8 _ k8
                  · exact g3.ok 21 _ k21
                have hr3 := (g5.1.bel.block w5.heap.size (by omega)).trans hr2
                have hb3' := (g5.1.bel.block b (by omega)).trans hb2
                have hev3 : a3.eval (.tmp 21) = .pointer (some ⟨w5.heap.size, 0, none⟩) := (hS3.ev (.tmp 21) _ rfl).1
                refine wpIn_seq (wpIn_cond_true ((g3.ev (.tmp 23) _ k23).1) (wpIn_skip ?_))
                show Exit.then _ _ .normal _ _
                obtain ⟨K9, hK9⟩ : ∃ K : Kt, K = fun e s L nx => e = .normal ∧ Enter [(6, some 8)] 6 7 s L [(6, V.c (.ptr 4 0)), (8, V.c (.sl 6 (q.length + 1))), (21, V.c (.v (.pointer (some ⟨w5.heap.size, 0, none⟩))))] [⟨6, .vec 3 1, (q ++ [k]).map C.i⟩] := ⟨_, rfl⟩
                refine wpIn_block (wpIn_mono (raw_seq tok (n0 := w5.heap.size + 1) (na := 6) (cx := cx) (K := K9) (l := [_, _]) (v := .tuple #[.int .i64 k, .int .i64 m]) (w1 := w3) rfl rfl (fun c h => by cases h) ?_ (by omega) (hS3.put (AgrLt.refl _ _) (Nat.le_refl _) (dst := some 24) rfl (v := V.tup [A.c (C.i k), A.c (C.i m)]) ?_) g4 ?_ ?_) ?_)
                · have hen := run_entry_at (P := Try.prog) w3 w5.heap.size b clock _ es clock e hr3 hb3' hel.1 hst.2.1
                  rw [hk1, hk2] at hen
                  simp [execOp, hev3, hen, Result.andThen]
                · simp [V.wf, A.wf, C.wf]
                · rw [put_defers]; exact g5.2
                · skip
                  repeat ((conv => whnf); first | (refine And.intro (by first | omega | (dsimp only [inK]; omega) | (exact ⟨rfl, rfl, rfl, Nat.le_of_ble_eq_true rfl, by simp; done, by exact Nat.le_of_ble_eq_true rfl, by omega, Nat.le_of_ble_eq_true rfl⟩)) ?_) | refine fun (K' : K3) hK' => ?_ | (refine hK' _ _ _ ?_; clear hK' K'))
                  rw [hK9]
                  refine ⟨rfl, ?_⟩
                  have hy : (Value.pointer (some ⟨w5.heap.size, 0, none⟩)).oneCell' = true := rfl
                  refine ⟨?_, ?_, rfl, rfl, by exact Nat.le_of_ble_eq_true rfl⟩
                  · repeat (first | exact trivial | (refine And.intro (covS_syn (by rfl) rfl (by first | exact Nat.le_of_ble_eq_true rfl | exact hy)) ?_))
                  · repeat (first | exact trivial | (refine And.intro (covE_some rfl (Nat.le_of_ble_eq_true rfl) (by exact wf_ints _ _) rfl (by refine (ren_ints _ _).trans (congrArg some ?_); rw [List.map_append]; rfl)) ?_))
                · rintro e' a' w' ⟨ρ4, s4, L4, nx4, f1, f2, f3, f4, f5, f6⟩
                  rw [hK9] at f6
                  obtain ⟨rfl, hent⟩ := f6
                  obtain ⟨r1, r2, r3⟩ := hent.state f3 f4
                  have hb4' : Below (w5.heap.size + 1) w2 w' := g5.1.bel.trans f5.1.bel
                  refine ⟨e, k, hel.2, ⟨renE [(6, some 8)] ρ4, by rw [List.length_append]; exact r1, r2, ((hA.trans g2 (Nat.le_refl _)).trans f2 (Nat.le_refl _)).trans r3 (Nat.le_refl _), f5.2.keep r3 (Keep.refl (n0 := n0) _)⟩, ((hK.trans hK2).trans ⟨g5.1.bel.mono (by omega), g5.1.stay⟩).trans ⟨f5.1.bel.mono (by omega), f5.1.stay⟩, (hB.trans hB2).trans (hb4'.mono (by omega)), ?_, ?_, ?_, ?_⟩
                  · rw [(hb4'.block _ (by omega)).trans hr2]
                    simp
                  · intro x hx
                    rcases List.mem_append.1 hx with hx | hx
                    · exact hmem x hx
                    · rw [List.mem_singleton.1 hx]; exact hel.1
                  · rw [List.map_append, List.nodup_append]
                    refine ⟨hnd, by simp, fun x hx y hy => ?_⟩
                    simp only [List.map_cons, List.map_nil, List.mem_singleton] at hy
                    subst hy
                    intro h; subst h; exact hel.2 hx
                  · rw [List.map_append, List.map_append, hkey]
                    simp [hk1]
          · refine ⟨⟨ρ5.put 6 none 0, ?_, ?_, hput, ?_⟩, Keep.of hal h4.base, hal, heap_alloc_new _ _, fun e he => (by cases he), List.nodup_nil, rfl⟩
            · refine SlOK.of hP.size fun p hp => ?_
              simp only [List.mem_cons, List.not_mem_nil, or_false] at hp
              rcases hp with rfl | rfl | rfl
              · exact hP.ok 6 _ q6
              · refine ⟨(hP.ok 8 _ q8).1.trans ?_, by show 6 < 7; omega⟩
                simp [V.den, A.den, C.den, Env.put_same]
              · exact hP.ok 21 _ rfl
            · refine ⟨by simp, fun e he => ?_, fun e he => ?_, fun e he e' he' _ => ?_, fun e he e' he' _ hne => ?_⟩
              · rw [List.mem_singleton.1 he]
                refine ⟨0, ?_⟩
                simp only [Env.put_same]
                exact rowO_nil _ _ _ _
              · rw [List.mem_singleton.1 he]; exact ⟨by show 6 < 7; omega, fun c hc => by cases hc⟩
              · rw [List.mem_singleton.1 he, List.mem_singleton.1 he']
              · rw [List.mem_singleton.1 he, List.mem_singleton.1 he'] at hne; exact absurd rfl hne
            · rw [put_defers]
              exact (h5.2.na (by omega)).keep hput (Keep.of hal h4.base)
          · rintro e a' w' ⟨rfl, E, q, hM, hall⟩
            obtain ⟨⟨ρ', hS, hH, hA, hI⟩, hK, hB, hit, hmem, hnd, hkey⟩ := hM
            obtain ⟨hq1, hq2, hq3⟩ := hqn hmem hnd hkey
            have hmq : ∀ x, x ∈ q ↔ ∃ m, dO x = some m := fun x => ⟨hq2 x, fun ⟨m, hm⟩ => by
              obtain ⟨_, y, hy, hyk⟩ := hb4.has [x] (.i m) (stepF_some hm)
              obtain ⟨e', he', heb⟩ := List.mem_map.1 (hall y hy)
              have := map_inj_nd hst.2.1 (hmem e' he') hy heb
              subst this
              have h1 : e'.key ∈ E.map (·.key) := List.mem_map.2 ⟨e', he', rfl⟩
              rw [hkey, hyk] at h1
              obtain ⟨z, hz, hzx⟩ := List.mem_map.1 h1
              have : z = x := by
                have h2 : Value.int .i64 z = Value.int .i64 x := hzx
                injection h2
              rw [← this]; exact hz⟩
            have hsrt : (q.mergeSort fun x y => decide (x ≤ y)) = ((List.range cs.length).filter fun i : Nat => flo (i : Int)).map fun i : Nat => (i : Int) := sort_eq hq1 (floI_sorted flo _) fun x => by
              rw [hmq, List.mem_map]
              constructor
              · rintro ⟨m, hm⟩
                have h1 := (hdom hm).1
                refine ⟨x.toNat, List.mem_filter.2 ⟨List.mem_range.2 (by omega), ?_⟩, by omega⟩
                rw [hflo, show ((x.toNat : Nat) : Int) = x by omega, hm]; rfl
              · rintro ⟨i, hi, rfl⟩
                have h1 := (List.mem_filter.1 hi).2
                rw [hflo] at h1
                exact Option.isSome_iff_exists.1 h1
            have hcl : cellsL W (q.mergeSort fun x y => decide (x ≤ y)) = floK W flo cs.length := by
              rw [hsrt]; unfold cellsL floK; rw [List.map_map]; rfl
            have hce := cells_spec W H cs.length (q.mergeSort fun x y => decide (x ≤ y)) hW0 (by rw [List.length_mergeSort]; omega) (fun k hk => by
              have h1 : (q.mergeSort fun x y => decide (x ≤ y)).getD k 0 ∈ (q.mergeSort fun x y => decide (x ≤ y)) := getD_mem hk
              rw [List.mem_mergeSort] at h1
              obtain ⟨m, hm⟩ := hq2 _ h1
              have := (hdom hm).1
              omega)
            rw [List.length_mergeSort] at hce
            have hag7 : AgrLt 7 ρ' (fun l => if l < 7 then ρ' l else ρ5 l) := fun l hl => if_pos hl
            have hag6 : AgrLt 6 ρ' (fun l => if l < 7 then ρ' l else ρ5 l) := hag7.mono (by omega)
            have hS7 := hS.agr hag7 (Nat.le_refl 7)
            have hH7 := hH.env hag7
            have hI7 := hI.keep hag6 (Keep.refl (n0 := n0) (cx := cx) w')
            refine ⟨fun l => if l < 7 then ρ' l else ρ5 l, [(6, V.c (.ptr 4 0)), (8, V.c (.sl 6 q.length))], _, 7, by omega, fun l hl => ?_, SlOK.of hS7.size fun p hp => ?_, h4.news' (new := [⟨6, .vec 3 1, q.map C.i⟩]) ⟨fun e he => ?_, fun e he => ?_, fun e he e' he' _ => ?_, fun e he e' he' _ hne => ?_, fun e he => ?_⟩ hB (fun l hl => ?_) (by omega), ⟨h5.1.trans hK, h5.2.le, hI7.agr, hI7.df, hI7.nd, hI7.lo, hI7.rd, hI7.lt⟩, ?_⟩
            · show (if l < 7 then ρ' l else ρ5 l) = ρ l
              rw [if_pos (by omega), hA l (by omega), h2 l hl]
            · simp only [List.mem_cons, List.not_mem_nil, or_false] at hp
              rcases hp with rfl | rfl
              · exact hS7.ok 6 _ rfl
              · exact hS7.ok 8 _ rfl
            · rw [List.mem_singleton.1 he]
              exact (hH7.ok _ (List.mem_singleton.2 rfl)).base (by omega)
            · rw [List.mem_singleton.1 he]
              exact ⟨⟨Nat.le_refl 6, by show 6 < 7; omega⟩, (hH7.wf _ (List.mem_singleton.2 rfl)).2⟩
            · rw [List.mem_singleton.1 he, List.mem_singleton.1 he']
            · rw [List.mem_singleton.1 he, List.mem_singleton.1 he'] at hne; exact absurd rfl hne
            · rw [List.mem_singleton.1 he]
              exact .inl fun b' hb' => by
                have := (hH7.ok _ (List.mem_singleton.2 rfl)).blk_ge rfl _ hb'
                omega
            · show (if l < 7 then ρ' l else ρ5 l) = ρ5 l
              by_cases hl7 : l < 7
              · rw [if_pos hl7, hA l (by omega)]
              · rw [if_neg hl7]
            · show Tri _ _ _ _ _ _ _ _ _ _
              refine vc_ok tok ?_
              repeat ((conv => whnf); first | refine Exists.intro _ (And.intro rfl ?_) | refine fun (K' : K3) hK' => ?_ | (refine hK' _ _ _ ?_; clear hK' K') | refine CallM.sort (l := 6) (q := q) rfl (by omega) (by omega) ?_ | refine CallK.cellsR (R := [(1, some 3), (2, some 6)]) hce (by kernel_rfl) rfl (by simp [V.wf, A.wf, C.wf]) ⟨roE_ints (l := 6) rfl (by omega) rfl (.inl rfl), trivial⟩ rfl ?_ | refine CallK.m ?_)
              rw [← hcl]
              exact .inr ⟨_, rfl, rfl⟩
end Go.Proofs.Ytbhpnhcdjmcaoaa

/- Boom, plain: water leads from one shore to the other, or what is dry from the first row to the last, never both. -/
namespace Go.Proofs.Ytbhpnhcdjmcaoaa
open Go.RowKit
set_option linter.unusedVariables false
set_option linter.unusedSimpArgs false
/-- Water from which one comes to the last column, and what is dry from which one comes to the last row. -/
inductive RA (W H : Int) (w : Cell → Bool) : Cell → Prop
  | ini {p : Cell} (h : onB W H p.1 p.2 = true) (hw : w p = true) (hx : p.1 = W - 1) : RA W H w p
  | step {p q : Cell} (h : onB W H p.1 p.2 = true) (hw : w p = true) (ha : adj false p q) (hq : RA W H w q) : RA W H w p
inductive RB (W H : Int) (w : Cell → Bool) : Cell → Prop
  | ini {p : Cell} (h : onB W H p.1 p.2 = true) (hw : w p = false) (hx : p.2 = H - 1) : RB W H w p
  | step {p q : Cell} (h : onB W H p.1 p.2 = true) (hw : w p = false) (ha : adj true p q) (hq : RB W H w q) : RB W H w p
theorem RA.on {W H : Int} {w : Cell → Bool} {p : Cell} (h : RA W H w p) : onB W H p.1 p.2 = true ∧ w p = true := by cases h <;> exact ⟨by assumption, by assumption⟩
theorem RB.on {W H : Int} {w : Cell → Bool} {p : Cell} (h : RB W H w p) : onB W H p.1 p.2 = true ∧ w p = false := by cases h <;> exact ⟨by assumption, by assumption⟩
def imB (a b : Bool) : Bool := !a || b
def edB (ap bp aq bq : Bool) : Bool := (ap && bq) ^^ (bp && aq)
def blkB (w1 a1 b1 w2 a2 b2 w3 a3 b3 w4 a4 b4 : Bool) : Bool :=
  imB (imB a1 w1 && imB a2 w2 && imB a3 w3 && imB a4 w4 && imB b1 !w1 && imB b2 !w2 && imB b3 !w3 && imB b4 !w4 &&
    imB (a1 && w2) a2 && imB (a2 && w1) a1 && imB (a1 && w3) a3 && imB (a3 && w1) a1 && imB (a2 && w4) a4 && imB (a4 && w2) a2 && imB (a3 && w4) a4 && imB (a4 && w3) a3 &&
    imB (b1 && !w2) b2 && imB (b2 && !w1) b1 && imB (b1 && !w3) b3 && imB (b3 && !w1) b1 && imB (b1 && !w4) b4 && imB (b4 && !w1) b1 &&
    imB (b2 && !w3) b3 && imB (b3 && !w2) b2 && imB (b2 && !w4) b4 && imB (b4 && !w2) b2 && imB (b3 && !w4) b4 && imB (b4 && !w3) b3)
    (!((edB a1 b1 a2 b2 ^^ edB a3 b3 a4 b4) ^^ (edB a1 b1 a3 b3 ^^ edB a2 b2 a4 b4)))
section
variable {W H : Int} {w : Cell → Bool}
open Classical in
noncomputable def aB (W H : Int) (w : Cell → Bool) (p : Cell) : Bool := decide (p.1 = W ∨ RA W H w p)
open Classical in
noncomputable def bB (W H : Int) (w : Cell → Bool) (p : Cell) : Bool := decide ((p.2 = H ∧ p.1 ≠ W) ∨ RB W H w p)
def wX (W H : Int) (w : Cell → Bool) (p : Cell) : Bool := decide (p.1 = W) || (decide (p.2 ≠ H) && w p)
open Classical in
open Classical in
/-- Within the board and the shore's column and row behind it. -/
def exB (W H : Int) (p : Cell) : Prop := (0 ≤ p.1 ∧ p.1 ≤ W) ∧ 0 ≤ p.2 ∧ p.2 ≤ H
noncomputable def edC (W H : Int) (w : Cell → Bool) (p q : Cell) : Bool := edB (aB W H w p) (bB W H w p) (aB W H w q) (bB W H w q)
noncomputable def rowX (W H : Int) (w : Cell → Bool) (y : Int) : Nat → Bool
  | 0 => false
  | k + 1 => rowX W H w y k ^^ edC W H w (k, y) (k + 1, y)
theorem RA.in {p : Cell} (h : RA W H w p) : p.1 < W ∧ p.2 < H := by have := onB_t h.on.1; omega
theorem RB.in {p : Cell} (h : RB W H w p) : p.1 < W ∧ p.2 < H := by have := onB_t h.on.1; omega
/-- What is dry, as a list from a cell to the last row. -/
def dryL (W H : Int) (w : Cell → Bool) : List Cell → Prop
  | [] => False
  | [p] => onB W H p.1 p.2 = true ∧ w p = false ∧ p.2 = H - 1
  | p :: q :: r => (onB W H p.1 p.2 = true ∧ w p = false ∧ adj true p q) ∧ dryL W H w (q :: r)
theorem RB.list {p : Cell} (h : RB W H w p) : ∃ r, dryL W H w (p :: r) := by
  induction h with
  | ini h hw hx => exact ⟨[], h, hw, hx⟩
  | step h hw ha hq ih => obtain ⟨r, hr⟩ := ih; exact ⟨_ :: r, ⟨h, hw, ha⟩, hr⟩
/-- Over each pair of neighbours, the last cell's lower neighbour among them. -/
def xr (H : Int) (s : Cell → Cell → Bool) : List Cell → Bool
  | [] => false
  | [p] => s p (p.1, H)
  | p :: q :: r => s p q ^^ xr H s (q :: r)
/-- Steps between row y and the next one whose end in row y lies left of x; steps between row y and the one before. -/
def crS (x y : Int) (p q : Cell) : Bool := decide (p.2 = y ∧ q.2 = y + 1 ∧ p.1 < x) || decide (q.2 = y ∧ p.2 = y + 1 ∧ q.1 < x)
def cgS (x y : Int) (p q : Cell) : Bool := decide (p.2 = y ∧ q.2 = y - 1 ∧ p.1 < x) || decide (q.2 = y ∧ p.2 = y - 1 ∧ q.1 < x)
def lfS (x y : Int) (p : Cell) : Bool := decide (p.2 = y ∧ p.1 < x)
/-- How often the wall over a cell is crossed, the step from above the first row among them. -/
def fS (H x y : Int) : List Cell → Bool
  | [] => false
  | p :: r => crS x y (p.1, -1) p ^^ xr H (crS x y) (p :: r)
end
end Go.Proofs.Ytbhpnhcdjmcaoaa

/- Boom: which lists are channels. -/
namespace Go.Proofs.Ytbhpnhcdjmcaoaa
open Go.RowKit
set_option linter.unusedVariables false
set_option linter.unusedSimpArgs false
/-- What a channel by booms is. -/
structure ChanP (W H : Int) (wet : Int → Bool) (l : List Cell) : Prop where
  on : ∀ j, j < l.length → onB W H (l.getD j cz).1 (l.getD j cz).2 = true
  nd : ∀ j i, j < l.length → i < j → ¬ l.getD j cz = l.getD i cz
  len : 1 ≤ l.length ∧ l.length ≤ 100
  adj : ∀ j, j + 1 < l.length → adj false (l.getD (j + 1) cz) (l.getD j cz)
  wet : ∀ j, j < l.length → wet (idxU W (l.getD j cz)) = true
  left : (l.getD 0 cz).1 = 0
  right : (l.getD (l.length - 1) cz).1 = W - 1
def isChP (W H : Int) (wet : Int → Bool) (l : List Cell) : Bool := listOkK W H l l.length && (lenOk l && ((decide ((listI W H l).getD 0 0 % W = 0) && decide ((listI W H l).getD (l.length - 1) 0 % W = W - 1)) && ((!(listI W H l).any fun i => !wet i) && follB W H false (listI W H l) l.length)))
def isChR (W H : Int) (wet : Int → Bool) (l : List Cell) : Bool := isWayB W H l false && ((decide ((l.getD 0 cz).1 = 0) && decide ((l.getD (l.length - 1) cz).1 = W - 1)) && l.all fun p => wet (idxU W p))
theorem getD_all {l : List Cell} {p : Cell → Bool} : (l.all p) = true ↔ ∀ j, j < l.length → p (l.getD j cz) = true := by
  rw [List.all_eq_true]
  constructor
  · intro h j hj
    refine h _ ?_
    rw [List.getD_eq_getElem?_getD, List.getElem?_eq_getElem hj]; exact List.getElem_mem hj
  · intro h x hx
    obtain ⟨j, hj, rfl⟩ := List.getElem_of_mem hx
    have := h j hj
    rwa [List.getD_eq_getElem?_getD, List.getElem?_eq_getElem hj] at this
theorem isChR_iff {W H : Int} {wet : Int → Bool} {l : List Cell} : isChR W H wet l = true ↔ ChanP W H wet l := by
  unfold isChR
  rw [Bool.and_eq_true, Bool.and_eq_true, Bool.and_eq_true, isWay_iff, getD_all, decide_eq_true_eq, decide_eq_true_eq]
  exact ⟨fun ⟨⟨h1, h2, h3, h4⟩, ⟨h5, h6⟩, h7⟩ => ⟨h1, h2, h3, h4, h7, h5, h6⟩, fun h => ⟨⟨h.on, h.nd, h.len, h.adj⟩, ⟨h.left, h.right⟩, h.wet⟩⟩
theorem isChP_iff {W H : Int} {wet : Int → Bool} {l : List Cell} (hW : 0 < W) : isChP W H wet l = true ↔ ChanP W H wet l := by
  unfold isChP
  rw [Bool.and_eq_true, listOk_iff hW]
  have key : ∀ (hon : ∀ j, j < l.length → onB W H (l.getD j cz).1 (l.getD j cz).2 = true), (lenOk l && ((decide ((listI W H l).getD 0 0 % W = 0) && decide ((listI W H l).getD (l.length - 1) 0 % W = W - 1)) && ((!(listI W H l).any fun i => !wet i) && follB W H false (listI W H l) l.length))) = true ↔
      (1 ≤ l.length ∧ l.length ≤ 100) ∧ ((l.getD 0 cz).1 = 0 ∧ (l.getD (l.length - 1) cz).1 = W - 1) ∧ (∀ j, j < l.length → wet (idxU W (l.getD j cz)) = true) ∧ ∀ j, j + 1 < l.length → adj false (l.getD (j + 1) cz) (l.getD j cz) := by
    intro hon
    rw [Bool.and_eq_true]
    have hlen : lenOk l = true ↔ 1 ≤ l.length ∧ l.length ≤ 100 := by unfold lenOk; rw [decide_eq_true_eq]; omega
    rw [hlen]
    constructor
    · rintro ⟨h1, h2⟩
      refine ⟨h1, ?_⟩
      rw [Bool.and_eq_true, Bool.and_eq_true, Bool.and_eq_true, decide_eq_true_eq, decide_eq_true_eq, listI_get (by omega), listI_get (by omega), (idxC_mod (hon 0 (by omega))).2.1, (idxC_mod (hon (l.length - 1) (by omega))).2.1] at h2
      obtain ⟨⟨h3, h4⟩, h5, h6⟩ := h2
      have h7 := (foll_iff (e := false) hon).1 h6
      refine ⟨⟨h3, h4⟩, fun j hj => ?_, h7⟩
      simp only [Bool.not_eq_true', List.any_eq_false] at h5
      have := h5 ((listI W H l).getD j 0) (getD_mem (by rw [listI_len]; exact hj))
      rw [listI_get hj, (idxC_mod (hon j hj)).1] at this
      simpa using this
    · rintro ⟨h1, h2, h3, h4⟩
      refine ⟨h1, ?_⟩
      rw [Bool.and_eq_true, Bool.and_eq_true, Bool.and_eq_true, decide_eq_true_eq, decide_eq_true_eq, listI_get (by omega), listI_get (by omega), (idxC_mod (hon 0 (by omega))).2.1, (idxC_mod (hon (l.length - 1) (by omega))).2.1]
      refine ⟨h2, ?_, ?_⟩
      · simp only [Bool.not_eq_true', List.any_eq_false]
        intro x hx
        obtain ⟨j, hj, rfl⟩ := List.getElem_of_mem hx
        rw [listI_len] at hj
        have e : (listI W H l)[j]'(by rw [listI_len]; exact hj) = (listI W H l).getD j 0 := by rw [List.getD_eq_getElem?_getD, List.getElem?_eq_getElem]; rfl
        rw [e, listI_get hj, (idxC_mod (hon j hj)).1]
        simpa using h3 j hj
      · exact (foll_iff (e := false) hon).2 h4
  constructor
  · rintro ⟨⟨h1, h2⟩, h3⟩
    obtain ⟨h4, ⟨h5, h6⟩, h7, h8⟩ := (key h1).1 h3
    exact ⟨h1, h2, h4, h8, h7, h5, h6⟩
  · intro h
    exact ⟨⟨h.on, h.nd⟩, (key h.on).2 ⟨h.len, ⟨h.left, h.right⟩, h.wet, h.adj⟩⟩
theorem isCh_eq {W H : Int} {wet : Int → Bool} {l : List Cell} (hW : 0 < W) : isChP W H wet l = isChR W H wet l := by
  rw [Bool.eq_iff_iff, isChP_iff hW, isChR_iff]
def isChB (W H : Int) (cs : List Int) (bs l : List Cell) : Bool := (okC W H cs && okB W H cs bs) && isChR W H (wetB cs (boomF W H bs)) l
theorem dry92_spec (W H : Int) (cs : List Int) (f : Int → Bool) (i : Nat) (hi : i < cs.length) (hl : cs.length ≤ 300) : Spec Try.prog 92 [V.i i, V.c (.ptr 3 0)] [⟨1, .mp false .int (bmF f), []⟩, ⟨2, .ro 0, cs.map C.i⟩, ⟨3, .ro 0, [C.i W, C.i H, .sl 2 cs.length, .mp 1]⟩] 4 (Is (V.c (.bool (!wetB cs f i)))) := by
  have hwt := wet_spec W H cs f i hi hl
  have hwe : wetB cs f (i : Int) = (decide (cs.getD i 0 ≠ -1) && !f i) := by simp [wetB]
  rw [← hwe] at hwt
  refine Spec.of tok Try.func92 rfl rfl rfl fun n0 cx => vc_ok tok ?_
  repeat ((conv => whnf); first | refine Exists.intro _ (And.intro rfl ?_) | refine fun (K' : K3) hK' => ?_ | (refine hK' _ _ _ ?_; clear hK' K') | refine CallK.val (R := [(0, some 2)]) hwt (by kernel_rfl) rfl (by simp [V.wf, A.wf, C.wf]) ⟨roE_ints (l := 2) rfl (by omega) rfl (.inl rfl), roE_map (l := 1) rfl (by omega) rfl, trivial⟩ rfl rfl trivial ?_ | refine CallK.m ?_)
  intro ρ; rfl
theorem anyDry_spec (W H : Int) (cs : List Int) (f : Int → Bool) (l : List Int) (hl : l.length ≤ 300) (hc : cs.length ≤ 300) (hin : ∀ k, k < l.length → 0 ≤ l.getD k 0 ∧ l.getD k 0 < cs.length) :
    Spec Try.prog 77 [V.c (.sl 0 l.length), V.c (.fn 92 [(3, 0)])] [⟨0, .ro 0, l.map C.i⟩, ⟨1, .mp false .int (bmF f), []⟩, ⟨2, .ro 0, cs.map C.i⟩, ⟨3, .ro 0, [C.i W, C.i H, .sl 2 cs.length, .mp 1]⟩] 4 (Is (V.c (.bool (l.any fun i => !wetB cs f i)))) := by
  have hwf : ∀ e ∈ [(⟨1, .mp false .int (bmF f), []⟩ : E), ⟨2, .ro 0, cs.map C.i⟩, ⟨3, .ro 0, [C.i W, C.i H, .sl 2 cs.length, .mp 1]⟩], e.lab < 4 ∧ ∀ c ∈ e.cs, c.wf 4 := by
    intro e he
    simp only [List.mem_cons, List.not_mem_nil, or_false] at he
    rcases he with rfl | rfl | rfl
    · exact ⟨by show 1 < 4; omega, fun c hc => by cases hc⟩
    · exact ⟨by show 2 < 4; omega, wf_ints _ _⟩
    · exact ⟨by show 3 < 4; omega, by simp [C.wf]⟩
  refine contains_any (p := fun i => !wetB cs f i) (Lc := [(⟨1, .mp false .int (bmF f), []⟩ : E), ⟨2, .ro 0, cs.map C.i⟩, ⟨3, .ro 0, [C.i W, C.i H, .sl 2 cs.length, .mp 1]⟩]) hl (by kernel_rfl) (fun i hi => ?_) (by simp) (by omega) hwf (fun L h => ?_) rfl ?_
  · obtain ⟨k, hk⟩ : ∃ k : Nat, (k : Int) = l.getD i 0 := ⟨(l.getD i 0).toNat, by have := hin i hi; omega⟩
    rw [← hk]
    exact dry92_spec W H cs f k (by have := hin i hi; omega) hc
  · have h1 := h _ (List.mem_cons_self ..)
    have h2 := h _ (List.mem_cons_of_mem _ (List.mem_cons_self ..))
    have h3 := h _ (List.mem_cons_of_mem _ (List.mem_cons_of_mem _ (List.mem_cons_self ..)))
    exact ⟨roE_map (l := 1) rfl (by omega) h1, roE_ints (l := 2) rfl (by omega) h2 (.inl rfl), ⟨by show 3 < 4; omega, by simp [C.wf], _, _, h3, .inl rfl, rfl⟩, trivial⟩
  · exact ⟨roE_ints (l := 0) rfl (by omega) rfl (.inl rfl), roE_map (l := 1) rfl (by omega) rfl, roE_ints (l := 2) rfl (by omega) rfl (.inl rfl), ⟨by show 3 < 4; omega, by simp [C.wf], _, _, rfl, .inl rfl, rfl⟩, trivial⟩
set_option maxRecDepth 10000 in
set_option maxHeartbeats 8000000 in
theorem pIsChannel_spec (W H : Int) (cs : List Int) (bs l : List Cell) (hl : cs.length ≤ 300) (hb : bs.length ≤ 300) (hc : l.length ≤ 300) :
    Spec Try.prog 49 [chR W H cs.length, V.c (.sl 1 bs.length), V.c (.sl 2 l.length)] [⟨0, .ro 0, cs.map C.i⟩, ⟨1, .ro 0, cellC bs⟩, ⟨2, .ro 2, cellC l⟩] 3 (Is (V.tup [A.c (.bool (isChB W H cs bs l)), A.c (C.i (blE W H cs bs))])) := by
  unfold isChB blE
  refine Spec.of tok Try.func49 rfl rfl rfl fun n0 cx => vc_ok tok ?_
  cases hv : okC W H cs with
  | false =>
    repeat ((conv => whnf); first | (refine And.intro (by first | omega | exact Nat.le_of_ble_eq_true rfl) ?_) | refine Exists.intro _ (And.intro rfl ?_) | refine br_t (by omega) ?_ | refine fun (K' : K3) hK' => ?_ | (refine hK' _ _ _ ?_; clear hK' K') | refine CallK.newNo (a := 0) (bs := bs) (R := []) 30 hl hb (.inl ⟨hv, rfl⟩) rfl rfl ⟨roE_ints (l := 0) rfl (by omega) rfl (.inl rfl), roE_cells (l := 1) rfl (by omega) rfl (.inl rfl), trivial⟩ ?_ | refine CallK.m ?_)
    intro ρ; rfl
  | true =>
    cases hB : okB W H cs bs with
    | false =>
      repeat ((conv => whnf); first | (refine And.intro (by first | omega | exact Nat.le_of_ble_eq_true rfl) ?_) | refine Exists.intro _ (And.intro rfl ?_) | refine br_t (by omega) ?_ | refine fun (K' : K3) hK' => ?_ | (refine hK' _ _ _ ?_; clear hK' K') | refine CallK.newNo (a := 0) (bs := bs) (R := []) 2 hl hb (.inr ⟨hv, hB, rfl⟩) rfl rfl ⟨roE_ints (l := 0) rfl (by omega) rfl (.inl rfl), roE_cells (l := 1) rfl (by omega) rfl (.inl rfl), trivial⟩ ?_ | refine CallK.m ?_)
      intro ρ; rfl
    | true =>
      have hok := okC_iff.1 hv
      have hW := hok.w
      have hH := hok.h
      have hcl := hok.len
      have hn : (cs.length : Int) ≤ 100 := by have := Int.mul_le_mul hW.2 hH.2 (by omega) (by omega : (0:Int) ≤ 10); omega
      have hli := listed_spec W H cs.length l (by omega) (by omega) hc
      have hieq := isCh_eq (H := H) (wet := wetB cs (boomF W H bs)) (l := l) (show 0 < W by omega)
      unfold isChP at hieq
      cases hlo : listOkK W H l l.length with
      | false =>
        rw [hlo] at hieq
        rw [← hieq]
        repeat ((conv => whnf); first | (refine And.intro (by first | omega | exact Nat.le_of_ble_eq_true rfl) ?_) | refine Exists.intro _ (And.intro rfl ?_) | refine br_f (by omega) ?_ | refine fun (K' : K3) hK' => ?_ | (refine hK' _ _ _ ?_; clear hK' K') | refine draw_auto tok mixed (by kernel_rfl) ?_ | refine CallK.newOk (a := 0) (bs := bs) (R := []) hl hb hv hB rfl rfl (by omega) ⟨roE_ints (l := 0) rfl (by omega) rfl (.inl rfl), roE_cells (l := 1) rfl (by omega) rfl (.inl rfl), trivial⟩ ?_ | refine CallK.lisF (R := [(1, some 4)]) hlo hli (by kernel_rfl) rfl (by simp [V.wf, A.wf, C.wf]) ⟨roE_cells rfl (by omega) rfl (.inr rfl), trivial⟩ rfl ?_ | refine CallK.m ?_)
        intro ρ; rfl
      | true =>
        rw [hlo] at hieq
        cases hle : lenOk l with
        | false =>
          rw [hle] at hieq
          rw [← hieq]
          repeat ((conv => whnf); first | (refine And.intro (by first | omega | exact Nat.le_of_ble_eq_true rfl) ?_) | refine Exists.intro _ (And.intro rfl ?_) | refine br_f (by omega) ?_ | refine fun (K' : K3) hK' => ?_ | (refine hK' _ _ _ ?_; clear hK' K') | refine draw_auto tok mixed (by kernel_rfl) ?_ | refine CallK.newOk (a := 0) (bs := bs) (R := []) hl hb hv hB rfl rfl (by omega) ⟨roE_ints (l := 0) rfl (by omega) rfl (.inl rfl), roE_cells (l := 1) rfl (by omega) rfl (.inl rfl), trivial⟩ ?_ | refine CallK.lisT (R := [(1, some 4)]) hlo hli (by kernel_rfl) rfl (by simp [V.wf, A.wf, C.wf]) ⟨roE_cells rfl (by omega) rfl (.inr rfl), trivial⟩ rfl ?_ | refine bs_bt (congrArg Bool.not hle) ?_ | refine CallK.m ?_)
          intro ρ; rfl
        | true =>
          rw [hle] at hieq
          have hlen : 1 ≤ l.length ∧ l.length ≤ 100 := by unfold lenOk at hle; rw [decide_eq_true_eq] at hle; omega
          have hin := listOk_in (show 0 < W by omega) hlo
          have hkl := listI_len W H l
          have hfo := follows_spec W H cs.length false (listI W H l) (by omega) (by omega) (by omega) hin
          have han := anyDry_spec W H cs (boomF W H bs) (listI W H l) (by omega) hl (fun k hk => by have := hin k hk; omega)
          have h0 := intLz (l := listI W H l) (k := 0) (z := 0) rfl (by omega)
          have h9 := intLz (l := listI W H l) (k := l.length - 1) (z := (l.length : Int) - 1) (by omega) (by omega)
          have hi0 := hin 0 (by omega)
          have hi9 := hin (l.length - 1) (by omega)
          rw [hkl] at hfo han
          obtain ⟨x0, hx0⟩ : ∃ x, x = (listI W H l).getD 0 0 := ⟨_, rfl⟩
          obtain ⟨x9, hx9⟩ : ∃ x, x = (listI W H l).getD (l.length - 1) 0 := ⟨_, rfl⟩
          rw [← hx0] at h0 hi0 hieq
          rw [← hx9] at h9 hi9 hieq
          obtain ⟨fo, hfoe⟩ : ∃ b, b = follB W H false (listI W H l) l.length := ⟨_, rfl⟩
          rw [← hfoe] at hfo hieq
          obtain ⟨an, hane⟩ : ∃ b, b = (listI W H l).any fun i => !wetB cs (boomF W H bs) i := ⟨_, rfl⟩
          rw [← hane] at han hieq
          have hkm : ((listI W H l).map C.i).length = l.length := by simp [listI]
          by_cases g0 : x0 % W = 0
          · by_cases g9 : x9 % W = W - 1
            · rw [dd_t g0, dd_t g9] at hieq
              cases an with
              | true =>
                rw [← hieq]
                repeat ((conv => whnf); first | (refine And.intro (by first | omega | exact Nat.le_of_ble_eq_true rfl | (dsimp only [inK]; omega)) ?_) | with_reducible refine ld (h0) ?_ | with_reducible refine ld (h9) ?_ | refine Exists.intro _ (And.intro rfl ?_) | refine br_f (by omega) ?_ | refine bs_f (by omega) ?_ | refine fun (K' : K3) hK' => ?_ | (refine hK' _ _ _ ?_; clear hK' K') | refine draw_auto tok mixed (by kernel_rfl) ?_ | refine CallK.newOk (a := 0) (bs := bs) (R := []) hl hb hv hB rfl rfl (by omega) ⟨roE_ints (l := 0) rfl (by omega) rfl (.inl rfl), roE_cells (l := 1) rfl (by omega) rfl (.inl rfl), trivial⟩ ?_ | refine CallK.lisT (R := [(1, some 4)]) hlo hli (by kernel_rfl) rfl (by simp [V.wf, A.wf, C.wf]) ⟨roE_cells rfl (by omega) rfl (.inr rfl), trivial⟩ rfl ?_ | refine bs_bf (congrArg Bool.not hle) ?_ | (refine HD_mk (fun _ h => CallK.val (R := [(0, some 6), (1, some 4), (2, some 0), (3, some 5)]) han (by kernel_rfl) rfl (by intro v hv; simp only [List.mem_cons, List.not_mem_nil, or_false] at hv; rcases hv with rfl | rfl; simp [V.wf, A.wf, C.wf]; exact fn_wf3 rfl) ⟨roE_ints (l := 6) rfl (by omega) rfl (.inl rfl), roE_map (l := 4) rfl (by omega) rfl, roE_ints (l := 0) rfl (by omega) rfl (.inl rfl), ⟨by show 3 < 4; omega, by simp [C.wf], _, _, rfl, .inl rfl, rfl⟩, trivial⟩ rfl rfl trivial h) ?_) | refine br_bt (Eq.refl true) ?_ | refine CallK.m ?_)
                intro ρ; rfl
              | false =>
                rw [← hieq]
                repeat ((conv => whnf); first | (refine And.intro (by first | omega | exact Nat.le_of_ble_eq_true rfl | (dsimp only [inK]; omega)) ?_) | with_reducible refine ld (h0) ?_ | with_reducible refine ld (h9) ?_ | refine Exists.intro _ (And.intro rfl ?_) | refine br_f (by omega) ?_ | refine bs_f (by omega) ?_ | refine fun (K' : K3) hK' => ?_ | (refine hK' _ _ _ ?_; clear hK' K') | refine draw_auto tok mixed (by kernel_rfl) ?_ | refine CallK.newOk (a := 0) (bs := bs) (R := []) hl hb hv hB rfl rfl (by omega) ⟨roE_ints (l := 0) rfl (by omega) rfl (.inl rfl), roE_cells (l := 1) rfl (by omega) rfl (.inl rfl), trivial⟩ ?_ | refine CallK.lisT (R := [(1, some 4)]) hlo hli (by kernel_rfl) rfl (by simp [V.wf, A.wf, C.wf]) ⟨roE_cells rfl (by omega) rfl (.inr rfl), trivial⟩ rfl ?_ | refine bs_bf (congrArg Bool.not hle) ?_ | (refine HD_mk (fun _ h => CallK.val (R := [(0, some 6), (1, some 4), (2, some 0), (3, some 5)]) han (by kernel_rfl) rfl (by intro v hv; simp only [List.mem_cons, List.not_mem_nil, or_false] at hv; rcases hv with rfl | rfl; simp [V.wf, A.wf, C.wf]; exact fn_wf3 rfl) ⟨roE_ints (l := 6) rfl (by omega) rfl (.inl rfl), roE_map (l := 4) rfl (by omega) rfl, roE_ints (l := 0) rfl (by omega) rfl (.inl rfl), ⟨by show 3 < 4; omega, by simp [C.wf], _, _, rfl, .inl rfl, rfl⟩, trivial⟩ rfl rfl trivial h) ?_) | refine CallK.den (vs := [V.agg [C.i W, C.i H, C.sl 0 cs.length, C.mp 4], V.c (.sl 6 l.length), V.c (.bool false)]) (fun ρ => rfl) (by simp [V.wf, A.wf, C.wf]) (CallK.val (R := [(1, some 4), (2, some 6)]) hfo (by kernel_rfl) rfl (by simp [V.wf, A.wf, C.wf]) ⟨roE_ints (l := 6) rfl (by omega) rfl (.inl rfl), trivial⟩ rfl rfl trivial ?_) | refine br_bf (Eq.refl false) ?_ | refine CallK.m ?_)
                intro ρ; rfl
            · rw [dd_t g0, dd_f g9] at hieq
              rw [← hieq]
              repeat ((conv => whnf); first | (refine And.intro (by first | omega | exact Nat.le_of_ble_eq_true rfl | (dsimp only [inK]; omega)) ?_) | with_reducible refine ld (h0) ?_ | with_reducible refine ld (h9) ?_ | refine Exists.intro _ (And.intro rfl ?_) | refine br_f (by omega) ?_ | refine bs_t (by omega) ?_ | refine bs_f (by omega) ?_ | refine fun (K' : K3) hK' => ?_ | (refine hK' _ _ _ ?_; clear hK' K') | refine draw_auto tok mixed (by kernel_rfl) ?_ | refine CallK.newOk (a := 0) (bs := bs) (R := []) hl hb hv hB rfl rfl (by omega) ⟨roE_ints (l := 0) rfl (by omega) rfl (.inl rfl), roE_cells (l := 1) rfl (by omega) rfl (.inl rfl), trivial⟩ ?_ | refine CallK.lisT (R := [(1, some 4)]) hlo hli (by kernel_rfl) rfl (by simp [V.wf, A.wf, C.wf]) ⟨roE_cells rfl (by omega) rfl (.inr rfl), trivial⟩ rfl ?_ | refine bs_bf (congrArg Bool.not hle) ?_ | refine CallK.m ?_)
              intro ρ; rfl
          · rw [dd_f g0] at hieq
            rw [← hieq]
            repeat ((conv => whnf); first | (refine And.intro (by first | omega | exact Nat.le_of_ble_eq_true rfl | (dsimp only [inK]; omega)) ?_) | with_reducible refine ld (h0) ?_ | refine Exists.intro _ (And.intro rfl ?_) | refine br_f (by omega) ?_ | refine bs_t (by omega) ?_ | refine fun (K' : K3) hK' => ?_ | (refine hK' _ _ _ ?_; clear hK' K') | refine draw_auto tok mixed (by kernel_rfl) ?_ | refine CallK.newOk (a := 0) (bs := bs) (R := []) hl hb hv hB rfl rfl (by omega) ⟨roE_ints (l := 0) rfl (by omega) rfl (.inl rfl), roE_cells (l := 1) rfl (by omega) rfl (.inl rfl), trivial⟩ ?_ | refine CallK.lisT (R := [(1, some 4)]) hlo hli (by kernel_rfl) rfl (by simp [V.wf, A.wf, C.wf]) ⟨roE_cells rfl (by omega) rfl (.inr rfl), trivial⟩ rfl ?_ | refine bs_bf (congrArg Bool.not hle) ?_ | refine CallK.m ?_)
            intro ρ; rfl
end Go.Proofs.Ytbhpnhcdjmcaoaa

/- Boom, plain: barriers of the charts that are upside down, with dead cells, with dry booms. -/
namespace Go.Proofs.Ytbhpnhcdjmcaoaa
open Go.RowKit
set_option linter.unusedVariables false
set_option linter.unusedSimpArgs false
section
variable {W H : Int} {cs : List Int}
theorem CO.chg (hok : CO W H cs) {g : Int → Int} (hg : ∀ i : Int, 0 ≤ i → i < cs.length → -1 ≤ g i ∧ g i ≤ 100) : CO W H (chgL cs g) :=
  ⟨hok.w, hok.h, by rw [chgL_len]; exact hok.len, fun x hx => by
    unfold chgL at hx
    obtain ⟨i, hi, rfl⟩ := List.mem_map.1 hx
    have := List.mem_range.1 hi
    exact hg _ (by omega) (by omega)⟩
theorem CO.get (hok : CO W H cs) {i : Int} (h0 : 0 ≤ i) (h : i < cs.length) : -1 ≤ cs.getD i.toNat 0 ∧ cs.getD i.toNat 0 ≤ 100 := by
  have hk : i.toNat < cs.length := by omega
  rw [List.getD_eq_getElem?_getD, List.getElem?_eq_getElem hk]
  exact hok.cost _ (List.getElem_mem hk)
theorem CO.turn (hok : CO W H cs) : CO W H (chgL cs (turnG W H cs)) := hok.chg fun i h0 h => by
  have hw := hok.w
  have := turnI_bd (W := W) (H := H) (by omega) h0 (by have := hok.len; omega)
  exact hok.get this.1 (by have := hok.len; omega)
theorem CO.str (hok : CO W H cs) (most : Int) : CO W H (chgL cs (strG cs most)) := hok.chg fun i h0 h => by
  have := hok.get h0 h
  unfold strG; split <;> omega
theorem CO.dry (hok : CO W H cs) (bs : List Cell) : CO W H (chgL cs (dryG W H cs bs)) := hok.chg fun i h0 h => by
  have := hok.get h0 h
  unfold dryG; split <;> omega
def tp (H : Int) (p : Cell) : Cell := (p.1, H - 1 - p.2)
theorem BarP.mem {l : List Cell} (hb : BarP W H cs l) {p : Cell} (h : p ∈ l) : onB W H p.1 p.2 = true ∧ ¬ cs.getD (idxU W p).toNat 0 = 0 := by
  obtain ⟨j, hj, rfl⟩ := List.mem_iff_getElem.1 h
  have h1 := hb.on j hj
  have h2 := hb.hold j hj
  have hg : l.getD j cz = l[j] := by rw [List.getD_eq_getElem?_getD, List.getElem?_eq_getElem hj]; rfl
  rw [hg] at h1 h2
  exact ⟨h1, h2⟩
end
end Go.Proofs.Ytbhpnhcdjmcaoaa

/- Boom, plain: the booms of a list, and the chart in which those of a barrier are land. -/
namespace Go.Proofs.Ytbhpnhcdjmcaoaa
open Go.RowKit
set_option linter.unusedVariables false
set_option linter.unusedSimpArgs false
def boomsL (W : Int) (cs : List Int) : List Cell := ((List.range cs.length).filter fun i => decide (cs.getD i 0 > 0)).map fun i : Nat => cellI W (i : Int)
def cellsF (W : Int) (cs : List Int) (l : List Cell) : List Cell := (boomsL W cs).filter fun p => decide (p ∈ l)
/-- In order. -/
def ltC (a b : Cell) : Prop := a.2 < b.2 ∨ (a.2 = b.2 ∧ a.1 < b.1)
section
variable {W H : Int} {cs : List Int}
theorem cellI_lt (hW : 0 < W) {i j : Int} (hi : 0 ≤ i) (h : i < j) : ltC (cellI W i) (cellI W j) := by
  have a1 := Int.emod_nonneg i (show W ≠ 0 by omega)
  have a2 := Int.emod_lt_of_pos i hW
  have a3 := Int.mul_ediv_add_emod i W
  have b1 := Int.emod_nonneg j (show W ≠ 0 by omega)
  have b2 := Int.emod_lt_of_pos j hW
  have b3 := Int.mul_ediv_add_emod j W
  have h1 : i / W ≤ j / W := Int.ediv_le_ediv hW (by omega)
  unfold ltC cellI
  simp only
  by_cases h2 : i / W = j / W
  · rw [h2] at a3
    exact .inr ⟨h2, by omega⟩
  · exact .inl (by omega)
end
end Go.Proofs.Ytbhpnhcdjmcaoaa

/- Boom, plain: booms block exactly if there is a barrier of them and of land. -/
namespace Go.Proofs.Ytbhpnhcdjmcaoaa
open Go.RowKit
set_option linter.unusedVariables false
set_option linter.unusedSimpArgs false
section
variable {W H : Int} {cs : List Int}
/-- What is wet, cell by cell. -/
def wetC (W : Int) (wet : Int → Bool) (p : Cell) : Bool := wet (idxU W p)
theorem near_adj {e : Bool} {p q : Cell} (hp : onB W H p.1 p.2 = true) (hq : onB W H q.1 q.2 = true) (h : adj e p q) : idxU W p ∈ nearL W H e (idxU W q) := by
  have := (near_iff (e := e) hp hq).2 h
  rwa [(idxC_mod hp).1, (idxC_mod hq).1] at this
theorem ra_walk (hok : CO W H cs) {wet : Int → Bool} {p : Cell} (h : RA W H (wetC W wet) p) : ∃ l, isWalk (iniW W cs.length wet (W - 1)) (nbW W H cs.length wet) (idxU W p :: l) := by
  induction h with
  | @ini p ho hw hx =>
    have hi := idxU_in hok ho
    refine ⟨[], ?_⟩
    show iniW W cs.length wet (W - 1) (idxU W p) = true
    unfold iniW
    rw [dd_t ⟨hi.1, hi.2.1⟩, show wet (idxU W p) = true from hw, dd_t (by rw [hi.2.2.2]; exact hx)]; rfl
  | @step p q ho hw ha hq ih =>
    obtain ⟨l, hl⟩ := ih
    have hi := idxU_in hok ho
    exact ⟨idxU W q :: l, nbW_iff.2 ⟨⟨hi.1, hi.2.1⟩, hw, near_adj hq.on.1 ho (adj_symm ha), hq.on.2⟩, hl⟩
theorem idx_cellI (hok : CO W H cs) {i : Int} (h0 : 0 ≤ i) (h : i < cs.length) : onB W H (cellI W i).1 (cellI W i).2 = true ∧ idxU W (cellI W i) = i :=
  cellI_idx (by have := hok.w; omega) h0 (by have := hok.len; omega)
theorem adj_near (hok : CO W H cs) {e : Bool} {i k : Int} (hi : 0 ≤ i ∧ i < cs.length) (hk : 0 ≤ k ∧ k < cs.length) (h : k ∈ nearL W H e i) : adj e (cellI W k) (cellI W i) := by
  obtain ⟨a1, a2⟩ := idx_cellI hok hi.1 hi.2
  obtain ⟨b1, b2⟩ := idx_cellI hok hk.1 hk.2
  rw [← (near_iff b1 a1), (idxC_mod a1).1, (idxC_mod b1).1, a2, b2]; exact h
theorem walk_ra (hok : CO W H cs) {wet : Int → Bool} : ∀ {l : List Int} {i : Int}, isWalk (iniW W cs.length wet (W - 1)) (nbW W H cs.length wet) (i :: l) → RA W H (wetC W wet) (cellI W i)
  | [], i, h => by
    have h : iniW W cs.length wet (W - 1) i = true := h
    unfold iniW at h
    simp only [Bool.and_eq_true, decide_eq_true_eq] at h
    obtain ⟨h1, h2, h3⟩ := h
    obtain ⟨a1, a2⟩ := idx_cellI hok h1.1 h1.2
    exact .ini a1 (by unfold wetC; rw [a2]; exact h2) h3
  | k :: r, i, h => by
    obtain ⟨h1, h2, h3, h4⟩ := nbW_iff.1 h.1
    have hk := (nbW_in (by have := hok.w; omega) hok.len i k h.1).2
    obtain ⟨a1, a2⟩ := idx_cellI hok h1.1 h1.2
    exact .step a1 (by unfold wetC; rw [a2]; exact h2) (adj_symm (adj_near hok h1 hk h3)) (walk_ra hok h.2)
/-- There is a channel exactly if water leads from one shore to the other. -/
theorem chan_some {wet : Int → Bool} (hok : CO W H cs) : (∃ l, chanO W H cs.length wet = some l) ↔ ∃ p, RA W H (wetC W wet) p ∧ p.1 = 0 := by
  have hW : 0 < W := by have := hok.w; omega
  have hD := distO_is (iniW W cs.length wet (W - 1)) (nbW W H cs.length wet)
  obtain ⟨h0, rfl⟩ : ∃ h0 : Nat, H = h0 := ⟨H.toNat, by have := hok.h; omega⟩
  constructor
  · rintro ⟨l, h⟩
    unfold chanO chanD at h
    rw [Int.toNat_natCast] at h
    cases hd : distW W h0 cs.length wet (W - 1) (bestC W (distW W h0 cs.length wet (W - 1)) h0) with
    | none => rw [hd] at h; cases h
    | some m =>
      obtain ⟨l', h1, _⟩ := hD.sound _ _ hd
      rcases bestC_spec hW (distW W h0 cs.length wet (W - 1)) h0 with ⟨h2, _⟩ | ⟨b, n, h2, h3, h4⟩
      · rw [h2] at hd
        have := (distW_dom hW hok.len hd).1; omega
      · refine ⟨_, walk_ra hok h1, ?_⟩
        rw [h2]
        show (b : Int) * W % W = 0
        exact Int.mul_emod_left _ _
  · rintro ⟨p, h1, h2⟩
    obtain ⟨l, hl⟩ := ra_walk hok h1
    obtain ⟨n, hn, _⟩ := hD.comp _ _ hl
    have ho := onB_t h1.on.1
    have hi : idxU W p = (p.2.toNat : Int) * W := by unfold idxU; rw [h2, Int.toNat_of_nonneg ho.2.1]; omega
    have hn : distW W h0 cs.length wet (W - 1) ((p.2.toNat : Int) * W) = some n := by rw [← hi]; exact hn
    unfold chanO chanD
    rw [Int.toNat_natCast]
    rcases bestC_spec hW (distW W h0 cs.length wet (W - 1)) h0 with ⟨h3, h4⟩ | ⟨b, m, h3, h4, h5⟩
    · have := h4 p.2.toNat (by omega)
      rw [this] at hn; cases hn
    · rw [h3, h5]; exact ⟨_, rfl⟩
/-- What holds, cell by cell. -/
def dryC (W : Int) (cs : List Int) (p : Cell) : Bool := !hldI cs (idxU W p)
end
end Go.Proofs.Ytbhpnhcdjmcaoaa

/- Boom, the laws: the chart without other booms, and what booms cost. -/
namespace Go.Proofs.Ytbhpnhcdjmcaoaa
open Go.RowKit
set_option linter.unusedVariables false
set_option linter.unusedSimpArgs false
def kpB (W : Int) (bs : List Cell) (k : Int) (j : Nat) : Bool := (bs.take j).any fun p => decide (idxU W p = k)
def deadG (W : Int) (cs : List Int) (bs : List Cell) (i : Int) : Int := if (decide (cs.getD i.toNat 0 ≤ 0) || kpB W bs i bs.length) = true then cs.getD i.toNat 0 else 0
def totK (W : Int) (cs : List Int) (l : List Cell) (k : Nat) : Int := ((l.take k).map fun p => cs.getD (idxU W p).toNat 0).sum
def totC (W : Int) (cs : List Int) (l : List Cell) : Int := (l.map fun p => cs.getD (idxU W p).toNat 0).sum
end Go.Proofs.Ytbhpnhcdjmcaoaa

/- Boom, plain: sets of booms that block, and what they cost. -/
namespace Go.Proofs.Ytbhpnhcdjmcaoaa
open Go.RowKit
set_option linter.unusedVariables false
set_option linter.unusedSimpArgs false
section
variable {W H : Int} {cs : List Int}
theorem CO.dead (hok : CO W H cs) (bs : List Cell) : CO W H (chgL cs (deadG W cs bs)) := hok.chg fun i h0 h => by
  unfold deadG
  have := hok.get h0 h
  split <;> omega
end
end Go.Proofs.Ytbhpnhcdjmcaoaa

/- Boom, plain: what is flooded, and channels. -/
namespace Go.Proofs.Ytbhpnhcdjmcaoaa
open Go.RowKit
set_option linter.unusedVariables false
set_option linter.unusedSimpArgs false
section
variable {W H : Int} {cs : List Int} {wet : Int → Bool}
theorem flo_ini (hok : CO W H cs) {p : Cell} (hp : onB W H p.1 p.2 = true) (hw : wet (idxU W p) = true) (hx : p.1 = 0) : floB W H cs.length wet (idxU W p) = true := by
  have hi := idxU_in hok hp
  exact flo_grow (by have := hok.w; omega) hok.len (by omega) hw (by unfold grwB; rw [dd_t (show idxU W p % W = 0 by omega)]; rfl)
theorem flo_step (hok : CO W H cs) {p q : Cell} (hp : onB W H p.1 p.2 = true) (hq : onB W H q.1 q.2 = true) (ha : adj false p q) (hf : floB W H cs.length wet (idxU W p) = true) (hw : wet (idxU W q) = true) : floB W H cs.length wet (idxU W q) = true := by
  have hi := idxU_in hok hq
  have hn := near_adj hp hq ha
  refine flo_grow (by have := hok.w; omega) hok.len (by omega) hw ?_
  unfold grwB
  rw [Bool.or_eq_true]
  exact .inr (List.any_eq_true.2 ⟨_, hn, hf⟩)
theorem adj_symm0 (hok : CO W H cs) {p q : Cell} (hp : onB W H p.1 p.2 = true) (hq : onB W H q.1 q.2 = true) (ha : adj false p q) : adj false q p := by
  have h1 := near_adj hp hq ha
  have hi := idxU_in hok hp
  have hj := idxU_in hok hq
  have hW : 0 < W := by have := hok.w; omega
  have h2 := near_symm hW (by have := hok.len; omega) (by have := hok.len; omega) h1
  have := adj_near hok (e := false) (i := idxU W p) (k := idxU W q) (by omega) (by omega) h2
  have e1 : cellI W (idxU W p) = p := Prod.ext hi.2.2.2 hi.2.2.1
  have e2 : cellI W (idxU W q) = q := Prod.ext hj.2.2.2 hj.2.2.1
  rw [e1, e2] at this; exact this
/-- A channel's cells are flooded. -/
theorem chan_flo (hok : CO W H cs) {l : List Cell} (h : ChanP W H wet l) : ∀ j, j < l.length → floB W H cs.length wet (idxU W (l.getD j cz)) = true
  | 0, hj => flo_ini hok (h.on 0 hj) (h.wet 0 hj) h.left
  | j + 1, hj => by
    have ih := chan_flo hok h j (by omega)
    exact flo_step hok (h.on j (by omega)) (h.on (j + 1) hj) (adj_symm0 hok (h.on _ hj) (h.on j (by omega)) (h.adj j hj)) ih (h.wet (j + 1) hj)
open Classical in
theorem flo_chan (hok : CO W H cs) : (∃ l, chanO W H cs.length wet = some l) ↔ ∃ q, onB W H q.1 q.2 = true ∧ floB W H cs.length wet (idxU W q) = true ∧ q.1 = W - 1 := by
  have hW : 0 < W := by have := hok.w; omega
  rw [chan_some hok]
  constructor
  · rintro ⟨p, hr, h0⟩
    have key : ∀ {p : Cell}, RA W H (wetC W wet) p → floB W H cs.length wet (idxU W p) = true → ∃ q, onB W H q.1 q.2 = true ∧ floB W H cs.length wet (idxU W q) = true ∧ q.1 = W - 1 := by
      intro p hr
      induction hr with
      | ini ho hw hx => intro hf; exact ⟨_, ho, hf, hx⟩
      | step ho hw ha hq ih => intro hf; exact ih (flo_step hok ho hq.on.1 ha hf hq.on.2)
    exact key hr (flo_ini hok hr.on.1 hr.on.2 h0)
  · rintro ⟨q, ho, hf, hx⟩
    have hi := idxU_in hok ho
    have hg := flo_least (W := W) (H := H) (n := cs.length) (wet := wet) (g := fun i => decide ((0 ≤ i ∧ i < cs.length) ∧ wet i = true ∧ (RA W H (wetC W wet) (cellI W i) → ∃ p, RA W H (wetC W wet) p ∧ p.1 = 0))) (by
      intro i hi hw hg
      rw [decide_eq_true_eq]
      refine ⟨hi, hw, fun hr => ?_⟩
      unfold grwB at hg
      rw [Bool.or_eq_true, decide_eq_true_eq, List.any_eq_true] at hg
      rcases hg with h0 | ⟨k, hk, hgk⟩
      · exact ⟨_, hr, h0⟩
      · rw [decide_eq_true_eq] at hgk
        obtain ⟨k1, k2, k3⟩ := hgk
        obtain ⟨a1, a2⟩ := idx_cellI hok k1.1 k1.2
        exact k3 (.step a1 (by show wet (idxU W (cellI W k)) = true; rw [a2]; exact k2) (adj_near hok (by omega) (by omega) hk) hr)) hf
    rw [decide_eq_true_eq] at hg
    have hwq := (flo_in hW hok.len hf).2
    have e1 : cellI W (idxU W q) = q := Prod.ext hi.2.2.2 hi.2.2.1
    rw [e1] at hg
    exact hg.2.2 (.ini ho hwq hx)
theorem floK_mem (hok : CO W H cs) {p : Cell} : p ∈ floK W (floB W H cs.length wet) cs.length ↔ onB W H p.1 p.2 = true ∧ floB W H cs.length wet (idxU W p) = true := by
  unfold floK
  rw [List.mem_map]
  constructor
  · rintro ⟨i, hi, rfl⟩
    rw [List.mem_filter, List.mem_range] at hi
    obtain ⟨a1, a2⟩ := idx_cellI hok (i := (i : Int)) (by omega) (by omega)
    exact ⟨a1, by rw [a2]; exact hi.2⟩
  · rintro ⟨h1, h2⟩
    have h3 := idxU_in hok h1
    have e : (((idxU W p).toNat : Nat) : Int) = idxU W p := by omega
    refine ⟨(idxU W p).toNat, ?_, ?_⟩
    · rw [List.mem_filter, List.mem_range]
      exact ⟨by omega, by rw [e]; exact h2⟩
    · rw [e]
      exact Prod.ext h3.2.2.2 h3.2.2.1
theorem floK_sorted (hW : 0 < W) (g : Int → Bool) (n : Nat) : (floK W g n).Pairwise ltC := by
  unfold floK
  rw [List.pairwise_map]
  refine List.Pairwise.filter _ ?_
  exact List.Pairwise.imp (fun {a b} (h : a < b) => cellI_lt hW (by omega) (by omega)) List.pairwise_lt_range
theorem out_any (hok : CO W H cs) : ((floK W (floB W H cs.length wet) cs.length).any fun p => decide (p.1 = W - 1)) = !(chanO W H cs.length wet).isNone := by
  have h := flo_chan (wet := wet) hok
  rw [Bool.eq_iff_iff, List.any_eq_true]
  constructor
  · rintro ⟨p, hp, hx⟩
    obtain ⟨h1, h2⟩ := (floK_mem hok).1 hp
    obtain ⟨l, hl⟩ := h.2 ⟨p, h1, h2, of_decide_eq_true hx⟩
    rw [hl]; rfl
  · intro hc
    cases hh : chanO W H cs.length wet with
    | none => rw [hh] at hc; cases hc
    | some l =>
      obtain ⟨q, h1, h2, h3⟩ := h.1 ⟨l, hh⟩
      exact ⟨q, (floK_mem hok).2 ⟨h1, h2⟩, decide_eq_true h3⟩
end
end Go.Proofs.Ytbhpnhcdjmcaoaa

/- Boom: the booms of a chart, those of a list. -/
namespace Go.Proofs.Ytbhpnhcdjmcaoaa
open Go.RowKit
set_option linter.unusedVariables false
set_option linter.unusedSimpArgs false
def boomsK (W : Int) (cs : List Int) (k : Nat) : List Cell := ((List.range k).filter fun i => decide (cs.getD i 0 > 0)).map fun i : Nat => cellI W (i : Int)
end Go.Proofs.Ytbhpnhcdjmcaoaa

/- Boom: the booms of a list. -/
namespace Go.Proofs.Ytbhpnhcdjmcaoaa
open Go.RowKit
set_option linter.unusedVariables false
set_option linter.unusedSimpArgs false
def memK (l : List Cell) (p : Cell) (j : Nat) : Bool := (l.take j).any fun q => decide (p = q)
theorem memK_succ {l : List Cell} {p : Cell} {j : Nat} (h : j < l.length) : memK l p (j + 1) = (memK l p j || decide (p = l.getD j cz)) := by
  unfold memK
  rw [List.take_add_one, show l[j]?.toList = [l.getD j cz] by rw [List.getElem?_eq_getElem h, List.getD_eq_getElem?_getD, List.getElem?_eq_getElem h]; rfl]
  simp
theorem memK_end (l : List Cell) (p : Cell) : memK l p l.length = decide (p ∈ l) := by
  unfold memK
  rw [List.take_length, Bool.eq_iff_iff, List.any_eq_true, decide_eq_true_eq]
  exact ⟨fun ⟨q, h1, h2⟩ => by rw [of_decide_eq_true h2]; exact h1, fun h => ⟨p, h, by simp⟩⟩
def fltK (b l : List Cell) (k : Nat) : List Cell := (b.take k).filter fun p => decide (p ∈ l)
end Go.Proofs.Ytbhpnhcdjmcaoaa

/- Boom: the law of the wet cells. -/
namespace Go.Proofs.Ytbhpnhcdjmcaoaa
open Go.RowKit
set_option linter.unusedVariables false
set_option linter.unusedSimpArgs false
theorem wet_long (W H : Int) (cs : List Int) (bs l : List Cell) (hcs : cs.length < 9223372036854775808) (hb : bs.length < 9223372036854775808) (hl : l.length < 9223372036854775808) (h : (cs.length : Int) > 300 ∨ (bs.length : Int) > 250 ∨ (l.length : Int) > 250) :
    Spec Try.prog 14 [chR W H cs.length, V.c (.sl 1 bs.length), V.c (.sl 2 l.length)] [⟨0, .ro 0, cs.map C.i⟩, ⟨1, .ro 2, cellC bs⟩, ⟨2, .ro 2, cellC l⟩] 3 (Is (V.c (.bool true))) := by
  refine Spec.of tok Try.func14 rfl rfl rfl fun n0 cx => vc_ok tok ?_
  by_cases h1 : (cs.length : Int) > 300
  · repeat ((conv => whnf); first | refine Exists.intro _ (And.intro rfl ?_) | refine bs_t (by omega) ?_ | refine fun (K' : K3) hK' => ?_ | (refine hK' _ _ _ ?_; clear hK' K') | refine wide_k hcs ?_ | refine awake_k ?_ | refine CallK.m ?_)
    intro ρ; rfl
  · by_cases h2 : (bs.length : Int) > 250
    · repeat ((conv => whnf); first | refine Exists.intro _ (And.intro rfl ?_) | refine bs_t (by omega) ?_ | refine bs_f (by omega) ?_ | refine fun (K' : K3) hK' => ?_ | (refine hK' _ _ _ ?_; clear hK' K') | refine wide_k hcs ?_ | refine long_k hb ?_ | refine awake_k ?_ | refine CallK.m ?_)
      intro ρ; rfl
    · have h3 : (l.length : Int) > 250 := by omega
      repeat ((conv => whnf); first | refine Exists.intro _ (And.intro rfl ?_) | refine br_t (by omega) ?_ | refine bs_f (by omega) ?_ | refine fun (K' : K3) hK' => ?_ | (refine hK' _ _ _ ?_; clear hK' K') | refine wide_k hcs ?_ | refine long_k hl ?_ | refine long_k hb ?_ | refine awake_k ?_ | refine CallK.m ?_)
      intro ρ; rfl
def outK (W : Int) (l : List Cell) (k : Nat) : Bool := (l.take k).any fun p => decide (p.1 = W - 1)
theorem outK_succ {W : Int} {l : List Cell} {k : Nat} (h : k < l.length) : outK W l (k + 1) = (outK W l k || decide ((l.getD k cz).1 = W - 1)) := by
  unfold outK
  rw [List.take_add_one, show l[k]?.toList = [l.getD k cz] by rw [List.getElem?_eq_getElem h, List.getD_eq_getElem?_getD, List.getElem?_eq_getElem h]; rfl, List.any_append]
  simp
set_option maxRecDepth 10000 in
set_option maxHeartbeats 8000000 in
theorem wet_lawspec (W H : Int) (cs : List Int) (bs l : List Cell) (hcs : ¬ (cs.length : Int) > 300) (hbs : ¬ (bs.length : Int) > 250) (hls : ¬ (l.length : Int) > 250) :
    Spec Try.prog 14 [chR W H cs.length, V.c (.sl 1 bs.length), V.c (.sl 2 l.length)] [⟨0, .ro 0, cs.map C.i⟩, ⟨1, .ro 2, cellC bs⟩, ⟨2, .ro 2, cellC l⟩] 3 (Is (V.c (.bool true))) := by
  have h1 := pFlooded_spec W H cs bs (by omega) (by omega)
  have h2 := pIsChannel_spec W H cs bs l (by omega) (by omega) (by omega)
  have h3 := pBlocks_spec W H cs bs (by omega) (by omega)
  unfold flC blE at h1
  unfold isChB blE at h2
  unfold blB blE at h3
  refine Spec.of tok Try.func14 rfl rfl rfl fun n0 cx => vc_ok tok ?_
  cases hv : okC W H cs with
  | false =>
    rw [hv] at h1 h2 h3
    repeat ((conv => whnf); first | refine Exists.intro _ (And.intro rfl ?_) | refine br_t (by omega) ?_ | refine br_f (by omega) ?_ | refine bs_f (by omega) ?_ | refine fun (K' : K3) hK' => ?_ | (refine hK' _ _ _ ?_; clear hK' K') | refine wide_k (by omega) ?_ | refine long_k (by omega) ?_ | refine CallK.cellsE (R := []) h1 (by kernel_rfl) rfl (by simp [V.wf, A.wf, C.wf, V.i]) ⟨roE_ints (l := 0) rfl (by omega) rfl (.inl rfl), roE_cells (l := 1) rfl (by omega) rfl (.inl rfl), trivial⟩ rfl ?_ | refine CallK.val (R := []) h2 (by kernel_rfl) rfl (by simp [V.wf, A.wf, C.wf, V.i]) ⟨roE_ints (l := 0) rfl (by omega) rfl (.inl rfl), roE_cells (l := 1) rfl (by omega) rfl (.inl rfl), roE_cells (l := 2) rfl (by omega) rfl (.inr rfl), trivial⟩ rfl rfl (by simp [V.wf, A.wf, C.wf]) ?_ | refine CallK.val (R := []) h3 (by kernel_rfl) rfl (by simp [V.wf, A.wf, C.wf, V.i]) ⟨roE_ints (l := 0) rfl (by omega) rfl (.inl rfl), roE_cells (l := 1) rfl (by omega) rfl (.inl rfl), trivial⟩ rfl rfl (by simp [V.wf, A.wf, C.wf]) ?_ | refine br_bt (Eq.refl true) ?_ | refine awake_k ?_ | refine CallK.m ?_)
    intro ρ; rfl
  | true =>
    cases hB : okB W H cs bs with
    | false =>
      rw [hv, hB] at h1 h2 h3
      repeat ((conv => whnf); first | refine Exists.intro _ (And.intro rfl ?_) | refine br_t (by omega) ?_ | refine br_f (by omega) ?_ | refine bs_f (by omega) ?_ | refine fun (K' : K3) hK' => ?_ | (refine hK' _ _ _ ?_; clear hK' K') | refine wide_k (by omega) ?_ | refine long_k (by omega) ?_ | refine CallK.cellsE (R := []) h1 (by kernel_rfl) rfl (by simp [V.wf, A.wf, C.wf, V.i]) ⟨roE_ints (l := 0) rfl (by omega) rfl (.inl rfl), roE_cells (l := 1) rfl (by omega) rfl (.inl rfl), trivial⟩ rfl ?_ | refine CallK.val (R := []) h2 (by kernel_rfl) rfl (by simp [V.wf, A.wf, C.wf, V.i]) ⟨roE_ints (l := 0) rfl (by omega) rfl (.inl rfl), roE_cells (l := 1) rfl (by omega) rfl (.inl rfl), roE_cells (l := 2) rfl (by omega) rfl (.inr rfl), trivial⟩ rfl rfl (by simp [V.wf, A.wf, C.wf]) ?_ | refine CallK.val (R := []) h3 (by kernel_rfl) rfl (by simp [V.wf, A.wf, C.wf, V.i]) ⟨roE_ints (l := 0) rfl (by omega) rfl (.inl rfl), roE_cells (l := 1) rfl (by omega) rfl (.inl rfl), trivial⟩ rfl rfl (by simp [V.wf, A.wf, C.wf]) ?_ | refine br_bt (Eq.refl true) ?_ | refine awake_k ?_ | refine CallK.m ?_)
      intro ρ; rfl
    | true =>
      have hok := okC_iff.1 hv
      have hW : 0 < W := by have := hok.w; omega
      rw [hv, hB] at h1 h2 h3
      rw [show (if (true && true) = true then floK W (floB W H cs.length (wetB cs (boomF W H bs))) cs.length else []) = floK W (floB W H cs.length (wetB cs (boomF W H bs))) cs.length from rfl] at h1
      have hout := out_any (wet := wetB cs (boomF W H bs)) hok
      have hsrt := floK_sorted hW (floB W H cs.length (wetB cs (boomF W H bs))) cs.length
      have hlen := floK_len W (floB W H cs.length (wetB cs (boomF W H bs))) cs.length
      have hsome : ∀ p ∈ l, (!(isChR W H (wetB cs (boomF W H bs)) l) || decide (p ∈ floK W (floB W H cs.length (wetB cs (boomF W H bs))) cs.length)) = true := by
        intro p hp
        cases hi : isChR W H (wetB cs (boomF W H bs)) l with
        | false => rfl
        | true =>
          have hC := isChR_iff.1 hi
          obtain ⟨j, hj, rfl⟩ := List.getElem_of_mem hp
          have e : l.getD j cz = l[j] := by rw [List.getD_eq_getElem?_getD, List.getElem?_eq_getElem hj]; rfl
          have h4 := chan_flo hok hC j hj
          have h5 := hC.on j hj
          rw [e] at h4 h5
          rw [decide_eq_true ((floK_mem hok).2 ⟨h5, h4⟩)]; rfl
      obtain ⟨wt, hwt⟩ : ∃ x, x = floK W (floB W H cs.length (wetB cs (boomF W H bs))) cs.length := ⟨_, rfl⟩
      obtain ⟨is, his⟩ : ∃ x, x = isChR W H (wetB cs (boomF W H bs)) l := ⟨_, rfl⟩
      obtain ⟨bk, hbk⟩ : ∃ x, x = (chanO W H cs.length (wetB cs (boomF W H bs))).isNone := ⟨_, rfl⟩
      rw [← hwt] at h1 hout hsrt hlen
      rw [← his] at h2
      rw [← hbk] at h3 hout
      simp only [← hwt, ← his] at hsome
      rw [show (true && true && is) = is from rfl] at h2
      rw [show (true && true && bk) = bk from rfl] at h3
      have hcw := cellC_len wt
      have hcl2 := cellC_len l
      have hW10 := hok.w
      have hon : ∀ {k : Nat}, k < wt.length → onB W H (wt.getD k cz).1 (wt.getD k cz).2 = true := fun {k} hk => by
        have : wt.getD k cz ∈ wt := by rw [List.getD_eq_getElem?_getD, List.getElem?_eq_getElem hk]; exact List.getElem_mem hk
        rw [hwt] at this ⊢
        exact ((floK_mem hok).1 this).1
      repeat ((conv => whnf); first | refine Exists.intro _ (And.intro rfl ?_) | refine br_f (by omega) ?_ | refine bs_f (by omega) ?_ | refine fun (K' : K3) hK' => ?_ | (refine hK' _ _ _ ?_; clear hK' K') | refine wide_k (by omega) ?_ | refine long_k (by omega) ?_ | refine CallK.cellsE (R := []) h1 (by kernel_rfl) rfl (by simp [V.wf, A.wf, C.wf, V.i]) ⟨roE_ints (l := 0) rfl (by omega) rfl (.inl rfl), roE_cells (l := 1) rfl (by omega) rfl (.inl rfl), trivial⟩ rfl ?_ | refine CallK.val (R := []) h2 (by kernel_rfl) rfl (by simp [V.wf, A.wf, C.wf, V.i]) ⟨roE_ints (l := 0) rfl (by omega) rfl (.inl rfl), roE_cells (l := 1) rfl (by omega) rfl (.inl rfl), roE_cells (l := 2) rfl (by omega) rfl (.inr rfl), trivial⟩ rfl rfl (by simp [V.wf, A.wf, C.wf]) ?_ | refine CallK.val (R := []) h3 (by kernel_rfl) rfl (by simp [V.wf, A.wf, C.wf, V.i]) ⟨roE_ints (l := 0) rfl (by omega) rfl (.inl rfl), roE_cells (l := 1) rfl (by omega) rfl (.inl rfl), trivial⟩ rfl rfl (by simp [V.wf, A.wf, C.wf]) ?_ | refine bs_bf (Eq.refl false) ?_ | refine br_bf (Eq.refl false) ?_ | refine CallK.m ?_)
      refine Tri.loop (γ := Nat) (fun k => k ≤ wt.length) (fun k => [(2, V.c (.sl 2 l.length)), (3, V.c (.ptr 3 0)), (7, V.c (.sl 4 wt.length)), (9, V.c (.bool is)), (11, V.c (.bool bk)), (13, V.c (.bool (outK W wt k))), (83, V.c (.sl 4 wt.length)), (84, V.i wt.length), (85, V.i (k : Nat))])
        (fun k => [⟨4, .vec 57 2, cellC wt⟩, ⟨3, .own 24, [C.i W, C.i H, .sl 0 cs.length]⟩, ⟨0, .ro 0, cs.map C.i⟩, ⟨1, .ro 2, cellC bs⟩, ⟨2, .ro 2, cellC l⟩]) 5 (fun k => wt.length - k) 0 (R0 := []) ?_ ?_ ?_
      · omega
      · skip
        refine ⟨?_, ?_, rfl, rfl, by exact Nat.le_of_ble_eq_true rfl⟩
        · repeat (first | exact trivial | (refine And.intro (covS_syn (by rfl) rfl (by first | exact trivial | exact Nat.le_of_ble_eq_true rfl)) ?_) | refine And.intro (covS_bool rfl rfl (by rfl)) ?_)
        · repeat (first | exact trivial | (refine And.intro (covE_id (Nat.le_of_ble_eq_true rfl) (by first | exact wf_ints _ _ | first | exact wf_cells _ _ | simp [C.wf]) rfl (by rfl)) ?_))
      · intro k hk
        refine vc_ok tok ?_
        by_cases hlt : k < wt.length
        · have hld := cellT (l := wt) (k := k) rfl hlt
          have hsu := outK_succ (W := W) hlt
          have hpo := onB_t (hon hlt)
          have hw10 : W ≤ 10 := by omega
          cases hou : outK W wt k with
          | true =>
            have hnx : outK W wt (k + 1) = true := by rw [hsu, hou]; rfl
            by_cases g2 : (k : Int) > 0
            · have hl0 := cellL0 (l := wt) (k := k - 1) (z := (k : Int) - 1) (by omega) (by omega)
              have hl1 := cellL1 (l := wt) (k := k - 1) (z := (k : Int) - 1) (by omega) (by omega)
              have hlt2 : ltC (wt.getD (k - 1) cz) (wt.getD k cz) := by
                have := (List.pairwise_iff_getElem.1 hsrt) (k - 1) k (by omega) hlt (by omega)
                rw [List.getD_eq_getElem?_getD, List.getD_eq_getElem?_getD, List.getElem?_eq_getElem hlt, List.getElem?_eq_getElem (show k - 1 < wt.length by omega)]
                exact this
              obtain ⟨p, hp⟩ : ∃ p, p = wt.getD k cz := ⟨_, rfl⟩
              obtain ⟨q, hq⟩ : ∃ q, q = wt.getD (k - 1) cz := ⟨_, rfl⟩
              have hqo := onB_t (hon (k := k - 1) (by omega))
              rw [← hp] at hld hpo hlt2
              rw [← hq] at hl0 hl1 hlt2 hqo
              unfold ltC at hlt2
              have g3 : ¬ p.2 < q.2 := by omega
              by_cases g4 : p.2 = q.2
              · have g5 : ¬ p.1 ≤ q.1 := by omega
                repeat ((conv => whnf); first | (refine And.intro (by first | omega | exact Nat.le_of_ble_eq_true rfl | (dsimp only [inK]; omega)) ?_) | with_reducible refine ld (hld) ?_ | with_reducible refine ld (hl0) ?_ | with_reducible refine ld (hl1) ?_ | refine Exists.intro _ (And.intro rfl ?_) | refine br_t (by omega) ?_ | refine br_f (by omega) ?_ | refine bs_f (by omega) ?_ | refine fun (K' : K3) hK' => ?_ | (refine hK' _ _ _ ?_; clear hK' K') | refine draw_auto tok mixed (by kernel_rfl) ?_ | refine bs_bt rfl ?_)
                refine ⟨k + 1, [], by omega, by omega, ?_⟩
                rw [hnx]
                refine ⟨?_, ?_, rfl, rfl, by exact Nat.le_of_ble_eq_true rfl⟩
                · repeat (first | exact trivial | (refine And.intro (covS_syn (by rfl) rfl (by first | exact trivial | exact Nat.le_of_ble_eq_true rfl)) ?_) | refine And.intro (covS_bool rfl rfl (by rfl)) ?_)
                · repeat (first | exact trivial | (refine And.intro (covE_id (Nat.le_of_ble_eq_true rfl) (by first | exact wf_ints _ _ | first | exact wf_cells _ _ | simp [C.wf]) rfl (by rfl)) ?_))
              · repeat ((conv => whnf); first | (refine And.intro (by first | omega | exact Nat.le_of_ble_eq_true rfl | (dsimp only [inK]; omega)) ?_) | with_reducible refine ld (hld) ?_ | with_reducible refine ld (hl1) ?_ | refine Exists.intro _ (And.intro rfl ?_) | refine br_t (by omega) ?_ | refine br_f (by omega) ?_ | refine bs_f (by omega) ?_ | refine fun (K' : K3) hK' => ?_ | (refine hK' _ _ _ ?_; clear hK' K') | refine draw_auto tok mixed (by kernel_rfl) ?_ | refine bs_bt rfl ?_)
                refine ⟨k + 1, [], by omega, by omega, ?_⟩
                rw [hnx]
                refine ⟨?_, ?_, rfl, rfl, by exact Nat.le_of_ble_eq_true rfl⟩
                · repeat (first | exact trivial | (refine And.intro (covS_syn (by rfl) rfl (by first | exact trivial | exact Nat.le_of_ble_eq_true rfl)) ?_) | refine And.intro (covS_bool rfl rfl (by rfl)) ?_)
                · repeat (first | exact trivial | (refine And.intro (covE_id (Nat.le_of_ble_eq_true rfl) (by first | exact wf_ints _ _ | first | exact wf_cells _ _ | simp [C.wf]) rfl (by rfl)) ?_))
            · obtain ⟨p, hp⟩ : ∃ p, p = wt.getD k cz := ⟨_, rfl⟩
              rw [← hp] at hld hpo
              repeat ((conv => whnf); first | (refine And.intro (by first | omega | exact Nat.le_of_ble_eq_true rfl | (dsimp only [inK]; omega)) ?_) | with_reducible refine ld (hld) ?_ | refine br_t (by omega) ?_ | refine br_f (by omega) ?_ | refine fun (K' : K3) hK' => ?_ | (refine hK' _ _ _ ?_; clear hK' K') | refine draw_auto tok mixed (by kernel_rfl) ?_ | refine bs_bt rfl ?_)
              refine ⟨k + 1, [], by omega, by omega, ?_⟩
              rw [hnx]
              refine ⟨?_, ?_, rfl, rfl, by exact Nat.le_of_ble_eq_true rfl⟩
              · repeat (first | exact trivial | (refine And.intro (covS_syn (by rfl) rfl (by first | exact trivial | exact Nat.le_of_ble_eq_true rfl)) ?_) | refine And.intro (covS_bool rfl rfl (by rfl)) ?_)
              · repeat (first | exact trivial | (refine And.intro (covE_id (Nat.le_of_ble_eq_true rfl) (by first | exact wf_ints _ _ | first | exact wf_cells _ _ | simp [C.wf]) rfl (by rfl)) ?_))
          | false =>
            have hnx : outK W wt (k + 1) = decide ((wt.getD k cz).1 = W - 1) := by rw [hsu, hou]; rfl
            by_cases g2 : (k : Int) > 0
            · have hl0 := cellL0 (l := wt) (k := k - 1) (z := (k : Int) - 1) (by omega) (by omega)
              have hl1 := cellL1 (l := wt) (k := k - 1) (z := (k : Int) - 1) (by omega) (by omega)
              have hlt2 : ltC (wt.getD (k - 1) cz) (wt.getD k cz) := by
                have := (List.pairwise_iff_getElem.1 hsrt) (k - 1) k (by omega) hlt (by omega)
                rw [List.getD_eq_getElem?_getD, List.getD_eq_getElem?_getD, List.getElem?_eq_getElem hlt, List.getElem?_eq_getElem (show k - 1 < wt.length by omega)]
                exact this
              obtain ⟨p, hp⟩ : ∃ p, p = wt.getD k cz := ⟨_, rfl⟩
              obtain ⟨q, hq⟩ : ∃ q, q = wt.getD (k - 1) cz := ⟨_, rfl⟩
              have hqo := onB_t (hon (k := k - 1) (by omega))
              rw [← hp] at hld hnx hpo hlt2
              rw [← hq] at hl0 hl1 hlt2 hqo
              unfold ltC at hlt2
              have g3 : ¬ p.2 < q.2 := by omega
              by_cases g4 : p.2 = q.2
              · have g5 : ¬ p.1 ≤ q.1 := by omega
                repeat ((conv => whnf); first | (refine And.intro (by first | omega | exact Nat.le_of_ble_eq_true rfl | (dsimp only [inK]; omega)) ?_) | with_reducible refine ld (hld) ?_ | with_reducible refine ld (hl0) ?_ | with_reducible refine ld (hl1) ?_ | refine Exists.intro _ (And.intro rfl ?_) | refine br_t (by omega) ?_ | refine br_f (by omega) ?_ | refine bs_f (by omega) ?_ | refine fun (K' : K3) hK' => ?_ | (refine hK' _ _ _ ?_; clear hK' K') | refine draw_auto tok mixed (by kernel_rfl) ?_ | refine bs_bf rfl ?_)
                refine ⟨k + 1, [], by omega, by omega, ?_⟩
                rw [hnx]
                refine ⟨?_, ?_, rfl, rfl, by exact Nat.le_of_ble_eq_true rfl⟩
                · repeat (first | exact trivial | (refine And.intro (covS_syn (by rfl) rfl (by first | exact trivial | exact Nat.le_of_ble_eq_true rfl)) ?_))
                · repeat (first | exact trivial | (refine And.intro (covE_id (Nat.le_of_ble_eq_true rfl) (by first | exact wf_ints _ _ | first | exact wf_cells _ _ | simp [C.wf]) rfl (by rfl)) ?_))
              · repeat ((conv => whnf); first | (refine And.intro (by first | omega | exact Nat.le_of_ble_eq_true rfl | (dsimp only [inK]; omega)) ?_) | with_reducible refine ld (hld) ?_ | with_reducible refine ld (hl1) ?_ | refine Exists.intro _ (And.intro rfl ?_) | refine br_t (by omega) ?_ | refine br_f (by omega) ?_ | refine bs_f (by omega) ?_ | refine fun (K' : K3) hK' => ?_ | (refine hK' _ _ _ ?_; clear hK' K') | refine draw_auto tok mixed (by kernel_rfl) ?_ | refine bs_bf rfl ?_)
                refine ⟨k + 1, [], by omega, by omega, ?_⟩
                rw [hnx]
                refine ⟨?_, ?_, rfl, rfl, by exact Nat.le_of_ble_eq_true rfl⟩
                · repeat (first | exact trivial | (refine And.intro (covS_syn (by rfl) rfl (by first | exact trivial | exact Nat.le_of_ble_eq_true rfl)) ?_))
                · repeat (first | exact trivial | (refine And.intro (covE_id (Nat.le_of_ble_eq_true rfl) (by first | exact wf_ints _ _ | first | exact wf_cells _ _ | simp [C.wf]) rfl (by rfl)) ?_))
            · obtain ⟨p, hp⟩ : ∃ p, p = wt.getD k cz := ⟨_, rfl⟩
              rw [← hp] at hld hnx hpo
              repeat ((conv => whnf); first | (refine And.intro (by first | omega | exact Nat.le_of_ble_eq_true rfl | (dsimp only [inK]; omega)) ?_) | with_reducible refine ld (hld) ?_ | refine Exists.intro _ (And.intro rfl ?_) | refine br_t (by omega) ?_ | refine br_f (by omega) ?_ | refine fun (K' : K3) hK' => ?_ | (refine hK' _ _ _ ?_; clear hK' K') | refine draw_auto tok mixed (by kernel_rfl) ?_ | refine bs_bf rfl ?_)
              refine ⟨k + 1, [], by omega, by omega, ?_⟩
              rw [hnx]
              refine ⟨?_, ?_, rfl, rfl, by exact Nat.le_of_ble_eq_true rfl⟩
              · repeat (first | exact trivial | (refine And.intro (covS_syn (by rfl) rfl (by first | exact trivial | exact Nat.le_of_ble_eq_true rfl)) ?_))
              · repeat (first | exact trivial | (refine And.intro (covE_id (Nat.le_of_ble_eq_true rfl) (by first | exact wf_ints _ _ | first | exact wf_cells _ _ | simp [C.wf]) rfl (by rfl)) ?_))
        · have hke : k = wt.length := by omega
          subst hke
          have hoe : outK W wt wt.length = !bk := by unfold outK; rw [List.take_length]; exact hout
          rw [hoe]
          cases bk with
          | true =>
            repeat ((conv => whnf); first | refine br_f (by omega) ?_ | refine fun (K' : K3) hK' => ?_ | (refine hK' _ _ _ ?_; clear hK' K') | refine br_bf (Eq.refl false) ?_)
            refine Tri.loop (γ := Nat) (fun j => j ≤ l.length) (fun j => [(7, V.c (.sl 4 wt.length)), (9, V.c (.bool is)), (138, V.c (.sl 2 l.length)), (139, V.i l.length), (140, V.i (j : Nat))])
              (fun j => [⟨4, .vec 57 2, cellC wt⟩, ⟨3, .own 24, [C.i W, C.i H, .sl 0 cs.length]⟩, ⟨0, .ro 0, cs.map C.i⟩, ⟨1, .ro 2, cellC bs⟩, ⟨2, .ro 2, cellC l⟩]) 5 (fun j => l.length - j) 0 (R0 := []) ?_ ?_ ?_
            · omega
            · skip
              refine ⟨?_, ?_, rfl, rfl, by exact Nat.le_of_ble_eq_true rfl⟩
              · repeat (first | exact trivial | (refine And.intro (covS_syn (by rfl) rfl (by first | exact trivial | exact Nat.le_of_ble_eq_true rfl)) ?_))
              · repeat (first | exact trivial | (refine And.intro (covE_id (Nat.le_of_ble_eq_true rfl) (by first | exact wf_ints _ _ | first | exact wf_cells _ _ | simp [C.wf]) rfl (by rfl)) ?_))
            · intro j hj
              refine vc_ok tok ?_
              by_cases hjl : j < l.length
              · have hld := cellT (l := l) (k := j) rfl hjl
                have hso := hsome (l.getD j cz) (by rw [List.getD_eq_getElem?_getD, List.getElem?_eq_getElem hjl]; exact List.getElem_mem hjl)
                obtain ⟨p, hp⟩ : ∃ p, p = l.getD j cz := ⟨_, rfl⟩
                rw [← hp] at hld hso
                have hz : (!is) = (!is || memK wt p 0) := by simp [memK]
                repeat ((conv => whnf); first | (refine And.intro (by first | omega | exact Nat.le_of_ble_eq_true rfl | (dsimp only [inK]; omega)) ?_) | with_reducible refine ld (hld) ?_ | refine br_t (by omega) ?_ | refine fun (K' : K3) hK' => ?_ | (refine hK' _ _ _ ?_; clear hK' K'))
                refine Tri.loop (γ := Nat) (fun i => i ≤ wt.length) (fun i => [(7, V.c (.sl 4 wt.length)), (9, V.c (.bool is)), (17, V.c (.ptr 5 0)), (18, V.c (.bool (!is || memK wt p i))), (138, V.c (.sl 2 l.length)), (139, V.i l.length), (140, V.i (j : Nat)), (146, V.c (.sl 4 wt.length)), (147, V.i wt.length), (148, V.i (i : Nat))])
                  (fun i => ⟨5, .own 57, [C.i p.1, C.i p.2]⟩ :: [⟨4, .vec 57 2, cellC wt⟩, ⟨3, .own 24, [C.i W, C.i H, .sl 0 cs.length]⟩, ⟨0, .ro 0, cs.map C.i⟩, ⟨1, .ro 2, cellC bs⟩, ⟨2, .ro 2, cellC l⟩]) 6 (fun i => wt.length - i) 0 (R0 := []) ?_ ?_ ?_
                · omega
                · skip
                  refine ⟨?_, ?_, rfl, rfl, by exact Nat.le_of_ble_eq_true rfl⟩
                  · repeat (first | exact trivial | (refine And.intro (covS_syn (by rfl) rfl (by first | exact trivial | exact Nat.le_of_ble_eq_true rfl)) ?_) | (refine And.intro (covS_bool rfl rfl (by first | exact hz | rfl)) ?_))
                  · repeat (first | exact trivial | (refine And.intro (covE_id (Nat.le_of_ble_eq_true rfl) (by first | exact wf_ints _ _ | first | exact wf_cells _ _ | simp [C.wf]) rfl (by rfl)) ?_))
                · intro i hi
                  refine vc_ok tok ?_
                  by_cases hil : i < wt.length
                  · have hld2 := cellT (l := wt) (k := i) rfl hil
                    have hms := memK_succ (p := p) hil
                    obtain ⟨q, hq⟩ : ∃ q, q = wt.getD i cz := ⟨_, rfl⟩
                    rw [← hq] at hld2 hms
                    cases hm : (!is || memK wt p i) with
                    | true =>
                      have hm1 : (!is || memK wt p (i + 1)) = true := by rw [hms, ← Bool.or_assoc, hm]; rfl
                      repeat ((conv => whnf); first | (refine And.intro (by first | omega | exact Nat.le_of_ble_eq_true rfl | (dsimp only [inK]; omega)) ?_) | with_reducible refine ld (hld2) ?_ | refine br_t (by omega) ?_ | refine fun (K' : K3) hK' => ?_ | (refine hK' _ _ _ ?_; clear hK' K') | refine bs_bt rfl ?_)
                      refine ⟨i + 1, [], by omega, by omega, ?_⟩
                      rw [hm1]
                      refine ⟨?_, ?_, rfl, rfl, by exact Nat.le_of_ble_eq_true rfl⟩
                      · repeat (first | exact trivial | (refine And.intro (covS_syn (by rfl) rfl (by first | exact trivial | exact Nat.le_of_ble_eq_true rfl)) ?_) | refine And.intro (covS_bool rfl rfl (by rfl)) ?_)
                      · repeat (first | exact trivial | (refine And.intro (covE_id (Nat.le_of_ble_eq_true rfl) (by first | exact wf_ints _ _ | first | exact wf_cells _ _ | simp [C.wf]) rfl (by rfl)) ?_))
                    | false =>
                      have hm1 : (!is || memK wt p (i + 1)) = (decide (p.1 = q.1) && (decide (p.2 = q.2) && true)) := by
                        rw [hms, ← Bool.or_assoc, hm, Bool.false_or, Bool.and_true, ← Bool.decide_and, decide_eq_decide]
                        exact Prod.ext_iff
                      repeat ((conv => whnf); first | (refine And.intro (by first | omega | exact Nat.le_of_ble_eq_true rfl | (dsimp only [inK]; omega)) ?_) | with_reducible refine ld (hld2) ?_ | refine Exists.intro _ (And.intro rfl ?_) | refine br_t (by omega) ?_ | refine fun (K' : K3) hK' => ?_ | (refine hK' _ _ _ ?_; clear hK' K') | refine bs_bf rfl ?_)
                      refine ⟨i + 1, [], by omega, by omega, ?_⟩
                      rw [hm1]
                      refine ⟨?_, ?_, rfl, rfl, by exact Nat.le_of_ble_eq_true rfl⟩
                      · repeat (first | exact trivial | (refine And.intro (covS_syn (by rfl) rfl (by first | exact trivial | exact Nat.le_of_ble_eq_true rfl)) ?_))
                      · repeat (first | exact trivial | (refine And.intro (covE_id (Nat.le_of_ble_eq_true rfl) (by first | exact wf_ints _ _ | first | exact wf_cells _ _ | simp [C.wf]) rfl (by rfl)) ?_))
                  · have hie : i = wt.length := by omega
                    subst hie
                    rw [memK_end, hso]
                    repeat ((conv => whnf); first | (refine And.intro (by first | omega | (dsimp only [inK]; omega)) ?_) | refine br_f (by omega) ?_ | refine fun (K' : K3) hK' => ?_ | (refine hK' _ _ _ ?_; clear hK' K') | refine br_bf (Eq.refl false) ?_)
                    refine ⟨j + 1, [], by omega, by omega, ?_⟩
                    refine ⟨?_, ?_, rfl, rfl, by exact Nat.le_of_ble_eq_true rfl⟩
                    · repeat (first | exact trivial | (refine And.intro (covS_syn (by rfl) rfl (by first | exact trivial | exact Nat.le_of_ble_eq_true rfl)) ?_))
                    · repeat (first | exact trivial | (refine And.intro (covE_id (Nat.le_of_ble_eq_true rfl) (by first | exact wf_ints _ _ | first | exact wf_cells _ _ | simp [C.wf]) rfl (by rfl)) ?_))
              · have hje : j = l.length := by omega
                subst hje
                repeat ((conv => whnf); first | refine br_f (by omega) ?_ | refine fun (K' : K3) hK' => ?_ | (refine hK' _ _ _ ?_; clear hK' K') | refine awake_k ?_ | refine CallK.m ?_)
                intro ρ; rfl
          | false =>
            repeat ((conv => whnf); first | refine br_f (by omega) ?_ | refine fun (K' : K3) hK' => ?_ | (refine hK' _ _ _ ?_; clear hK' K') | refine br_bf (Eq.refl false) ?_)
            refine Tri.loop (γ := Nat) (fun j => j ≤ l.length) (fun j => [(7, V.c (.sl 4 wt.length)), (9, V.c (.bool is)), (138, V.c (.sl 2 l.length)), (139, V.i l.length), (140, V.i (j : Nat))])
              (fun j => [⟨4, .vec 57 2, cellC wt⟩, ⟨3, .own 24, [C.i W, C.i H, .sl 0 cs.length]⟩, ⟨0, .ro 0, cs.map C.i⟩, ⟨1, .ro 2, cellC bs⟩, ⟨2, .ro 2, cellC l⟩]) 5 (fun j => l.length - j) 0 (R0 := []) ?_ ?_ ?_
            · omega
            · skip
              refine ⟨?_, ?_, rfl, rfl, by exact Nat.le_of_ble_eq_true rfl⟩
              · repeat (first | exact trivial | (refine And.intro (covS_syn (by rfl) rfl (by first | exact trivial | exact Nat.le_of_ble_eq_true rfl)) ?_))
              · repeat (first | exact trivial | (refine And.intro (covE_id (Nat.le_of_ble_eq_true rfl) (by first | exact wf_ints _ _ | first | exact wf_cells _ _ | simp [C.wf]) rfl (by rfl)) ?_))
            · intro j hj
              refine vc_ok tok ?_
              by_cases hjl : j < l.length
              · have hld := cellT (l := l) (k := j) rfl hjl
                have hso := hsome (l.getD j cz) (by rw [List.getD_eq_getElem?_getD, List.getElem?_eq_getElem hjl]; exact List.getElem_mem hjl)
                obtain ⟨p, hp⟩ : ∃ p, p = l.getD j cz := ⟨_, rfl⟩
                rw [← hp] at hld hso
                have hz : (!is) = (!is || memK wt p 0) := by simp [memK]
                repeat ((conv => whnf); first | (refine And.intro (by first | omega | exact Nat.le_of_ble_eq_true rfl | (dsimp only [inK]; omega)) ?_) | with_reducible refine ld (hld) ?_ | refine br_t (by omega) ?_ | refine fun (K' : K3) hK' => ?_ | (refine hK' _ _ _ ?_; clear hK' K'))
                refine Tri.loop (γ := Nat) (fun i => i ≤ wt.length) (fun i => [(7, V.c (.sl 4 wt.length)), (9, V.c (.bool is)), (17, V.c (.ptr 5 0)), (18, V.c (.bool (!is || memK wt p i))), (138, V.c (.sl 2 l.length)), (139, V.i l.length), (140, V.i (j : Nat)), (146, V.c (.sl 4 wt.length)), (147, V.i wt.length), (148, V.i (i : Nat))])
                  (fun i => ⟨5, .own 57, [C.i p.1, C.i p.2]⟩ :: [⟨4, .vec 57 2, cellC wt⟩, ⟨3, .own 24, [C.i W, C.i H, .sl 0 cs.length]⟩, ⟨0, .ro 0, cs.map C.i⟩, ⟨1, .ro 2, cellC bs⟩, ⟨2, .ro 2, cellC l⟩]) 6 (fun i => wt.length - i) 0 (R0 := []) ?_ ?_ ?_
                · omega
                · skip
                  refine ⟨?_, ?_, rfl, rfl, by exact Nat.le_of_ble_eq_true rfl⟩
                  · repeat (first | exact trivial | (refine And.intro (covS_syn (by rfl) rfl (by first | exact trivial | exact Nat.le_of_ble_eq_true rfl)) ?_) | (refine And.intro (covS_bool rfl rfl (by first | exact hz | rfl)) ?_))
                  · repeat (first | exact trivial | (refine And.intro (covE_id (Nat.le_of_ble_eq_true rfl) (by first | exact wf_ints _ _ | first | exact wf_cells _ _ | simp [C.wf]) rfl (by rfl)) ?_))
                · intro i hi
                  refine vc_ok tok ?_
                  by_cases hil : i < wt.length
                  · have hld2 := cellT (l := wt) (k := i) rfl hil
                    have hms := memK_succ (p := p) hil
                    obtain ⟨q, hq⟩ : ∃ q, q = wt.getD i cz := ⟨_, rfl⟩
                    rw [← hq] at hld2 hms
                    cases hm : (!is || memK wt p i) with
                    | true =>
                      have hm1 : (!is || memK wt p (i + 1)) = true := by rw [hms, ← Bool.or_assoc, hm]; rfl
                      repeat ((conv => whnf); first | (refine And.intro (by first | omega | exact Nat.le_of_ble_eq_true rfl | (dsimp only [inK]; omega)) ?_) | with_reducible refine ld (hld2) ?_ | refine br_t (by omega) ?_ | refine fun (K' : K3) hK' => ?_ | (refine hK' _ _ _ ?_; clear hK' K') | refine bs_bt rfl ?_)
                      refine ⟨i + 1, [], by omega, by omega, ?_⟩
                      rw [hm1]
                      refine ⟨?_, ?_, rfl, rfl, by exact Nat.le_of_ble_eq_true rfl⟩
                      · repeat (first | exact trivial | (refine And.intro (covS_syn (by rfl) rfl (by first | exact trivial | exact Nat.le_of_ble_eq_true rfl)) ?_) | refine And.intro (covS_bool rfl rfl (by rfl)) ?_)
                      · repeat (first | exact trivial | (refine And.intro (covE_id (Nat.le_of_ble_eq_true rfl) (by first | exact wf_ints _ _ | first | exact wf_cells _ _ | simp [C.wf]) rfl (by rfl)) ?_))
                    | false =>
                      have hm1 : (!is || memK wt p (i + 1)) = (decide (p.1 = q.1) && (decide (p.2 = q.2) && true)) := by
                        rw [hms, ← Bool.or_assoc, hm, Bool.false_or, Bool.and_true, ← Bool.decide_and, decide_eq_decide]
                        exact Prod.ext_iff
                      repeat ((conv => whnf); first | (refine And.intro (by first | omega | exact Nat.le_of_ble_eq_true rfl | (dsimp only [inK]; omega)) ?_) | with_reducible refine ld (hld2) ?_ | refine Exists.intro _ (And.intro rfl ?_) | refine br_t (by omega) ?_ | refine fun (K' : K3) hK' => ?_ | (refine hK' _ _ _ ?_; clear hK' K') | refine bs_bf rfl ?_)
                      refine ⟨i + 1, [], by omega, by omega, ?_⟩
                      rw [hm1]
                      refine ⟨?_, ?_, rfl, rfl, by exact Nat.le_of_ble_eq_true rfl⟩
                      · repeat (first | exact trivial | (refine And.intro (covS_syn (by rfl) rfl (by first | exact trivial | exact Nat.le_of_ble_eq_true rfl)) ?_))
                      · repeat (first | exact trivial | (refine And.intro (covE_id (Nat.le_of_ble_eq_true rfl) (by first | exact wf_ints _ _ | first | exact wf_cells _ _ | simp [C.wf]) rfl (by rfl)) ?_))
                  · have hie : i = wt.length := by omega
                    subst hie
                    rw [memK_end, hso]
                    repeat ((conv => whnf); first | (refine And.intro (by first | omega | (dsimp only [inK]; omega)) ?_) | refine br_f (by omega) ?_ | refine fun (K' : K3) hK' => ?_ | (refine hK' _ _ _ ?_; clear hK' K') | refine br_bf (Eq.refl false) ?_)
                    refine ⟨j + 1, [], by omega, by omega, ?_⟩
                    refine ⟨?_, ?_, rfl, rfl, by exact Nat.le_of_ble_eq_true rfl⟩
                    · repeat (first | exact trivial | (refine And.intro (covS_syn (by rfl) rfl (by first | exact trivial | exact Nat.le_of_ble_eq_true rfl)) ?_))
                    · repeat (first | exact trivial | (refine And.intro (covE_id (Nat.le_of_ble_eq_true rfl) (by first | exact wf_ints _ _ | first | exact wf_cells _ _ | simp [C.wf]) rfl (by rfl)) ?_))
              · have hje : j = l.length := by omega
                subst hje
                repeat ((conv => whnf); first | refine br_f (by omega) ?_ | refine fun (K' : K3) hK' => ?_ | (refine hK' _ _ _ ?_; clear hK' K') | refine awake_k ?_ | refine CallK.m ?_)
                intro ρ; rfl
theorem hp_3c {W : World} {cs : List Int} {l l2 : List Cell} {ao bo co : Option Addr} {c d e : Nat} (h : IntsAt W ao cs) (h2 : CellsAt W bo d l) (h3 : CellsAt W co e l2) : Hp W.heap.size (envL [(ao, c), (bo, d), (co, e)]) W [⟨0, .ro 0, cs.map C.i⟩, ⟨1, .ro 2, cellC l⟩, ⟨2, .ro 2, cellC l2⟩] 3 := by
  refine Hp.rosz (fun x hx => ?_) rfl
  simp only [List.mem_cons, List.not_mem_nil, or_false] at hx
  rcases hx with rfl | rfl | rfl
  · exact ent_ints h (by show 0 < 3; omega) rfl
  · exact ent_cells h2 (by show 1 < 3; omega) rfl
  · exact ent_cells h3 (by show 2 < 3; omega) rfl
theorem wet_any (W H : Int) (cs : List Int) (bs l : List Cell) (ao : Option Addr) (c : Nat) (bo : Option Addr) (d : Nat) (co : Option Addr) (e : Nat) (w : World) (h : IntsAt w ao cs) (h2 : CellsAt w bo d bs) (h3 : CellsAt w co e l) :
    Calls Try.prog 14 #[.agg #[.int .i64 W, .int .i64 H, .slice ao cs.length c], .slice bo bs.length d, .slice co l.length e] w fun e w' => e = .returned (.bool true) ∧ Below w.heap.size w w' := by
  by_cases hl : (cs.length : Int) > 300 ∨ (bs.length : Int) > 250 ∨ (l.length : Int) > 250
  · exact isTrue_any (vs := [chR W H cs.length, V.c (.sl 1 bs.length), V.c (.sl 2 l.length)]) (wet_long W H cs bs l h.2 h2.2.2 h3.2.2 hl) (hp_3c h h2 h3) (by simp [V.wf, A.wf, C.wf]) rfl
  · exact isTrue_any (vs := [chR W H cs.length, V.c (.sl 1 bs.length), V.c (.sl 2 l.length)]) (wet_lawspec W H cs bs l (fun e => hl (.inl e)) (fun e => hl (.inr (.inl e))) (fun e => hl (.inr (.inr e)))) (hp_3c h h2 h3) (by simp [V.wf, A.wf, C.wf]) rfl
end Go.Proofs.Ytbhpnhcdjmcaoaa

