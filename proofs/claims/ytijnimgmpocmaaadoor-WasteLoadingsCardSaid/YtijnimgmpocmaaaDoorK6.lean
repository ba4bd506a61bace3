/- Texts of the proof, part 6: V2, V5, V6, V3, V7, R2s, O1, L0, L3, O2, L8, D1. -/
import Derived.Test.YtijnimgmpocmaaaDoorK5
import Derived.WalkKit
import Derived.Below
import Derived.Lib.TrailingZeros
import Derived.Laws.OwnMore
import Derived.Maps.AppendAt
import Derived.Laws.IdiomCopy
import Derived.Laws.CopyRow
import Derived.IntWalk
import Derived.StillTail
import Derived.Scope
import Derived.ChangeKeysEq
import Derived.Laws.Small
import Derived.OrdersIn
import Derived.TacticsIn
import Derived.OwnWalkIn
import Derived.RangeFuncNested
import Derived.RangeFuncLeaves
import Derived.RangeFuncRecord
import Derived.Maps.Keyed
import Derived.Maps.RangeRun
import Derived.DeepKeys4
import Derived.Test.YtijnimgmpocmaaaDoorRows
import Derived.KernelRfl
import Derived.Shelf.Spec.TrailingZeros
import Derived.ProofKit
import Derived.OpenShut
import Derived.Lib.SmallJoins
import Derived.Deep.Slices
import Derived.LaidMore
import Derived.Stop.Joined
/- Waste: the document's IsLoading. -/
namespace Go.Proofs.YtijnimgmpocmaaaDoor
open Go.RowKit
set_option linter.unusedVariables false
set_option linter.unusedSimpArgs false
def fnB (f : Nat → Bool) (n : Nat) : List Bool := (List.range n).map f
theorem fnB_len (f : Nat → Bool) (n : Nat) : (fnB f n).length = n := by simp [fnB]
theorem fnB_get {f : Nat → Bool} {n k : Nat} (h : k < n) : (fnB f n).getD k false = f k := by
  simp [fnB, List.getD_eq_getElem?_getD, h]
theorem fnB_congr {f g : Nat → Bool} {n : Nat} (h : ∀ j, j < n → f j = g j) : fnB f n = fnB g n := List.map_congr_left fun j hj => h j (List.mem_range.1 hj)
theorem fnB_set {f : Nat → Bool} {n k : Nat} {x : Bool} : (fnB f n).set k x = fnB (fun j => if j = k then x else f j) n := by
  apply List.ext_getElem
  · simp [fnB]
  · intro i h1 h2
    simp only [fnB, List.getElem_set, List.getElem_map, List.getElem_range]
    by_cases h : k = i
    · rw [if_pos h, if_pos h.symm]
    · rw [if_neg h, if_neg fun q => h q.symm]
theorem covE_bools {R : Rn} {nx l l' : Nat} {L : List E} {cs' : List C} {bs : List Bool} (hr : renL R l = some l') (h1 : l < nx) (h3 : find L l' = some ⟨l', .vec 4 1, cs'⟩) (h : cs'.map C.toB = bs.map some) : covE R nx L ⟨l, .vec 4 1, bs.map C.bool⟩ :=
  covE_sem hr h1 (wf_bools _ _) h3 (.inl rfl) (fun ρ => den_toB h)
theorem toB_bools (l : List Bool) : (l.map C.bool).map C.toB = l.map some := by
  rw [List.map_map]; rfl
theorem toB_zero (n : Nat) : (repC n [C.ff]).map C.toB = (fnB (fun _ => false) n).map some := by
  rw [show fnB (fun _ => false) n = List.replicate n false by simp [fnB, List.map_const']]
  induction n with
  | zero => rfl
  | succ n ih =>
    have h1 : repC (n + 1) [C.ff] = C.ff :: repC n [C.ff] := rfl
    rw [h1, List.replicate_succ, List.map_cons, List.map_cons, ih]; rfl
theorem toB_set {l : List Bool} {k : Nat} {c : C} {b : Bool} (hc : c.toB = some b) : (setL (l.map C.bool) (mulS ((k : Nat) : Int).toNat 1) [c]).map C.toB = (l.set k b).map some := by
  rw [mulS_eq, Int.toNat_natCast, Nat.mul_one]
  show ((l.map C.bool).set k c).map C.toB = _
  rw [List.map_set, toB_bools, hc, List.map_set]
set_option maxRecDepth 10000 in
set_option maxHeartbeats 16000000 in
theorem risLoading_spec (n : Nat) (qs : List (Nat × Nat)) (hk : Knd n qs) (bs : List Bool) (hbl : bs.length = qs.length) :
    Spec Tryd.prog 71 [kW n (castP qs), V.c (.sl 1 bs.length)] [⟨0, .ro 2, cellC (castP qs)⟩, ⟨1, .ro 0, bs.map C.bool⟩] 2 (Is (V.c (.bool (isLd n qs bs)))) := by
  have hcl := cellC_len (castP qs)
  have hn := hk.rng
  have hql := knd_len hk
  have hpl := castP_len qs
  have hrep : (repC n [C.ff]).map C.toB = (fnB (jac qs bs 0) n).map some := toB_zero n
  have hbm : (bs.map C.bool).length = bs.length := List.length_map _
  refine Spec.of tok Tryd.func71 rfl rfl rfl fun n0 cx => vc_ok tok ?_
  repeat ((conv => whnf); first | (refine And.intro (by first | omega | exact Nat.le_of_ble_eq_true rfl | (dsimp only [inK]; omega)) ?_) | refine Exists.intro _ (And.intro rfl ?_) | refine fun (K' : K3) hK' => ?_ | (refine hK' _ _ _ ?_; clear hK' K'))
  refine Tri.loop (γ := Nat) (fun r => r ≤ n) (fun r => [(1, V.c (.sl 1 bs.length)), (2, V.c (.ptr 2 0)), (4, V.c .ff), (5, V.c (.sl 3 n)), (19, V.i n), (20, V.i (r : Nat))])
    (fun r => [⟨3, .vec 4 1, (fnB (jac qs bs r) n).map C.bool⟩, ⟨2, .own 24, [C.i n, .sl 0 (castP qs).length]⟩, ⟨0, .ro 2, cellC (castP qs)⟩, ⟨1, .ro 0, bs.map C.bool⟩]) 4 (fun r => n - r) 0 (R0 := []) ?_ ?_ ?_
  · omega
  · skip
    refine ⟨?_, ?_, rfl, rfl, by exact Nat.le_of_ble_eq_true rfl⟩
    · repeat (first | exact trivial | (refine And.intro (covS_syn (by rfl) rfl (by first | exact trivial | exact Nat.le_of_ble_eq_true rfl)) ?_))
    · repeat (first | exact trivial | refine And.intro (covE_bools rfl (Nat.le_of_ble_eq_true rfl) rfl hrep) ?_ | (refine And.intro (covE_id (Nat.le_of_ble_eq_true rfl) (by first | exact wf_bools _ _ | first | exact wf_us _ _ | exact wf_cells _ _ | exact wf_bools _ _ | (simp [C.wf]; done)) rfl (by rfl)) ?_))
  · intro r hr
    refine vc_ok tok ?_
    by_cases hlt : r < n
    · have hfl := fnB_len (jac qs bs r) n
      have hfm : ((fnB (jac qs bs r) n).map C.bool).length = n := by rw [List.length_map, hfl]
      repeat ((conv => whnf); first | (refine And.intro (by first | omega | (dsimp only [inK]; omega) | (exact ⟨rfl, rfl, rfl, Nat.le_of_ble_eq_true rfl, by rfl, by dsimp only; omega, by omega, Nat.le_of_ble_eq_true rfl⟩)) ?_) | refine br_t (by omega) ?_ | refine fun (K' : K3) hK' => ?_ | (refine hK' _ _ _ ?_; clear hK' K'))
      refine Tri.loop (γ := Nat) (fun a => a ≤ n) (fun a => [(1, V.c (.sl 1 bs.length)), (2, V.c (.ptr 2 0)), (4, V.c .ff), (5, V.c (.sl 3 n)), (6, V.c (.sl 5 n)), (19, V.i n), (20, V.i (r : Nat)), (25, V.c (.sl 3 n)), (26, V.i n), (27, V.i (a : Nat))])
        (fun a => [⟨5, .vec 4 1, (fnB (jac qs bs r) n).map C.bool⟩, ⟨3, .vec 4 1, (fnB (fun x => if x < a then jac qs bs (r + 1) x else jac qs bs r x) n).map C.bool⟩, ⟨2, .own 24, [C.i n, .sl 0 (castP qs).length]⟩, ⟨0, .ro 2, cellC (castP qs)⟩, ⟨1, .ro 0, bs.map C.bool⟩]) 6 (fun a => n - a) 0 (R0 := []) ?_ ?_ ?_
      · omega
      · skip
        have hz : fnB (fun x => if x < 0 then jac qs bs (r + 1) x else jac qs bs r x) n = fnB (jac qs bs r) n := fnB_congr fun x _ => by rw [if_neg (by omega)]
        rw [hz]
        have hap : repC 0 [C.ff] ++ List.take (n * 1) ((fnB (jac qs bs r) n).map C.bool) = (fnB (jac qs bs r) n).map C.bool := by
          show [] ++ _ = _
          rw [List.nil_append, Nat.mul_one, List.take_of_length_le (by omega)]
        refine ⟨?_, ?_, rfl, rfl, by exact Nat.le_of_ble_eq_true rfl⟩
        · repeat (first | exact trivial | (refine And.intro (covS_syn (by first | rfl | exact congrArg (fun m => some (V.c (.sl 5 m))) (Nat.zero_add n)) rfl (by first | exact trivial | exact Nat.le_of_ble_eq_true rfl)) ?_))
        · repeat (first | exact trivial | (refine And.intro (covE_id (Nat.le_of_ble_eq_true rfl) (by first | exact wf_bools _ _ | first | exact wf_us _ _ | exact wf_cells _ _ | exact wf_bools _ _ | (simp [C.wf]; done)) rfl (by first | rfl | exact hap)) ?_))
      · intro a ha
        refine vc_ok tok ?_
        by_cases han : a < n
        · obtain ⟨l, hl⟩ : ∃ l, l = fnB (fun x => if x < a then jac qs bs (r + 1) x else jac qs bs r x) n := ⟨_, rfl⟩
          have hll : l.length = n := by rw [hl, fnB_len]
          have hla : l.getD a false = jac qs bs r a := by rw [hl, fnB_get han, if_neg (by omega)]
          have hls : l.set a (jac qs bs (r + 1) a) = fnB (fun x => if x < a + 1 then jac qs bs (r + 1) x else jac qs bs r x) n := by
            rw [hl, fnB_set]
            refine fnB_congr fun x _ => ?_
            by_cases h : x = a
            · subst h; rw [if_pos rfl, if_pos (by omega)]
            · rw [if_neg h]
              by_cases h2 : x < a
              · rw [if_pos h2, if_pos (by omega)]
              · rw [if_neg h2, if_neg (by omega)]
          rw [← hl]
          have hlm : (l.map C.bool).length = n := by rw [List.length_map, hll]
          repeat ((conv => whnf); first | (refine And.intro (by first | omega | exact Nat.le_of_ble_eq_true rfl) ?_) | refine Exists.intro _ (And.intro rfl ?_) | refine br_t (by omega) ?_ | refine fun (K' : K3) hK' => ?_ | (refine hK' _ _ _ ?_; clear hK' K'))
          refine Tri.loop (γ := Nat) (fun i => i ≤ qs.length) (fun i => [(1, V.c (.sl 1 bs.length)), (2, V.c (.ptr 2 0)), (4, V.c .ff), (5, V.c (.sl 3 n)), (6, V.c (.sl 5 n)), (7, V.i (a : Nat)), (8, V.c (.bool (okJ qs bs (jac qs bs r) a i))), (19, V.i n), (20, V.i (r : Nat)), (25, V.c (.sl 3 n)), (26, V.i n), (27, V.i (a : Nat)), (31, V.c (.sl 0 (castP qs).length)), (32, V.i (castP qs).length), (33, V.i (i : Nat))])
            (fun i => [⟨5, .vec 4 1, (fnB (jac qs bs r) n).map C.bool⟩, ⟨3, .vec 4 1, l.map C.bool⟩, ⟨2, .own 24, [C.i n, .sl 0 (castP qs).length]⟩, ⟨0, .ro 2, cellC (castP qs)⟩, ⟨1, .ro 0, bs.map C.bool⟩]) 6 (fun i => qs.length - i) 0 (R0 := []) ?_ ?_ ?_
          · omega
          · skip
            refine ⟨?_, ?_, rfl, rfl, by exact Nat.le_of_ble_eq_true rfl⟩
            · repeat (first | exact trivial | (refine And.intro (covS_syn (by rfl) rfl (by first | exact trivial | exact Nat.le_of_ble_eq_true rfl)) ?_) | refine And.intro (covS_bool rfl rfl (by rfl)) ?_)
            · repeat (first | exact trivial | (refine And.intro (covE_id (Nat.le_of_ble_eq_true rfl) (by first | exact wf_bools _ _ | first | exact wf_us _ _ | exact wf_cells _ _ | exact wf_bools _ _ | (simp [C.wf]; done)) rfl (by rfl)) ?_))
          · intro i hi
            refine vc_ok tok ?_
            by_cases hil : i < qs.length
            · have hld := cellT (l := castP qs) (k := i) rfl (by omega)
              change takeC (cellC (castP qs)) (mulS ((i : Nat) : Int).toNat 2) 2 = some [C.i ((castP qs).getD i cz).1, C.i ((castP qs).getD i cz).2] at hld
              rw [castP_get hil] at hld
              have hlb : (bs.map C.bool)[mulS ((i : Nat) : Int).toNat 1]? = some (C.bool (bs.getD i false)) := boolL (by omega)
              have hpl2 := prd_lt (bs := bs) hk hil
              have hsu : okJ qs bs (jac qs bs r) a (i + 1) = (okJ qs bs (jac qs bs r) a i && (!decide ((prd qs bs i).2 = a) || jac qs bs r (prd qs bs i).1)) := rfl
              have hlw : ((fnB (jac qs bs r) n).map C.bool)[mulS (((prd qs bs i).1 : Nat) : Int).toNat 1]? = some (C.bool (jac qs bs r (prd qs bs i).1)) := by
                rw [← fnB_get (f := jac qs bs r) hpl2.1]; exact boolL (by omega)
              obtain ⟨o, ho⟩ : ∃ o, o = okJ qs bs (jac qs bs r) a i := ⟨_, rfl⟩
              rw [← ho] at hsu ⊢
              obtain ⟨w, hw⟩ : ∃ w, w = jac qs bs r (prd qs bs i).1 := ⟨_, rfl⟩
              rw [← hw] at hsu hlw
              obtain ⟨x, hx⟩ : ∃ x, x = (prd qs bs i).1 := ⟨_, rfl⟩
              obtain ⟨y, hy⟩ : ∃ y, y = (prd qs bs i).2 := ⟨_, rfl⟩
              rw [← hx] at hlw hpl2
              rw [← hy] at hsu hpl2
              have hxy : bs.getD i false = true ∧ x = (qs.getD i (0, 0)).1 ∧ y = (qs.getD i (0, 0)).2 ∨ bs.getD i false = false ∧ x = (qs.getD i (0, 0)).2 ∧ y = (qs.getD i (0, 0)).1 := by
                rw [hx, hy]; unfold prd
                cases bs.getD i false with
                | true => left; exact ⟨rfl, rfl, rfl⟩
                | false => right; exact ⟨rfl, rfl, rfl⟩
              clear hx hy hw
              rcases hxy with ⟨hb, hx, hy⟩ | ⟨hb, hx, hy⟩
              · rw [← hx, ← hy] at hld
                rw [hb] at hlb
                cases o with
                | false =>
                  repeat ((conv => whnf); first | (refine And.intro (by first | omega | exact Nat.le_of_ble_eq_true rfl | (dsimp only [inK]; omega) | exact ⟨by omega, by omega, by exact Nat.le_of_ble_eq_true rfl⟩) ?_) | with_reducible refine ld (hld) ?_ | with_reducible refine ld (hlb) ?_ | refine Exists.intro _ (And.intro rfl ?_) | refine br_t (by omega) ?_ | refine fun (K' : K3) hK' => ?_ | (refine hK' _ _ _ ?_; clear hK' K') | refine draw_auto tok mixed (by kernel_rfl) ?_ | refine br_bt (Eq.refl true) ?_ | refine br_bf (Eq.refl false) ?_)
                  refine ⟨i + 1, [], by omega, by omega, ?_⟩
                  rw [hsu]
                  refine ⟨?_, ?_, rfl, rfl, by exact Nat.le_of_ble_eq_true rfl⟩
                  · repeat (first | exact trivial | (refine And.intro (covS_syn (by rfl) rfl (by first | exact trivial | exact Nat.le_of_ble_eq_true rfl)) ?_) | refine And.intro (covS_bool rfl rfl (by rfl)) ?_)
                  · repeat (first | exact trivial | (refine And.intro (covE_id (Nat.le_of_ble_eq_true rfl) (by first | exact wf_bools _ _ | first | exact wf_us _ _ | exact wf_cells _ _ | exact wf_bools _ _ | (simp [C.wf]; done)) rfl (by rfl)) ?_))
                | true =>
                  by_cases hya : y = a
                  · have hne : ¬ ((y : Nat) : Int) ≠ (a : Nat) := by omega
                    rw [decide_eq_true hya] at hsu
                    repeat ((conv => whnf); first | (refine And.intro (by first | omega | exact Nat.le_of_ble_eq_true rfl | (dsimp only [inK]; omega) | exact ⟨by omega, by omega, by exact Nat.le_of_ble_eq_true rfl⟩) ?_) | with_reducible refine ld (hld) ?_ | with_reducible refine ld (hlb) ?_ | with_reducible refine ld (hlw) ?_ | refine Exists.intro _ (And.intro rfl ?_) | refine br_t (by omega) ?_ | refine bs_f (by omega) ?_ | refine fun (K' : K3) hK' => ?_ | (refine hK' _ _ _ ?_; clear hK' K') | refine draw_auto tok mixed (by kernel_rfl) ?_ | refine br_bt (Eq.refl true) ?_)
                    refine ⟨i + 1, [], by omega, by omega, ?_⟩
                    rw [hsu]
                    refine ⟨?_, ?_, rfl, rfl, by exact Nat.le_of_ble_eq_true rfl⟩
                    · repeat (first | exact trivial | (refine And.intro (covS_syn (by rfl) rfl (by first | exact trivial | exact Nat.le_of_ble_eq_true rfl)) ?_))
                    · repeat (first | exact trivial | (refine And.intro (covE_id (Nat.le_of_ble_eq_true rfl) (by first | exact wf_bools _ _ | first | exact wf_us _ _ | exact wf_cells _ _ | exact wf_bools _ _ | (simp [C.wf]; done)) rfl (by rfl)) ?_))
                  · have hne : ((y : Nat) : Int) ≠ (a : Nat) := by omega
                    rw [decide_eq_false hya] at hsu
                    repeat ((conv => whnf); first | (refine And.intro (by first | omega | exact Nat.le_of_ble_eq_true rfl | (dsimp only [inK]; omega) | exact ⟨by omega, by omega, by exact Nat.le_of_ble_eq_true rfl⟩) ?_) | with_reducible refine ld (hld) ?_ | with_reducible refine ld (hlb) ?_ | refine Exists.intro _ (And.intro rfl ?_) | refine br_t (by omega) ?_ | refine bs_t (by omega) ?_ | refine fun (K' : K3) hK' => ?_ | (refine hK' _ _ _ ?_; clear hK' K') | refine draw_auto tok mixed (by kernel_rfl) ?_ | refine br_bt (Eq.refl true) ?_)
                    refine ⟨i + 1, [], by omega, by omega, ?_⟩
                    rw [hsu]
                    refine ⟨?_, ?_, rfl, rfl, by exact Nat.le_of_ble_eq_true rfl⟩
                    · repeat (first | exact trivial | (refine And.intro (covS_syn (by rfl) rfl (by first | exact trivial | exact Nat.le_of_ble_eq_true rfl)) ?_) | refine And.intro (covS_bool rfl rfl (by rfl)) ?_)
                    · repeat (first | exact trivial | (refine And.intro (covE_id (Nat.le_of_ble_eq_true rfl) (by first | exact wf_bools _ _ | first | exact wf_us _ _ | exact wf_cells _ _ | exact wf_bools _ _ | (simp [C.wf]; done)) rfl (by rfl)) ?_))
              · rw [← hx, ← hy] at hld
                rw [hb] at hlb
                cases o with
                | false =>
                  repeat ((conv => whnf); first | (refine And.intro (by first | omega | exact Nat.le_of_ble_eq_true rfl | (dsimp only [inK]; omega) | exact ⟨by omega, by omega, by exact Nat.le_of_ble_eq_true rfl⟩) ?_) | with_reducible refine ld (hld) ?_ | with_reducible refine ld (hlb) ?_ | refine Exists.intro _ (And.intro rfl ?_) | refine br_t (by omega) ?_ | refine fun (K' : K3) hK' => ?_ | (refine hK' _ _ _ ?_; clear hK' K') | refine draw_auto tok mixed (by kernel_rfl) ?_ | refine br_bf (Eq.refl false) ?_)
                  refine ⟨i + 1, [], by omega, by omega, ?_⟩
                  rw [hsu]
                  refine ⟨?_, ?_, rfl, rfl, by exact Nat.le_of_ble_eq_true rfl⟩
                  · repeat (first | exact trivial | (refine And.intro (covS_syn (by rfl) rfl (by first | exact trivial | exact Nat.le_of_ble_eq_true rfl)) ?_) | refine And.intro (covS_bool rfl rfl (by rfl)) ?_)
                  · repeat (first | exact trivial | (refine And.intro (covE_id (Nat.le_of_ble_eq_true rfl) (by first | exact wf_bools _ _ | first | exact wf_us _ _ | exact wf_cells _ _ | exact wf_bools _ _ | (simp [C.wf]; done)) rfl (by rfl)) ?_))
                | true =>
                  by_cases hya : y = a
                  · have hne : ¬ ((y : Nat) : Int) ≠ (a : Nat) := by omega
                    rw [decide_eq_true hya] at hsu
                    repeat ((conv => whnf); first | (refine And.intro (by first | omega | exact Nat.le_of_ble_eq_true rfl | (dsimp only [inK]; omega) | exact ⟨by omega, by omega, by exact Nat.le_of_ble_eq_true rfl⟩) ?_) | with_reducible refine ld (hld) ?_ | with_reducible refine ld (hlb) ?_ | with_reducible refine ld (hlw) ?_ | refine Exists.intro _ (And.intro rfl ?_) | refine br_t (by omega) ?_ | refine bs_f (by omega) ?_ | refine fun (K' : K3) hK' => ?_ | (refine hK' _ _ _ ?_; clear hK' K') | refine draw_auto tok mixed (by kernel_rfl) ?_ | refine br_bt (Eq.refl true) ?_ | refine br_bf (Eq.refl false) ?_)
                    refine ⟨i + 1, [], by omega, by omega, ?_⟩
                    rw [hsu]
                    refine ⟨?_, ?_, rfl, rfl, by exact Nat.le_of_ble_eq_true rfl⟩
                    · repeat (first | exact trivial | (refine And.intro (covS_syn (by rfl) rfl (by first | exact trivial | exact Nat.le_of_ble_eq_true rfl)) ?_))
                    · repeat (first | exact trivial | (refine And.intro (covE_id (Nat.le_of_ble_eq_true rfl) (by first | exact wf_bools _ _ | first | exact wf_us _ _ | exact wf_cells _ _ | exact wf_bools _ _ | (simp [C.wf]; done)) rfl (by rfl)) ?_))
                  · have hne : ((y : Nat) : Int) ≠ (a : Nat) := by omega
                    rw [decide_eq_false hya] at hsu
                    repeat ((conv => whnf); first | (refine And.intro (by first | omega | exact Nat.le_of_ble_eq_true rfl | (dsimp only [inK]; omega) | exact ⟨by omega, by omega, by exact Nat.le_of_ble_eq_true rfl⟩) ?_) | with_reducible refine ld (hld) ?_ | with_reducible refine ld (hlb) ?_ | refine Exists.intro _ (And.intro rfl ?_) | refine br_t (by omega) ?_ | refine bs_t (by omega) ?_ | refine fun (K' : K3) hK' => ?_ | (refine hK' _ _ _ ?_; clear hK' K') | refine draw_auto tok mixed (by kernel_rfl) ?_ | refine br_bt (Eq.refl true) ?_ | refine br_bf (Eq.refl false) ?_)
                    refine ⟨i + 1, [], by omega, by omega, ?_⟩
                    rw [hsu]
                    refine ⟨?_, ?_, rfl, rfl, by exact Nat.le_of_ble_eq_true rfl⟩
                    · repeat (first | exact trivial | (refine And.intro (covS_syn (by rfl) rfl (by first | exact trivial | exact Nat.le_of_ble_eq_true rfl)) ?_) | refine And.intro (covS_bool rfl rfl (by rfl)) ?_)
                    · repeat (first | exact trivial | (refine And.intro (covE_id (Nat.le_of_ble_eq_true rfl) (by first | exact wf_bools _ _ | first | exact wf_us _ _ | exact wf_cells _ _ | exact wf_bools _ _ | (simp [C.wf]; done)) rfl (by rfl)) ?_))
            · obtain rfl : i = qs.length := by omega
              have hlv : (l.map C.bool)[mulS ((a : Nat) : Int).toNat 1]? = some (C.bool (jac qs bs r a)) := by rw [← hla]; exact boolL (by omega)
              have hjs : jac qs bs (r + 1) a = (jac qs bs r a || okJ qs bs (jac qs bs r) a qs.length) := rfl
              obtain ⟨o, ho⟩ : ∃ o, o = okJ qs bs (jac qs bs r) a qs.length := ⟨_, rfl⟩
              rw [← ho] at hjs ⊢
              cases hj : jac qs bs r a with
              | true =>
                rw [hj] at hlv hjs
                rw [hjs] at hls
                repeat ((conv => whnf); first | (refine And.intro (by first | omega | (dsimp only [inK]; omega) | (simp only [mulS_eq]; omega)) ?_) | with_reducible refine ld (hlv) ?_ | refine br_f (by omega) ?_ | refine fun (K' : K3) hK' => ?_ | (refine hK' _ _ _ ?_; clear hK' K') | refine bs_bt (Eq.refl true) ?_)
                refine ⟨a + 1, [], by omega, by omega, ?_⟩
                rw [← hls]
                refine ⟨?_, ?_, rfl, rfl, by exact Nat.le_of_ble_eq_true rfl⟩
                · repeat (first | exact trivial | (refine And.intro (covS_syn (by rfl) rfl (by first | exact trivial | exact Nat.le_of_ble_eq_true rfl)) ?_))
                · repeat (first | exact trivial | refine And.intro (covE_bools rfl (Nat.le_of_ble_eq_true rfl) rfl (toB_set rfl)) ?_ | (refine And.intro (covE_id (Nat.le_of_ble_eq_true rfl) (by first | exact wf_bools _ _ | first | exact wf_us _ _ | exact wf_cells _ _ | exact wf_bools _ _ | (simp [C.wf]; done)) rfl (by rfl)) ?_))
              | false =>
                rw [hj] at hlv hjs
                rw [hjs] at hls
                repeat ((conv => whnf); first | (refine And.intro (by first | omega | (dsimp only [inK]; omega) | (simp only [mulS_eq]; omega)) ?_) | with_reducible refine ld (hlv) ?_ | refine br_f (by omega) ?_ | refine fun (K' : K3) hK' => ?_ | (refine hK' _ _ _ ?_; clear hK' K') | refine bs_bf (Eq.refl false) ?_)
                refine ⟨a + 1, [], by omega, by omega, ?_⟩
                rw [← hls]
                refine ⟨?_, ?_, rfl, rfl, by exact Nat.le_of_ble_eq_true rfl⟩
                · repeat (first | exact trivial | (refine And.intro (covS_syn (by rfl) rfl (by first | exact trivial | exact Nat.le_of_ble_eq_true rfl)) ?_))
                · repeat (first | exact trivial | refine And.intro (covE_bools rfl (Nat.le_of_ble_eq_true rfl) rfl (toB_set rfl)) ?_ | (refine And.intro (covE_id (Nat.le_of_ble_eq_true rfl) (by first | exact wf_bools _ _ | first | exact wf_us _ _ | exact wf_cells _ _ | exact wf_bools _ _ | (simp [C.wf]; done)) rfl (by rfl)) ?_))
        · obtain rfl : a = n := by omega
          have hz : fnB (fun x => if x < a then jac qs bs (r + 1) x else jac qs bs r x) a = fnB (jac qs bs (r + 1)) a := fnB_congr fun x hx => by rw [if_pos hx]
          rw [hz]
          repeat ((conv => whnf); first | (refine And.intro (by first | omega | (dsimp only [inK]; omega)) ?_) | refine br_f (by omega) ?_ | refine fun (K' : K3) hK' => ?_ | (refine hK' _ _ _ ?_; clear hK' K'))
          refine ⟨r + 1, [], by omega, by omega, ?_⟩
          refine ⟨?_, ?_, rfl, rfl, by exact Nat.le_of_ble_eq_true rfl⟩
          · repeat (first | exact trivial | (refine And.intro (covS_syn (by rfl) rfl (by first | exact trivial | exact Nat.le_of_ble_eq_true rfl)) ?_))
          · repeat (first | exact trivial | (refine And.intro (covE_id (Nat.le_of_ble_eq_true rfl) (by first | exact wf_bools _ _ | first | exact wf_us _ _ | exact wf_cells _ _ | exact wf_bools _ _ | (simp [C.wf]; done)) rfl (by rfl)) ?_))
    · obtain rfl : r = n := by omega
      have hfl := fnB_len (jac qs bs r) r
      have hfm : ((fnB (jac qs bs r) r).map C.bool).length = r := by rw [List.length_map, hfl]
      repeat ((conv => whnf); first | refine br_f (by omega) ?_ | refine fun (K' : K3) hK' => ?_ | (refine hK' _ _ _ ?_; clear hK' K'))
      refine Tri.loop (γ := Nat) (fun k => k ≤ r ∧ ∀ x, x < k → jac qs bs r x = true) (fun k => [(75, V.c (.sl 3 r)), (76, V.i r), (77, V.i (k : Nat))])
        (fun k => [⟨3, .vec 4 1, (fnB (jac qs bs r) r).map C.bool⟩]) 4 (fun k => r - k) 0 (R0 := []) ?_ ?_ ?_
      · exact ⟨by omega, fun x hx => by omega⟩
      · skip
        refine ⟨?_, ?_, rfl, rfl, by exact Nat.le_of_ble_eq_true rfl⟩
        · repeat (first | exact trivial | (refine And.intro (covS_syn (by rfl) rfl (by first | exact trivial | exact Nat.le_of_ble_eq_true rfl)) ?_))
        · repeat (first | exact trivial | refine And.intro (covE_id (Nat.le_of_ble_eq_true rfl) (by exact wf_bools _ _) rfl (by rfl)) ?_)
      · rintro k ⟨hkr, hall⟩
        refine vc_ok tok ?_
        by_cases hlk : k < r
        · have hlv : ((fnB (jac qs bs r) r).map C.bool)[mulS ((k : Nat) : Int).toNat 1]? = some (C.bool (jac qs bs r k)) := by
            rw [← fnB_get (f := jac qs bs r) hlk]; exact boolL (by omega)
          cases hj : jac qs bs r k with
          | true =>
            rw [hj] at hlv
            repeat ((conv => whnf); first | (refine And.intro (by first | omega | (dsimp only [inK]; omega)) ?_) | with_reducible refine ld (hlv) ?_ | refine br_t (by omega) ?_ | refine fun (K' : K3) hK' => ?_ | (refine hK' _ _ _ ?_; clear hK' K') | refine br_bf (Eq.refl false) ?_)
            refine ⟨k + 1, [], ⟨by omega, fun x hx => ?_⟩, by omega, ?_⟩
            · rcases Nat.lt_or_ge x k with h | h
              · exact hall x h
              · obtain rfl : x = k := by omega
                exact hj
            · skip
              refine ⟨?_, ?_, rfl, rfl, by exact Nat.le_of_ble_eq_true rfl⟩
              · repeat (first | exact trivial | (refine And.intro (covS_syn (by rfl) rfl (by first | exact trivial | exact Nat.le_of_ble_eq_true rfl)) ?_))
              · repeat (first | exact trivial | refine And.intro (covE_id (Nat.le_of_ble_eq_true rfl) (by exact wf_bools _ _) rfl (by rfl)) ?_)
          | false =>
            rw [hj] at hlv
            have hres : isLd r qs bs = false := by
              rw [Bool.eq_false_iff]; intro h
              have := (isLd_jac hk).1 h k hlk
              rw [hj] at this; cases this
            repeat ((conv => whnf); first | (refine And.intro (by first | omega | (dsimp only [inK]; omega)) ?_) | with_reducible refine ld (hlv) ?_ | refine br_t (by omega) ?_ | refine fun (K' : K3) hK' => ?_ | (refine hK' _ _ _ ?_; clear hK' K') | refine br_bt (Eq.refl true) ?_)
            intro ρ; rw [hres]; rfl
        · obtain rfl : k = r := by omega
          have hres : isLd k qs bs = true := (isLd_jac hk).2 hall
          repeat ((conv => whnf); first | refine br_f (by omega) ?_ | refine fun (K' : K3) hK' => ?_ | (refine hK' _ _ _ ?_; clear hK' K'))
          intro ρ; rw [hres]; rfl
end Go.Proofs.YtijnimgmpocmaaaDoor

/- Waste: memory that stays behind a callee as it was: boxes of the callers. -/
namespace Go.Proofs.YtijnimgmpocmaaaDoor
open Go.RowKit
set_option linter.unusedVariables false
set_option linter.unusedSimpArgs false
theorem nbeq {a b : Nat} (h : a ≠ b) : Nat.beq a b = false := by
  cases hb : Nat.beq a b with
  | false => rfl
  | true => exact absurd (Nat.eq_of_beq_eq_true hb) h
theorem fskip {lab l : Nat} {kd : Kd} {cs : List C} {L : List E} (h : lab ≠ l) : find (⟨lab, kd, cs⟩ :: L) l = find L l := by
  rw [find, nbeq h]; rfl
/-- Boxes with the kinds, under labels from lo on. -/
structure Tl (n m lo : Nat) (T : List E) : Prop where
  box : ∀ e ∈ T, lo ≤ e.lab ∧ e.lab < 600 ∧ e = ⟨e.lab, .own 24, [C.i n, .sl 0 m]⟩
  inj : injB [] T = true
section
variable {n m lo : Nat} {T : List E}
theorem Tl.nil : Tl n m lo [] := ⟨fun e he => (by cases he), rfl⟩
theorem Tl.ne (h : Tl n m lo T) {l : Nat} (hl : l < lo ∨ 600 ≤ l) : ∀ e ∈ T, e.lab ≠ l := fun e he => by
  have := h.box e he; omega
theorem Tl.cons (h : Tl n m lo T) {l : Nat} (hl : l < lo) (hlo : lo ≤ 600) : Tl n m l (⟨l, .own 24, [C.i n, .sl 0 m]⟩ :: T) := by
  refine ⟨fun e he => ?_, ?_⟩
  · rcases List.mem_cons.1 he with rfl | he
    · exact ⟨Nat.le_refl _, by simp only; omega, rfl⟩
    · have := h.box e he; exact ⟨by omega, this.2⟩
  · rw [injB, h.inj, Bool.and_true]
    refine List.all_eq_true.2 fun e he => ?_
    have := h.ne (.inl hl) e he
    simp [renL, nbeq this, nbeq (Ne.symm this)]
theorem updL_nq {l o : Nat} {vs : List C} : ∀ {L : List E}, (∀ e ∈ L, e.lab ≠ l) → updL L l o vs = L
  | [], _ => rfl
  | e :: r, h => by
    have : Nat.beq e.lab l = false := nbeq (h e (by simp))
    rw [updL, this, cond_false, updL_nq (fun x hx => h x (by simp [hx]))]
theorem updK_tl (h : Tl n m lo T) {l o : Nat} {vs : List C} {K : List E → Prop} (hl : l < lo ∨ 600 ≤ l) (hK : K T) : updK l o vs T K := by
  rw [updK_eq, updL_nq (h.ne hl)]; exact hK
theorem covL_al {R : Rn} {nx : Nat} {L : List E} : ∀ {q : List E}, (∀ e ∈ q, covE R nx L e) → covL R nx L q
  | [], _ => trivial
  | e :: q, h => ⟨h e (by simp), covL_al fun x hx => h x (by simp [hx])⟩
theorem Tl.cov (h : Tl n m lo T) {R : Rn} {nx : Nat} {L : List E} (hR0 : renL R 0 = some 0) (hR : ∀ l, lo ≤ l → l < 600 → renL R l = some l) (hnx : 600 ≤ nx) (hf : ∀ e ∈ T, find L e.lab = some e) : covL R nx L T := by
  refine covL_al fun e he => ?_
  obtain ⟨h1, h2, h3⟩ := h.box e he
  have h4 := hf e he
  obtain ⟨lab, kd, cs⟩ := e
  cases h3
  refine covE_some (hR _ h1 h2) (by simp only at h2 ⊢; omega) (fun c hc => ?_) h4 ?_
  · simp only [List.mem_cons, List.not_mem_nil, or_false] at hc
    rcases hc with rfl | rfl
    · trivial
    · show 0 < nx; omega
  · simp only [List.map_cons, List.map_nil, C.ren, hR0, seqO, C.i]
/-- Labels of a literal list ahead of a tail. -/
theorem injB_front {R : Rn} {A : List E} (hT : Tl n m lo T) (hA : ∀ e ∈ A, e.lab < lo ∨ 600 ≤ e.lab) (hRT : ∀ l, lo ≤ l → l < 600 → renL R l = some l) (hRA : ∀ e ∈ A, ∀ l, renL R e.lab = some l → l < lo ∨ 600 ≤ l) (h : injB R A = true) : injB R (A ++ T) = true := by
  induction A with
  | nil =>
    have : ∀ {T : List E}, (∀ e ∈ T, lo ≤ e.lab ∧ e.lab < 600) → injB [] T = true → injB R T = true := by
      intro T
      induction T with
      | nil => intro _ _; rfl
      | cons e r ih =>
        intro hb hi
        rw [injB, Bool.and_eq_true] at hi ⊢
        refine ⟨List.all_eq_true.2 fun e' he' => ?_, ih (fun x hx => hb x (by simp [hx])) hi.2⟩
        have h1 := List.all_eq_true.1 hi.1 e' he'
        have h2 := hb e (by simp); have h3 := hb e' (by simp [he'])
        rw [hRT _ h2.1 h2.2, hRT _ h3.1 h3.2]
        exact h1
    exact this (fun e he => ⟨(hT.box e he).1, (hT.box e he).2.1⟩) hT.inj
  | cons e r ih =>
    rw [List.cons_append, injB, Bool.and_eq_true]
    rw [injB, Bool.and_eq_true] at h
    refine ⟨List.all_eq_true.2 fun e' he' => ?_, ih (fun x hx => hA x (by simp [hx])) (fun x hx => hRA x (by simp [hx])) h.2⟩
    rcases List.mem_append.1 he' with h' | h'
    · exact List.all_eq_true.1 h.1 e' h'
    · have h1 := hA e (by simp)
      have h2 := hT.box e' h'
      have hne : e'.lab ≠ e.lab := by omega
      rw [nbeq hne, hRT _ h2.1 h2.2.1]
      cases hr : renL R e.lab with
      | none => rfl
      | some a =>
        have := hRA e (by simp) a hr
        simp [nbeq (show a ≠ e'.lab by omega)]
end
theorem beqT {a : Nat} : Nat.beq a a = true := Nat.beq_refl a
theorem renL_1 {a l : Nat} {o : Option Nat} (h : a ≠ l) : renL [(a, o)] l = some l := by
  simp only [renL, nbeq h, cond_false]
theorem renL_0 {a : Nat} {o : Option Nat} : renL [(a, o)] a = o := by simp [renL]
/-- The names of a call's caller. -/
theorem used_T {c l : Nat} (hc : c < 600) (h : l ≠ 600) (h2 : l ≠ c) (h3 : l < 600) : usedOk [(c, some 600)] [(600, some c)] 600 601 l = true := by
  unfold usedOk
  rw [renL_1 (show 600 ≠ l by omega)]
  simp only [renL_1 (show c ≠ l by omega)]
  have h1 : Nat.blt l 600 = true := by rw [Nat.blt_eq]; omega
  rw [h1, beqT]; simp
theorem used_600 {c : Nat} (hc : c < 600) : usedOk [(c, some 600)] [(600, some c)] 600 601 600 = true := by
  unfold usedOk
  rw [renL_0]
  simp only [renL_0]
  have h1 : Nat.blt c 600 = true := by rw [Nat.blt_eq]; omega
  rw [h1, beqT]; simp
/- Bits of ints. -/
theorem i64_nat {n : Nat} (h : n < 9223372036854775808) : IntKind.i64.wrap (n : Int) = (n : Int) := inK_wrap (k := .i64) ⟨by omega, by omega⟩
theorem bit_andI {x y : Nat} (hx : x < 9223372036854775808) (hy : y < 9223372036854775808) : bitI .and .i64 (x : Int) (y : Int) = ((x &&& y : Nat) : Int) := by
  show IntKind.i64.wrap ((BitVec.ofInt 64 (x : Int) &&& BitVec.ofInt 64 (y : Int)).toNat : Int) = _
  have h : x &&& y < 2 ^ 63 := Nat.and_lt_two_pow _ (by omega)
  rw [BitVec.toNat_and, bv_nat (by omega), bv_nat (by omega), i64_nat (by omega)]
theorem bit_andNotI {x y : Nat} (hx : x < 9223372036854775808) (hy : y < 9223372036854775808) : bitI .andNot .i64 (x : Int) (y : Int) = ((dif x y : Nat) : Int) := by
  have h0 := bit_andNot (x := x) (y := y) (by omega) (by omega)
  have h2 : dif x y < 2 ^ 63 := Nat.xor_lt_two_pow (by omega) (Nat.and_lt_two_pow _ (by omega))
  have h3 : ((BitVec.ofInt 64 (x : Int) &&& ~~~BitVec.ofInt 64 (y : Int)).toNat : Int) = ((dif x y : Nat) : Int) := by
    have h4 : IntKind.u64.wrap ((BitVec.ofInt 64 (x : Int) &&& ~~~BitVec.ofInt 64 (y : Int)).toNat : Int) = ((BitVec.ofInt 64 (x : Int) &&& ~~~BitVec.ofInt 64 (y : Int)).toNat : Int) := u64_nat (BitVec.isLt _)
    rw [← h4]; exact h0
  show IntKind.i64.wrap ((BitVec.ofInt 64 (x : Int) &&& ~~~BitVec.ofInt 64 (y : Int)).toNat : Int) = _
  rw [h3, i64_nat (by omega)]
theorem bit_atI : ∀ s, s < 256 → ∀ a, a < 8 → bitI .and .i64 (shrI .i64 (s : Nat) (a : Nat)) 1 = if s.testBit a then 1 else 0 := by decide +kernel
end Go.Proofs.YtijnimgmpocmaaaDoor

/- Waste: the document's orders of loading of a set. -/
namespace Go.Proofs.YtijnimgmpocmaaaDoor
open Go.RowKit
set_option linter.unusedVariables false
set_option linter.unusedSimpArgs false
def szK (f a : Nat) : Nat := ((List.range a).filter fun b => f.testBit b).length
theorem szK_succ (f a : Nat) : szK f (a + 1) = szK f a + if f.testBit a then 1 else 0 := by
  unfold szK
  rw [List.range_succ, List.filter_append, List.length_append]
  congr 1
  cases h : f.testBit a <;> simp [h]
theorem szK_le (f : Nat) : ∀ a, szK f a ≤ a
  | 0 => Nat.le_refl _
  | a + 1 => by rw [szK_succ]; have := szK_le f a; split <;> omega
theorem szK_bits {f n : Nat} (hn : n ≤ 8) (hf : f < 2 ^ n) : szK f n = (bitsL f).length := by
  have : ∀ {m : Nat}, n ≤ m → (List.range m).filter (fun b => f.testBit b) = (List.range n).filter fun b => f.testBit b := by
    intro m
    induction m with
    | zero => intro h; obtain rfl : n = 0 := by omega
              rfl
    | succ m ih =>
      intro h
      rcases Nat.lt_or_ge m n with h1 | h1
      · obtain rfl : n = m + 1 := by omega
        rfl
      · have hb : f.testBit m = false := Nat.testBit_lt_two_pow (Nat.lt_of_lt_of_le hf (Nat.pow_le_pow_right (by omega) h1))
        rw [List.range_succ, List.filter_append, ih h1, List.filter_cons, hb]; simp
  unfold szK bitsL
  rw [this hn]
def apaB (cl : Nat → Nat → Bool) (f a b : Nat) : Bool := (List.range b).all fun b => !f.testBit b || !cl a b
def apaK (cl : Nat → Nat → Bool) (f a : Nat) : Bool := (List.range a).all fun a => !f.testBit a || apaB cl f a a
theorem apaB_succ (cl : Nat → Nat → Bool) (f a b : Nat) : apaB cl f a (b + 1) = (apaB cl f a b && (!f.testBit b || !cl a b)) := by simp [apaB, List.range_succ, List.all_append]
theorem apaK_succ (cl : Nat → Nat → Bool) (f a : Nat) : apaK cl f (a + 1) = (apaK cl f a && (!f.testBit a || apaB cl f a a)) := by simp [apaK, List.range_succ, List.all_append]
theorem apaK_apt {n : Nat} {qs : List (Nat × Nat)} (hk : Knd n qs) {f : Nat} (hf : f < 2 ^ n) : apaK (symC (clP qs)) f n = aptS (tabS n qs) f := by
  have hn := hk.rng
  have hz : ∀ x y : Nat, x &&& y = 0 ↔ ∀ b, ¬ (x.testBit b = true ∧ y.testBit b = true) := fun x y => by
    constructor
    · intro h b hb
      have : (x &&& y).testBit b = true := by rw [Nat.testBit_and, hb.1, hb.2]; rfl
      rw [h] at this; simp at this
    · intro h
      apply Nat.eq_of_testBit_eq; intro b
      rw [Nat.testBit_and, Nat.zero_testBit]
      have := h b
      cases h1 : x.testBit b <;> cases h2 : y.testBit b <;> simp [h1, h2] at this ⊢
  have hsym : ∀ a b, symC (clP qs) a b = symC (clP qs) b a := fun a b => by
    unfold symC
    rcases Nat.lt_trichotomy a b with h | h | h
    · rw [if_pos h, if_neg (by omega), if_pos h]
    · subst h; rfl
    · rw [if_neg (by omega), if_pos h, if_pos h]
  have hirr : ∀ a, symC (clP qs) a a = false := fun a => by unfold symC; rw [if_neg (by omega), if_neg (by omega)]
  rw [Bool.eq_iff_iff]
  unfold apaK apaB aptS
  simp only [List.all_eq_true, List.mem_range, Bool.or_eq_true, Bool.not_eq_true', decide_eq_true_iff, mem_bitsL, hz, tabS_cl hk]
  constructor
  · rintro h a ⟨_, ha⟩ b ⟨h1, h2⟩
    have han := bit_lt hf ha
    have hbn := bit_lt hf h2
    rcases Nat.lt_trichotomy a b with h3 | h3 | h3
    · rcases h b hbn with h4 | h4
      · rw [h2] at h4; cases h4
      · rcases h4 a h3 with h5 | h5
        · rw [ha] at h5; cases h5
        · rw [hsym, h1] at h5; cases h5
    · subst h3; rw [hirr] at h1; cases h1
    · rcases h a han with h4 | h4
      · rw [ha] at h4; cases h4
      · rcases h4 b h3 with h5 | h5
        · rw [h2] at h5; cases h5
        · rw [h1] at h5; cases h5
  · intro h a ha
    cases hfa : f.testBit a with
    | false => exact .inl rfl
    | true =>
      refine .inr fun b hb => ?_
      cases hfb : f.testBit b with
      | false => exact .inl rfl
      | true =>
        right
        cases hc : symC (clP qs) a b with
        | false => rfl
        | true => exact absurd ⟨hc, hfb⟩ (h a ⟨by omega, hfa⟩ b)
/-- What is known. -/
def Kno (t : List Nat) (f : Nat → Int) : Prop := ∀ x, f x = 0 ∨ f x = LD t x
def rldV (n m s M : Nat) : List V := [V.agg [C.i n, C.sl 0 m], V.i (s : Nat), V.c (.sl 1 (M + 1))]
def rldL (qs : List (Nat × Nat)) (M : Nat) (f : Nat → Int) (T : List E) : List E := ⟨0, .ro 2, cellC (castP qs)⟩ :: ⟨1, .vec 3 1, (fnL f (M + 1)).map C.i⟩ :: T
theorem Tl.fd {n m lo : Nat} {T : List E} (h : Tl n m lo T) (hlo : 301 ≤ lo) {k1 k2 k3 : Kd} {c1 c2 c3 : List C} : ∀ e ∈ T, find (⟨600, k1, c1⟩ :: ⟨0, k2, c2⟩ :: ⟨1, k3, c3⟩ :: T) e.lab = some e := fun e he => by
  obtain ⟨h1, h2, _⟩ := h.box e he
  exact (fskip (by omega)).trans ((fskip (by omega)).trans ((fskip (by omega)).trans (find_self h.inj e he)))
theorem rld_drop {n m lo M : Nat} {qs : List (Nat × Nat)} {T : List E} (hT : Tl n m lo T) (hlo : 301 ≤ lo) (f : Nat → Int) : covL [] 600 (⟨600, .own 24, [C.i n, .sl 0 m]⟩ :: rldL qs M f T) (rldL qs M f T) :=
  ⟨covE_id (by simp only; omega) (wf_cells _ _) rfl rfl, covE_id (by simp only; omega) (wf_ints _ _) rfl rfl, hT.cov rfl (fun _ _ _ => rfl) (Nat.le_refl _) fun e he => by
    obtain ⟨h1, h2, _⟩ := hT.box e he
    exact (fskip (by omega)).trans ((fskip (by omega)).trans ((fskip (by omega)).trans (find_self hT.inj e he)))⟩
theorem rld_inj {n m lo M : Nat} {qs : List (Nat × Nat)} {T : List E} (hT : Tl n m lo T) (hlo : 301 ≤ lo) (f : Nat → Int) : injB [] (rldL qs M f T) = true :=
  injB_front (A := [⟨0, .ro 2, cellC (castP qs)⟩, ⟨1, .vec 3 1, (fnL f (M + 1)).map C.i⟩]) hT (fun e he => by
    simp only [List.mem_cons, List.not_mem_nil, or_false] at he
    rcases he with rfl | rfl <;> simp only <;> omega) (fun _ _ _ => rfl) (fun e he l hl => by
    simp only [List.mem_cons, List.not_mem_nil, or_false] at he
    cases hl
    rcases he with rfl | rfl <;> simp only <;> omega) rfl
theorem rld_inj6 {n m lo M : Nat} {qs : List (Nat × Nat)} {T : List E} {R : Rn} (hT : Tl n m lo T) (hlo : 301 ≤ lo) (f : Nat → Int) (hR : R = [] ∨ ∃ c, c < lo ∧ 2 ≤ c ∧ R = [(600, some c)]) : injB R (⟨600, .own 24, [C.i n, .sl 0 m]⟩ :: rldL qs M f T) = true := by
  refine injB_front (A := [⟨600, .own 24, [C.i n, .sl 0 m]⟩, ⟨0, .ro 2, cellC (castP qs)⟩, ⟨1, .vec 3 1, (fnL f (M + 1)).map C.i⟩]) hT (fun e he => ?_) (fun l h1 h2 => ?_) (fun e he l hl => ?_) ?_
  · simp only [List.mem_cons, List.not_mem_nil, or_false] at he
    rcases he with rfl | rfl | rfl <;> simp only <;> omega
  · rcases hR with rfl | ⟨c, hc, _, rfl⟩
    · rfl
    · exact renL_1 (by omega)
  · simp only [List.mem_cons, List.not_mem_nil, or_false] at he
    rcases hR with rfl | ⟨c, hc, _, rfl⟩
    · cases hl
      rcases he with rfl | rfl | rfl <;> simp only <;> omega
    · rcases he with rfl | rfl | rfl
      · rw [renL_0] at hl; cases hl; omega
      · rw [renL_1 (by simp)] at hl; cases hl; simp only; omega
      · rw [renL_1 (by simp)] at hl; cases hl; simp only; omega
  · rcases hR with rfl | ⟨c, hc, hc2, rfl⟩
    · rfl
    · simp [injB, renL, nbeq (show c ≠ 0 by omega), nbeq (show c ≠ 1 by omega), show Nat.beq 0 600 = false from rfl, show Nat.beq 1 600 = false from rfl, show Nat.beq 1 0 = false from rfl, show Nat.beq 0 1 = false from rfl, show Nat.beq 600 0 = false from rfl, show Nat.beq 600 1 = false from rfl]
/-- The call: the caller's own box under the name of its set. -/
theorem rld_call {n m c M : Nat} {qs : List (Nat × Nat)} {T : List E} (hT : Tl n m (c + 1) T) (hc : 300 ≤ c) (hc6 : c < 600) (f : Nat → Int) :
    covL [(c, some 600)] 600 (⟨600, .own 24, [C.i n, .sl 0 m]⟩ :: rldL qs M f T) (rldL qs M f (⟨c, .own 24, [C.i n, .sl 0 m]⟩ :: T)) := by
  have r0 : renL [(c, some 600)] 0 = some 0 := renL_1 (by omega)
  have r1 : renL [(c, some 600)] 1 = some 1 := renL_1 (by omega)
  refine ⟨covE_some r0 (by simp only; omega) (wf_cells _ _) rfl (ren_cells _ _), covE_some r1 (by simp only; omega) (wf_ints _ _) rfl (ren_ints _ _), covE_some renL_0 hc6 (fun x hx => ?_) rfl ?_, hT.cov r0 (fun l h1 h2 => renL_1 (by omega)) (Nat.le_refl _) fun e he => ?_⟩
  · simp only [List.mem_cons, List.not_mem_nil, or_false] at hx
    rcases hx with rfl | rfl
    · trivial
    · show 0 < 600; omega
  · simp only [List.map_cons, List.map_nil, C.ren, r0, seqO, C.i]
  · obtain ⟨h1, h2, _⟩ := hT.box e he
    exact (fskip (by omega)).trans ((fskip (by omega)).trans ((fskip (by omega)).trans (find_self hT.inj e he)))
theorem rld_callinj {n m c M : Nat} {qs : List (Nat × Nat)} {T : List E} (hT : Tl n m (c + 1) T) (hc : 300 ≤ c) (hc6 : c < 600) (f : Nat → Int) : injB [(c, some 600)] (rldL qs M f (⟨c, .own 24, [C.i n, .sl 0 m]⟩ :: T)) = true := by
  have r0 : renL [(c, some 600)] 0 = some 0 := renL_1 (by omega)
  have r1 : renL [(c, some 600)] 1 = some 1 := renL_1 (by omega)
  refine injB_front (A := [⟨0, .ro 2, cellC (castP qs)⟩, ⟨1, .vec 3 1, (fnL f (M + 1)).map C.i⟩, ⟨c, .own 24, [C.i n, .sl 0 m]⟩]) hT (fun e he => ?_) (fun l h1 h2 => renL_1 (by omega)) (fun e he l hl => ?_) ?_
  · simp only [List.mem_cons, List.not_mem_nil, or_false] at he
    rcases he with rfl | rfl | rfl <;> simp only <;> omega
  · simp only [List.mem_cons, List.not_mem_nil, or_false] at he
    rcases he with rfl | rfl | rfl
    · rw [r0] at hl; cases hl; omega
    · rw [r1] at hl; cases hl; omega
    · rw [renL_0] at hl; cases hl; omega
  · simp [injB, r0, r1, renL_0, nbeq (show c ≠ 0 by omega), nbeq (show c ≠ 1 by omega), show Nat.beq 0 600 = false from rfl, show Nat.beq 1 600 = false from rfl, show Nat.beq 1 0 = false from rfl, show Nat.beq 0 1 = false from rfl, show Nat.beq 600 0 = false from rfl, show Nat.beq 600 1 = false from rfl]
theorem rld_back {n m c M : Nat} {qs : List (Nat × Nat)} {T : List E} (hT : Tl n m (c + 1) T) (hc : 300 ≤ c) (hc6 : c < 600) (f : Nat → Int) :
    covL [(600, some c)] 601 (rldL qs M f (⟨c, .own 24, [C.i n, .sl 0 m]⟩ :: T)) (⟨600, .own 24, [C.i n, .sl 0 m]⟩ :: rldL qs M f T) := by
  have r0 : renL [(600, some c)] 0 = some 0 := rfl
  have r1 : renL [(600, some c)] 1 = some 1 := rfl
  refine ⟨covE_some (cs' := [C.i n, .sl 0 m]) renL_0 (by simp only; omega) (fun x hx => ?_) ?_ ?_, covE_some r0 (by simp only; omega) (wf_cells _ _) rfl (ren_cells _ _), covE_some r1 (by simp only; omega) (wf_ints _ _) rfl (ren_ints _ _), hT.cov r0 (fun l h1 h2 => renL_1 (by omega)) (by omega) fun e he => ?_⟩
  · simp only [List.mem_cons, List.not_mem_nil, or_false] at hx
    rcases hx with rfl | rfl
    · trivial
    · show 0 < 601; omega
  · refine (fskip (by omega)).trans ((fskip (by omega)).trans ?_)
    simp [find]
  · simp only [List.map_cons, List.map_nil, C.ren, r0, seqO, C.i]
  · obtain ⟨h1, h2, _⟩ := hT.box e he
    exact (fskip (by omega)).trans ((fskip (by omega)).trans ((fskip (by omega)).trans (find_self hT.inj e he)))
theorem rld_used {n m c M : Nat} {qs : List (Nat × Nat)} {T : List E} (hT : Tl n m (c + 1) T) (hc : 300 ≤ c) (hc6 : c < 600) (f : Nat → Int) (x : Int) :
    ((⟨600, .own 24, [C.i n, .sl 0 m]⟩ :: rldL qs M f T).all (fun e => usedOk [(c, some 600)] [(600, some c)] 600 601 e.lab && e.cs.all (C.chk (usedOk [(c, some 600)] [(600, some c)] 600 601))) && (V.i x).chk (usedOk [(c, some 600)] [(600, some c)] 600 601)) = true := by
  have u0 := used_T (c := c) (l := 0) hc6 (by omega) (by omega) (by omega)
  have u1 := used_T (c := c) (l := 1) hc6 (by omega) (by omega) (by omega)
  have u6 := used_600 (c := c) hc6
  have uT : T.all (fun e => usedOk [(c, some 600)] [(600, some c)] 600 601 e.lab && e.cs.all (C.chk (usedOk [(c, some 600)] [(600, some c)] 600 601))) = true := List.all_eq_true.2 fun e he => by
    obtain ⟨h1, h2, h3⟩ := hT.box e he
    rw [h3]
    simp only [used_T (c := c) (l := e.lab) hc6 (by omega) (by omega) (by omega), List.all_cons, List.all_nil, C.chk, u0, Bool.and_self]
  simp only [rldL, List.all_cons, u6, u0, u1, uT, (flat_c _).chk, (flat_i _).chk, List.all_nil, C.chk, V.chk, A.chk, Bool.and_self]
set_option maxRecDepth 10000 in
set_option maxHeartbeats 16000000 in
theorem rloadings_spec (n : Nat) (qs : List (Nat × Nat)) (hk : Knd n qs) (M : Nat) (hM : 2 ^ n = M + 1) : ∀ (s : Nat), s ≤ M → ∀ (T : List E), Tl n (castP qs).length (301 + s) T → ∀ (f : Nat → Int), Kno (tabS n qs) f →
    SpecM Tryd.prog 78 (rldV n (castP qs).length s M) (rldL qs M f T) 600 (fun v L' nx' => ∃ f', Kno (tabS n qs) f' ∧ v = V.i (LD (tabS n qs) s) ∧ L' = rldL qs M f' T ∧ nx' = 600) := by
  have hn := hk.rng
  have h8 := pow_8 hn.2
  rw [hM] at h8
  intro s
  induction s using Nat.strongRecOn with
  | ind s ihs =>
  intro hsM T hT f hf
  have hrl : ((fnL f (M + 1)).map C.i).length = M + 1 := by rw [List.length_map, fnL_len]
  by_cases h0 : s = 0
  · subst h0
    refine SpecM.ren (Q := fun v L' nx' => v = V.i 1 ∧ L' = ⟨600, .own 24, [C.i n, .sl 0 (castP qs).length]⟩ :: rldL qs M f T ∧ nx' = 601) ?_ ?_
    · refine SpecM.of tok Tryd.func78 rfl rfl rfl fun n0 cx => vc_ok tok ?_
      unfold rldL rldV
      repeat ((conv => whnf); first | refine br_t (by omega) ?_ | refine fun (K' : K3) hK' => ?_ | (refine hK' _ _ _ ?_; clear hK' K'))
      exact ⟨rfl, rfl, rfl⟩
    · rintro v L' nx' _ ⟨rfl, rfl, rfl⟩
      exact ⟨[], V.i 1, rldL qs M f T, 600, Nat.le_refl _, rfl, trivial, rld_drop hT (by omega) f, rld_inj hT (by omega) f, rfl, f, hf, by rw [LD_zero], rfl, rfl⟩
  · by_cases hp : f s > 0
    · have hfs : f s = LD (tabS n qs) s := (hf s).resolve_left (by omega)
      have hld : ((fnL f (M + 1)).map C.i)[mulS ((s : Nat) : Int).toNat 1]? = some (C.i (f s)) := by rw [intLz rfl (by rw [fnL_len]; omega), fnL_get (by omega)]
      have h0' : ¬ ((s : Nat) : Int) = 0 := by omega
      refine SpecM.ren (Q := fun v L' nx' => v = V.i (f s) ∧ L' = ⟨600, .own 24, [C.i n, .sl 0 (castP qs).length]⟩ :: rldL qs M f T ∧ nx' = 601) ?_ ?_
      · refine SpecM.of tok Tryd.func78 rfl rfl rfl fun n0 cx => vc_ok tok ?_
        unfold rldL rldV
        repeat ((conv => whnf); first | (refine And.intro (by first | omega | (dsimp only [inK]; omega)) ?_) | with_reducible refine ld (hld) ?_ | refine br_t (by omega) ?_ | refine br_f (by omega) ?_ | refine fun (K' : K3) hK' => ?_ | (refine hK' _ _ _ ?_; clear hK' K'))
        exact ⟨rfl, rfl, rfl⟩
      · rintro v L' nx' _ ⟨rfl, rfl, rfl⟩
        exact ⟨[], V.i (f s), rldL qs M f T, 600, Nat.le_refl _, rfl, trivial, rld_drop hT (by omega) f, rld_inj hT (by omega) f, rfl, f, hf, by rw [hfs], rfl, rfl⟩
    · have hld : ((fnL f (M + 1)).map C.i)[mulS ((s : Nat) : Int).toNat 1]? = some (C.i (f s)) := by rw [intLz rfl (by rw [fnL_len]; omega), fnL_get (by omega)]
      have h0' : ¬ ((s : Nat) : Int) = 0 := by omega
      have hs256 : s < 256 := by omega
      have hLD : LD (tabS n qs) s = sumL (chn s s s) (gS (tabS n qs) s) := LD_rec _ h0
      have hfub : sumL (chn s s s) (fun f => fubS (dif s f)) ≤ fubS s := fub_fact s hs256 h0
      have hfp := fubS_pos s hs256
      refine SpecM.ren (Q := fun v L' nx' => ∃ f', Kno (tabS n qs) f' ∧ v = V.i (LD (tabS n qs) s) ∧ L' = ⟨600, .own 24, [C.i n, .sl 0 (castP qs).length]⟩ :: rldL qs M f' T ∧ nx' = 601) ?_ ?_
      · refine SpecM.of tok Tryd.func78 rfl rfl rfl fun n0 cx => vc_ok tok ?_
        have hT' := hT
        unfold rldL rldV
        repeat ((conv => whnf); first | (refine And.intro (by first | omega | (dsimp only [inK]; omega)) ?_) | with_reducible refine ld (hld) ?_ | refine br_f (by omega) ?_ | refine fun (K' : K3) hK' => ?_ | (refine hK' _ _ _ ?_; clear hK' K'))
        refine Tri.loop (γ := Nat × Int × (Nat → Int)) (fun g => g.1 &&& s = g.1 ∧ Kno (tabS n qs) g.2.2 ∧ g.2.1 + sumL (chn s g.1 g.1) (gS (tabS n qs) s) = LD (tabS n qs) s ∧ -(fubS s) ≤ g.2.1 - sumL (chn s g.1 g.1) (fun f => fubS (dif s f)) ∧ g.2.1 + sumL (chn s g.1 g.1) (fun f => fubS (dif s f)) ≤ fubS s)
          (fun g => [(1, V.i (s : Nat)), (2, V.c (.sl 1 (M + 1))), (3, V.c (.ptr 600 0)), (7, V.i g.2.1), (8, V.i (g.1 : Nat))])
          (fun g => ⟨600, .own 24, [C.i n, .sl 0 (castP qs).length]⟩ :: ⟨0, .ro 2, cellC (castP qs)⟩ :: ⟨1, .vec 3 1, (fnL g.2.2 (M + 1)).map C.i⟩ :: T) 601 (fun g => g.1) (s, 0, f) (R0 := []) ?_ ?_ ?_
        · exact ⟨Nat.and_self s, hf, by simp only; rw [hLD]; omega, by simp only; omega, by simp only; omega⟩
        · skip
          refine ⟨?_, ?_, (rld_inj6 (M := M) (qs := qs) hT (by omega) _ (.inl rfl)), rfl, by exact Nat.le_of_ble_eq_true rfl⟩
          · repeat (first | exact trivial | (refine And.intro (covS_syn (by rfl) rfl (by first | exact trivial | exact Nat.le_of_ble_eq_true rfl)) ?_))
          · repeat (first | exact hT.cov rfl (fun _ _ _ => rfl) (Nat.le_of_ble_eq_true rfl) (hT.fd (by omega)) | (refine And.intro (covE_id (Nat.le_of_ble_eq_true rfl) (by first | exact wf_ints _ _ | first | exact wf_us _ _ | exact wf_cells _ _ | (simp [C.wf]; done)) rfl (by rfl)) ?_))
        · rintro ⟨fs, acc, f⟩ ⟨i1, i2, i3, i4, i5⟩
          simp only at i1 i2 i3 i4 i5 ⊢
          refine vc_ok tok ?_
          have hfs : fs ≤ s := by rw [← i1]; exact Nat.and_le_right
          have hrl : ((fnL f (M + 1)).map C.i).length = M + 1 := by rw [List.length_map, fnL_len]
          by_cases hf0 : (fs : Int) > 0
          · have hf0' : fs ≠ 0 := by omega
            have hstep := chn_step (s := s) hf0'
            rw [hstep, sumL_cons] at i3 i4 i5
            have hde : bitI .and .i64 ((fs : Int) - 1) (s : Int) = (((fs - 1) &&& s : Nat) : Int) := by
              rw [show ((fs : Int) - 1) = ((fs - 1 : Nat) : Int) by omega]; exact bit_andI (by omega) (by omega)
            have hbn : ∀ g ∈ chn s ((fs - 1) &&& s) ((fs - 1) &&& s), 0 ≤ fubS (dif s g) := fun g hg => by
              obtain ⟨q1, q2⟩ := chn_mem s _ _ (by rw [Nat.and_assoc, Nat.and_self]) g hg
              have := dif_lt q1 q2
              have := fubS_pos (dif s g) (by omega)
              omega
            have hsn : 0 ≤ sumL (chn s ((fs - 1) &&& s) ((fs - 1) &&& s)) (fun f => fubS (dif s f)) := by
              have : ∀ l : List Nat, (∀ g ∈ l, 0 ≤ fubS (dif s g)) → 0 ≤ sumL l (fun f => fubS (dif s f)) := by
                intro l
                induction l with
                | nil => intro _; simp [sumL]
                | cons a r ih => intro h; rw [sumL_cons]; have := h a (by simp); have := ih fun g hg => h g (by simp [hg]); omega
              exact this _ hbn
            have hnxt : (fs - 1) &&& s ≤ fs - 1 := Nat.and_le_left
            have hands : (fs - 1) &&& s &&& s = (fs - 1) &&& s := by rw [Nat.and_assoc, Nat.and_self]
            have hand := bit_andNotI (x := s) (y := fs) (by omega) (by omega)
            have hdl := dif_lt hf0' i1
            have hdb := LD_bd (tabS n qs) _ (dif s fs) (Nat.lt_succ_self _) (by omega)
            have hdp := fubS_pos (dif s fs) (by omega)
            have hgf : gS (tabS n qs) s fs = sgT (tabS n qs) fs (LD (tabS n qs) (dif s fs)) := rfl
            have hszn := szK_bits hn.2 (show fs < 2 ^ n by omega)
            have hapn := apaK_apt hk (show fs < 2 ^ n by omega)
            have hbit := fun a (ha : a < 8) => bit_atI fs (by omega) a ha
            have hcla := clash_spec n qs hk
            repeat ((conv => whnf); first | (refine And.intro (by first | omega | exact Nat.le_of_ble_eq_true rfl) ?_) | refine Exists.intro _ (And.intro rfl ?_) | refine br_t (by omega) ?_ | refine fun (K' : K3) hK' => ?_ | (refine hK' _ _ _ ?_; clear hK' K'))
            refine Tri.loop (γ := Nat) (fun a => a ≤ n)
              (fun a => [(1, V.i (s : Nat)), (2, V.c (.sl 1 (M + 1))), (3, V.c (.ptr 600 0)), (7, V.i acc), (8, V.i (fs : Nat)), (9, V.i (szK fs a : Nat)), (10, V.c (.bool (apaK (symC (clP qs)) fs a))), (33, V.i n), (34, V.i (a : Nat))])
              (fun a => ⟨600, .own 24, [C.i n, .sl 0 (castP qs).length]⟩ :: ⟨0, .ro 2, cellC (castP qs)⟩ :: ⟨1, .vec 3 1, (fnL f (M + 1)).map C.i⟩ :: T) 601 (fun a => n - a) 0 (R0 := []) ?_ ?_ ?_
            · omega
            · have hz1 : szK fs 0 = 0 := rfl
              have hz2 : apaK (symC (clP qs)) fs 0 = true := rfl
              rw [hz1, hz2]
              refine ⟨?_, ?_, (rld_inj6 (M := M) (qs := qs) hT (by omega) _ (.inl rfl)), rfl, by exact Nat.le_of_ble_eq_true rfl⟩
              · repeat (first | exact trivial | (refine And.intro (covS_syn (by rfl) rfl (by first | exact trivial | exact Nat.le_of_ble_eq_true rfl)) ?_) | refine And.intro (covS_bool rfl rfl (by rfl)) ?_)
              · repeat (first | exact hT.cov rfl (fun _ _ _ => rfl) (Nat.le_of_ble_eq_true rfl) (hT.fd (by omega)) | (refine And.intro (covE_id (Nat.le_of_ble_eq_true rfl) (by first | exact wf_ints _ _ | first | exact wf_us _ _ | exact wf_cells _ _ | (simp [C.wf]; done)) rfl (by rfl)) ?_))
            · intro a ha
              refine vc_ok tok ?_
              have hsl := szK_le fs a
              by_cases hlt : a < n
              · have hba := hbit a (by omega)
                have hs1 := szK_succ fs a
                have hk1 := apaK_succ (symC (clP qs)) fs a
                cases hta : fs.testBit a with
                | false =>
                  rw [hta, if_neg (by simp)] at hba
                  rw [hta, if_neg (by simp)] at hs1
                  rw [hta] at hk1
                  have hk2 : apaK (symC (clP qs)) fs (a + 1) = apaK (symC (clP qs)) fs a := by rw [hk1]; simp
                  repeat ((conv => whnf); first | (refine And.intro (by first | omega | (dsimp only [inK]; omega)) ?_) | refine br_t (by omega) ?_ | refine fun (K' : K3) hK' => ?_ | (refine hK' _ _ _ ?_; clear hK' K'))
                  refine ⟨a + 1, [], by omega, by omega, ?_⟩
                  rw [hs1, hk2]
                  refine ⟨?_, ?_, (rld_inj6 (M := M) (qs := qs) hT (by omega) _ (.inl rfl)), rfl, by exact Nat.le_of_ble_eq_true rfl⟩
                  · repeat (first | exact trivial | (refine And.intro (covS_syn (by rfl) rfl (by first | exact trivial | exact Nat.le_of_ble_eq_true rfl)) ?_))
                  · repeat (first | exact hT.cov rfl (fun _ _ _ => rfl) (Nat.le_of_ble_eq_true rfl) (hT.fd (by omega)) | (refine And.intro (covE_id (Nat.le_of_ble_eq_true rfl) (by first | exact wf_ints _ _ | first | exact wf_us _ _ | exact wf_cells _ _ | (simp [C.wf]; done)) rfl (by rfl)) ?_))
                | true =>
                  rw [hta, if_pos rfl] at hba
                  rw [hta, if_pos rfl] at hs1
                  rw [hta] at hk1
                  have hba' : ¬ bitI .and .i64 (shrI .i64 (fs : Nat) (a : Nat)) 1 = 0 := by rw [hba]; omega
                  obtain ⟨k0, hk0⟩ : ∃ k0, k0 = apaK (symC (clP qs)) fs a := ⟨_, rfl⟩
                  rw [← hk0] at hk1 ⊢
                  repeat ((conv => whnf); first | (refine And.intro (by first | omega | (dsimp only [inK]; omega)) ?_) | refine br_t (by omega) ?_ | refine br_f (by omega) ?_ | refine fun (K' : K3) hK' => ?_ | (refine hK' _ _ _ ?_; clear hK' K'))
                  refine Tri.loop (γ := Nat) (fun b => b ≤ a)
                    (fun b => [(1, V.i (s : Nat)), (2, V.c (.sl 1 (M + 1))), (3, V.c (.ptr 600 0)), (7, V.i acc), (8, V.i (fs : Nat)), (9, V.i (szK fs (a + 1) : Nat)), (10, V.c (.bool (k0 && apaB (symC (clP qs)) fs a b))), (11, V.i (a : Nat)), (33, V.i n), (34, V.i (a : Nat)), (44, V.i (a : Nat)), (45, V.i (b : Nat))])
                    (fun b => ⟨600, .own 24, [C.i n, .sl 0 (castP qs).length]⟩ :: ⟨0, .ro 2, cellC (castP qs)⟩ :: ⟨1, .vec 3 1, (fnL f (M + 1)).map C.i⟩ :: T) 601 (fun b => a - b) 0 (R0 := []) ?_ ?_ ?_
                  · omega
                  · have hz2 : (k0 && apaB (symC (clP qs)) fs a 0) = k0 := by simp [apaB]
                    rw [hz2, hs1]
                    refine ⟨?_, ?_, (rld_inj6 (M := M) (qs := qs) hT (by omega) _ (.inl rfl)), rfl, by exact Nat.le_of_ble_eq_true rfl⟩
                    · repeat (first | exact trivial | (refine And.intro (covS_syn (by rfl) rfl (by first | exact trivial | exact Nat.le_of_ble_eq_true rfl)) ?_))
                    · repeat (first | exact hT.cov rfl (fun _ _ _ => rfl) (Nat.le_of_ble_eq_true rfl) (hT.fd (by omega)) | (refine And.intro (covE_id (Nat.le_of_ble_eq_true rfl) (by first | exact wf_ints _ _ | first | exact wf_us _ _ | exact wf_cells _ _ | (simp [C.wf]; done)) rfl (by rfl)) ?_))
                  · intro b hb
                    refine vc_ok tok ?_
                    by_cases hbl : b < a
                    · have hbb := hbit b (by omega)
                      have hb1 := apaB_succ (symC (clP qs)) fs a b
                      have hcl1 := hcla a b
                      have hacc : (k0 && apaB (symC (clP qs)) fs a (b + 1)) = ((k0 && apaB (symC (clP qs)) fs a b) && (!fs.testBit b || !symC (clP qs) a b)) := by rw [hb1, Bool.and_assoc]
                      obtain ⟨x, hx⟩ : ∃ x, x = (k0 && apaB (symC (clP qs)) fs a b) := ⟨_, rfl⟩
                      rw [← hx] at hacc ⊢
                      cases x with
                      | false =>
                        have hst : (k0 && apaB (symC (clP qs)) fs a (b + 1)) = false := by rw [hacc]; rfl
                        repeat ((conv => whnf); first | (refine And.intro (by first | omega | (dsimp only [inK]; omega)) ?_) | refine br_t (by omega) ?_ | refine fun (K' : K3) hK' => ?_ | (refine hK' _ _ _ ?_; clear hK' K') | refine br_bf (Eq.refl false) ?_)
                        refine ⟨b + 1, [], by omega, by omega, ?_⟩
                        rw [hst]
                        refine ⟨?_, ?_, (rld_inj6 (M := M) (qs := qs) hT (by omega) _ (.inl rfl)), rfl, by exact Nat.le_of_ble_eq_true rfl⟩
                        · repeat (first | exact trivial | (refine And.intro (covS_syn (by rfl) rfl (by first | exact trivial | exact Nat.le_of_ble_eq_true rfl)) ?_) | refine And.intro (covS_bool rfl rfl (by rfl)) ?_)
                        · repeat (first | exact hT.cov rfl (fun _ _ _ => rfl) (Nat.le_of_ble_eq_true rfl) (hT.fd (by omega)) | (refine And.intro (covE_id (Nat.le_of_ble_eq_true rfl) (by first | exact wf_ints _ _ | first | exact wf_us _ _ | exact wf_cells _ _ | (simp [C.wf]; done)) rfl (by rfl)) ?_))
                      | true =>
                        cases htb : fs.testBit b with
                        | false =>
                          rw [htb, if_neg (by simp)] at hbb
                          have hst : (k0 && apaB (symC (clP qs)) fs a (b + 1)) = true := by rw [hacc, htb]; rfl
                          repeat ((conv => whnf); first | (refine And.intro (by first | omega | (dsimp only [inK]; omega)) ?_) | refine br_t (by omega) ?_ | refine bs_t (by omega) ?_ | refine fun (K' : K3) hK' => ?_ | (refine hK' _ _ _ ?_; clear hK' K') | refine br_bt (Eq.refl true) ?_)
                          refine ⟨b + 1, [], by omega, by omega, ?_⟩
                          rw [hst]
                          refine ⟨?_, ?_, (rld_inj6 (M := M) (qs := qs) hT (by omega) _ (.inl rfl)), rfl, by exact Nat.le_of_ble_eq_true rfl⟩
                          · repeat (first | exact trivial | (refine And.intro (covS_syn (by rfl) rfl (by first | exact trivial | exact Nat.le_of_ble_eq_true rfl)) ?_) | refine And.intro (covS_bool rfl rfl (by rfl)) ?_)
                          · repeat (first | exact hT.cov rfl (fun _ _ _ => rfl) (Nat.le_of_ble_eq_true rfl) (hT.fd (by omega)) | (refine And.intro (covE_id (Nat.le_of_ble_eq_true rfl) (by first | exact wf_ints _ _ | first | exact wf_us _ _ | exact wf_cells _ _ | (simp [C.wf]; done)) rfl (by rfl)) ?_))
                        | true =>
                          rw [htb, if_pos rfl] at hbb
                          have hbb' : ¬ bitI .and .i64 (shrI .i64 (fs : Nat) (b : Nat)) 1 = 0 := by rw [hbb]; omega
                          have hst : (k0 && apaB (symC (clP qs)) fs a (b + 1)) = !symC (clP qs) a b := by rw [hacc, htb]; simp
                          obtain ⟨y, hy⟩ : ∃ y, y = symC (clP qs) a b := ⟨_, rfl⟩
                          rw [← hy] at hcl1 hst
                          repeat ((conv => whnf); first | (refine And.intro (by first | omega | (dsimp only [inK]; omega)) ?_) | refine Exists.intro _ (And.intro rfl ?_) | refine br_t (by omega) ?_ | refine bs_f (by omega) ?_ | refine fun (K' : K3) hK' => ?_ | (refine hK' _ _ _ ?_; clear hK' K') | refine CallK.val (R := []) hcl1 (by kernel_rfl) rfl (by simp [V.wf, A.wf, C.wf, V.i]) ⟨roE_f (flat_c _) (l := 0) rfl (by omega) rfl (.inr rfl), trivial⟩ rfl rfl trivial ?_ | refine br_bt (Eq.refl true) ?_ | refine CallK.m ?_)
                          refine ⟨b + 1, [], by omega, by omega, ?_⟩
                          rw [hst]
                          refine ⟨?_, ?_, (rld_inj6 (M := M) (qs := qs) hT (by omega) _ (.inl rfl)), rfl, by exact Nat.le_of_ble_eq_true rfl⟩
                          · repeat (first | exact trivial | (refine And.intro (covS_syn (by rfl) rfl (by first | exact trivial | exact Nat.le_of_ble_eq_true rfl)) ?_))
                          · repeat (first | exact hT.cov rfl (fun _ _ _ => rfl) (Nat.le_of_ble_eq_true rfl) (hT.fd (by omega)) | (refine And.intro (covE_id (Nat.le_of_ble_eq_true rfl) (by first | exact wf_ints _ _ | first | exact wf_us _ _ | exact wf_cells _ _ | (simp [C.wf]; done)) rfl (by rfl)) ?_))
                    · obtain rfl : b = a := by omega
                      have hk2 : (k0 && apaB (symC (clP qs)) fs b b) = apaK (symC (clP qs)) fs (b + 1) := by rw [hk1]; rfl
                      rw [hk2]
                      repeat ((conv => whnf); first | (refine And.intro (by first | omega | (dsimp only [inK]; omega)) ?_) | refine br_f (by omega) ?_ | refine fun (K' : K3) hK' => ?_ | (refine hK' _ _ _ ?_; clear hK' K'))
                      refine ⟨b + 1, [], by omega, by omega, ?_⟩
                      refine ⟨?_, ?_, (rld_inj6 (M := M) (qs := qs) hT (by omega) _ (.inl rfl)), rfl, by exact Nat.le_of_ble_eq_true rfl⟩
                      · repeat (first | exact trivial | (refine And.intro (covS_syn (by rfl) rfl (by first | exact trivial | exact Nat.le_of_ble_eq_true rfl)) ?_))
                      · repeat (first | exact hT.cov rfl (fun _ _ _ => rfl) (Nat.le_of_ble_eq_true rfl) (hT.fd (by omega)) | (refine And.intro (covE_id (Nat.le_of_ble_eq_true rfl) (by first | exact wf_ints _ _ | first | exact wf_us _ _ | exact wf_cells _ _ | (simp [C.wf]; done)) rfl (by rfl)) ?_))
              · obtain rfl : a = n := by omega
                rw [hszn, hapn]
                cases ha : aptS (tabS a qs) fs with
                | false =>
                  have hg0 : gS (tabS a qs) s fs = 0 := by rw [hgf]; unfold sgT; rw [ha]; rfl
                  rw [hg0] at i3
                  repeat ((conv => whnf); first | (refine And.intro (by first | omega | (dsimp only [inK]; omega)) ?_) | refine br_f (by omega) ?_ | refine fun (K' : K3) hK' => ?_ | (refine hK' _ _ _ ?_; clear hK' K') | refine br_bt (Eq.refl true) ?_)
                  refine ⟨((fs - 1) &&& s, acc, f), [], ⟨hands, i2, by simp only; omega, by simp only; omega, by simp only; omega⟩, by simp only; omega, ?_⟩
                  refine ⟨?_, ?_, (rld_inj6 (M := M) (qs := qs) hT (by omega) _ (.inl rfl)), rfl, by exact Nat.le_of_ble_eq_true rfl⟩
                  · repeat (first | exact trivial | (refine And.intro (covS_syn (by first | rfl | (refine congrArg some (congrArg V.i ?_); exact hde)) rfl (by first | exact trivial | exact Nat.le_of_ble_eq_true rfl)) ?_))
                  · repeat (first | exact hT.cov rfl (fun _ _ _ => rfl) (Nat.le_of_ble_eq_true rfl) (hT.fd (by omega)) | (refine And.intro (covE_id (Nat.le_of_ble_eq_true rfl) (by first | exact wf_ints _ _ | first | exact wf_us _ _ | exact wf_cells _ _ | (simp [C.wf]; done)) rfl (by rfl)) ?_))
                | true =>
                  obtain ⟨c, hc⟩ : ∃ c, c = dif s fs + 301 := ⟨_, rfl⟩
                  have hTd : Tl a (castP qs).length (c + 1) T := ⟨fun e he => by have := hT.box e he; exact ⟨by omega, this.2⟩, hT.inj⟩
                  have hTc : Tl a (castP qs).length (301 + dif s fs) (⟨c, .own 24, [C.i a, .sl 0 (castP qs).length]⟩ :: T) := by
                    have := hTd.cons (l := c) (by omega) (by omega)
                    rw [show 301 + dif s fs = c by omega]; exact this
                  have ih := ihs (dif s fs) hdl (by omega) _ hTc f i2
                  have hrv : renVs [(c, some 600)] [V.agg [C.i a, C.sl 0 (castP qs).length], V.c (C.int .i64 (bitI .andNot .i64 (s : Int) (fs : Int))), V.c (.sl 1 (M + 1))] = some [V.agg [C.i a, C.sl 0 (castP qs).length], V.c (C.int .i64 (bitI .andNot .i64 (s : Int) (fs : Int))), V.c (.sl 1 (M + 1))] := by
                    rw [hc]; rfl
                  unfold rldV at ih
                  rw [← hand] at ih
                  obtain ⟨x, hx⟩ : ∃ x, x = LD (tabS a qs) (dif s fs) := ⟨_, rfl⟩
                  rw [← hx] at hdb hgf ih
                  repeat ((conv => whnf); first | refine Exists.intro _ (And.intro rfl ?_) | refine br_f (by omega) ?_ | refine fun (K' : K3) hK' => ?_ | (refine hK' _ _ _ ?_; clear hK' K') | refine CallM.at (R := [(c, some 600)]) (by kernel_rfl) ih hrv (by simp [V.wf, A.wf, C.wf, V.i]) (rld_call hTd (by omega) (by omega) f) (rld_callinj hTd (by omega) (by omega) f) ?_ | refine br_bf (Eq.refl false) ?_)
                  rintro v L' nx' _ ⟨f', hf', rfl, rfl, rfl⟩
                  refine ⟨[(600, some c)], V.i x, ⟨600, .own 24, [C.i a, .sl 0 (castP qs).length]⟩ :: rldL qs M f' T, 601, by omega, rfl, trivial, rld_back hTd (by omega) (by omega) f', rld_inj6 hTd (by omega) f' (.inr ⟨_, Nat.lt_succ_self _, by omega, rfl⟩), rld_used hTd (by omega) (by omega) f' x, ?_⟩
                  unfold rldL
                  by_cases ho : (((bitsL fs).length : Nat) : Int) % 2 = 1
                  · have hg0 : gS (tabS a qs) s fs = x := by rw [hgf]; unfold sgT; rw [ha, if_pos rfl, if_pos (by omega)]
                    rw [hg0] at i3
                    repeat ((conv => whnf); first | (refine And.intro (by first | omega | (dsimp only [inK]; omega)) ?_) | refine br_t (by omega) ?_ | refine fun (K' : K3) hK' => ?_ | (refine hK' _ _ _ ?_; clear hK' K'))
                    refine ⟨((fs - 1) &&& s, acc + x, f'), [], ⟨hands, hf', by simp only; omega, by simp only; omega, by simp only; omega⟩, by simp only; omega, ?_⟩
                    refine ⟨?_, ?_, (rld_inj6 (M := M) (qs := qs) hT (by omega) _ (.inl rfl)), rfl, by exact Nat.le_of_ble_eq_true rfl⟩
                    · repeat (first | exact trivial | (refine And.intro (covS_syn (by first | rfl | (refine congrArg some (congrArg V.i ?_); exact hde)) rfl (by first | exact trivial | exact Nat.le_of_ble_eq_true rfl)) ?_))
                    · repeat (first | exact hT.cov rfl (fun _ _ _ => rfl) (Nat.le_of_ble_eq_true rfl) (hT.fd (by omega)) | (refine And.intro (covE_id (Nat.le_of_ble_eq_true rfl) (by first | exact wf_ints _ _ | first | exact wf_us _ _ | exact wf_cells _ _ | (simp [C.wf]; done)) rfl (by rfl)) ?_))
                  · have hg0 : gS (tabS a qs) s fs = -x := by rw [hgf]; unfold sgT; rw [ha, if_pos rfl, if_neg (by omega)]
                    rw [hg0] at i3
                    repeat ((conv => whnf); first | (refine And.intro (by first | omega | (dsimp only [inK]; omega)) ?_) | refine br_f (by omega) ?_ | refine fun (K' : K3) hK' => ?_ | (refine hK' _ _ _ ?_; clear hK' K'))
                    refine ⟨((fs - 1) &&& s, acc - x, f'), [], ⟨hands, hf', by simp only; omega, by simp only; omega, by simp only; omega⟩, by simp only; omega, ?_⟩
                    refine ⟨?_, ?_, (rld_inj6 (M := M) (qs := qs) hT (by omega) _ (.inl rfl)), rfl, by exact Nat.le_of_ble_eq_true rfl⟩
                    · repeat (first | exact trivial | (refine And.intro (covS_syn (by first | rfl | (refine congrArg some (congrArg V.i ?_); exact hde)) rfl (by first | exact trivial | exact Nat.le_of_ble_eq_true rfl)) ?_))
                    · repeat (first | exact hT.cov rfl (fun _ _ _ => rfl) (Nat.le_of_ble_eq_true rfl) (hT.fd (by omega)) | (refine And.intro (covE_id (Nat.le_of_ble_eq_true rfl) (by first | exact wf_ints _ _ | first | exact wf_us _ _ | exact wf_cells _ _ | (simp [C.wf]; done)) rfl (by rfl)) ?_))
          · obtain rfl : fs = 0 := by omega
            have i3 : acc + 0 = LD (tabS n qs) s := i3
            have i3' : acc = LD (tabS n qs) s := by omega
            have hset : setL ((fnL f (M + 1)).map C.i) (mulS ((s : Nat) : Int).toNat 1) [C.i acc] = (fnL (fun x => if x = s then acc else f x) (M + 1)).map C.i := by rw [setI rfl, fnL_set]
            repeat ((conv => whnf); first | (refine And.intro (by first | omega | (dsimp only [inK]; omega) | (simp only [mulS_eq]; omega)) ?_) | refine br_f (by omega) ?_ | refine fun (K' : K3) hK' => ?_ | (refine hK' _ _ _ ?_; clear hK' K') | refine updK_tl hT (.inl (by omega)) ?_)
            refine ⟨fun x => if x = s then acc else f x, fun x => ?_, by rw [i3']; rfl, ?_, rfl⟩
            · simp only
              split
              · rename_i h; subst h; exact .inr i3'
              · exact i2 x
            · rw [← hset]; rfl
      · rintro v L' nx' _ ⟨f', hf', rfl, rfl, rfl⟩
        exact ⟨[], V.i (LD (tabS n qs) s), rldL qs M f' T, 600, Nat.le_refl _, rfl, trivial, rld_drop hT (by omega) f', rld_inj hT (by omega) f', rfl, f', hf', rfl, rfl, rfl⟩
end Go.Proofs.YtijnimgmpocmaaaDoor

/- Waste: the document's IsLoading (whole), At, and powers. -/
namespace Go.Proofs.YtijnimgmpocmaaaDoor
open Go.RowKit
set_option linter.unusedVariables false
set_option linter.unusedSimpArgs false
def rldO (N : Int) (ps : List Cell) (m : Nat) : Option Int := if okK' N ps = true then (if m = ps.length then none else some 2) else some 70
set_option maxRecDepth 10000 in
set_option maxHeartbeats 4000000 in
theorem rIsLoading_err (N : Int) (ps : List Cell) (bs : List Bool) (Er : Int) (hl : ps.length ≤ 100) (hbs : bs.length < 9223372036854775808) (he : (okK' N ps = false ∧ Er = 70) ∨ (okK' N ps = true ∧ ¬ bs.length = ps.length ∧ Er = 2)) :
    Spec Tryd.prog 32 [kW N ps, V.c (.sl 1 bs.length)] [⟨0, .ro 2, cellC ps⟩, ⟨1, .ro 0, bs.map C.bool⟩] 2 (Is (V.tup [A.c .ff, A.c (C.i Er)])) := by
  have hva := rvalid_spec N ps hl
  refine Spec.of tok Tryd.func32 rfl rfl rfl fun n0 cx => vc_ok tok ?_
  rcases he with ⟨hv, rfl⟩ | ⟨hv, hne, rfl⟩
  · rw [hv] at hva
    repeat ((conv => whnf); first | refine Exists.intro _ (And.intro rfl ?_) | refine fun (K' : K3) hK' => ?_ | (refine hK' _ _ _ ?_; clear hK' K') | refine CallK.val (R := []) hva (by kernel_rfl) rfl (by simp [V.wf, A.wf, C.wf]) ⟨roE_f (flat_c _) (l := 0) rfl (by omega) rfl (.inr rfl), trivial⟩ rfl rfl trivial ?_ | refine br_bt (Eq.refl true) ?_ | refine CallK.m ?_)
    intro ρ; rfl
  · rw [hv] at hva
    have hne : (bs.length : Int) ≠ (ps.length : Int) := by omega
    repeat ((conv => whnf); first | (refine And.intro (by first | omega | exact Nat.le_of_ble_eq_true rfl) ?_) | refine Exists.intro _ (And.intro rfl ?_) | refine br_t (by omega) ?_ | refine fun (K' : K3) hK' => ?_ | (refine hK' _ _ _ ?_; clear hK' K') | refine CallK.val (R := []) hva (by kernel_rfl) rfl (by simp [V.wf, A.wf, C.wf]) ⟨roE_f (flat_c _) (l := 0) rfl (by omega) rfl (.inr rfl), trivial⟩ rfl rfl trivial ?_ | refine br_bf (Eq.refl false) ?_ | refine CallK.m ?_)
    intro ρ; rfl
set_option maxRecDepth 10000 in
set_option maxHeartbeats 4000000 in
theorem rIsLoading_spec (n : Nat) (qs : List (Nat × Nat)) (hk : Knd n qs) (bs : List Bool) (hbl : bs.length = qs.length) :
    Spec Tryd.prog 32 [kW n (castP qs), V.c (.sl 1 bs.length)] [⟨0, .ro 2, cellC (castP qs)⟩, ⟨1, .ro 0, bs.map C.bool⟩] 2 (Is (V.tup [A.c (.bool (isLd n qs bs)), A.c (C.i 0)])) := by
  have hql := knd_len hk
  have hpl := castP_len qs
  have hva := rvalid_spec n (castP qs) (by omega)
  rw [knd_ok hk] at hva
  have his := risLoading_spec n qs hk bs hbl
  have hne : ¬ (bs.length : Int) ≠ ((castP qs).length : Int) := by omega
  refine Spec.of tok Tryd.func32 rfl rfl rfl fun n0 cx => vc_ok tok ?_
  repeat ((conv => whnf); first | (refine And.intro (by first | omega | exact Nat.le_of_ble_eq_true rfl) ?_) | refine Exists.intro _ (And.intro rfl ?_) | refine br_f (by omega) ?_ | refine fun (K' : K3) hK' => ?_ | (refine hK' _ _ _ ?_; clear hK' K') | refine CallK.val (R := []) hva (by kernel_rfl) rfl (by simp [V.wf, A.wf, C.wf]) ⟨roE_f (flat_c _) (l := 0) rfl (by omega) rfl (.inr rfl), trivial⟩ rfl rfl trivial ?_ | refine CallK.val (R := []) his (by kernel_rfl) rfl (by simp [V.wf, A.wf, C.wf]) ⟨roE_f (flat_c _) (l := 0) rfl (by omega) rfl (.inr rfl), roE_s (sim_b _) (l := 1) rfl (by omega) rfl (.inl rfl), trivial⟩ rfl rfl trivial ?_ | refine br_bf (Eq.refl false) ?_ | refine CallK.m ?_)
  intro ρ; rfl
end Go.Proofs.YtijnimgmpocmaaaDoor

/- Waste: the document's orders of loading (whole). -/
namespace Go.Proofs.YtijnimgmpocmaaaDoor
open Go.RowKit
set_option linter.unusedVariables false
set_option linter.unusedSimpArgs false
set_option maxRecDepth 10000 in
theorem rLoadings_err (N : Int) (ps : List Cell) (hl : ps.length ≤ 100) (hv : okK' N ps = false) : Spec Tryd.prog 41 [kW N ps] [⟨0, .ro 2, cellC ps⟩] 1 (Is (V.tup [A.c (C.i 0), A.c (C.i 70)])) := by
  have hva := rvalid_spec N ps hl
  rw [hv] at hva
  refine Spec.of tok Tryd.func41 rfl rfl rfl fun n0 cx => vc_ok tok ?_
  repeat ((conv => whnf); first | refine Exists.intro _ (And.intro rfl ?_) | refine fun (K' : K3) hK' => ?_ | (refine hK' _ _ _ ?_; clear hK' K') | refine CallK.val (R := []) hva (by kernel_rfl) rfl (by simp [V.wf, A.wf, C.wf, V.i]) ⟨roE_f (flat_c _) (l := 0) rfl (by omega) rfl (.inr rfl), trivial⟩ rfl rfl trivial ?_ | refine br_bt (Eq.refl true) ?_ | refine CallK.m ?_)
  intro ρ; rfl
set_option maxRecDepth 10000 in
set_option maxHeartbeats 4000000 in
theorem rLoadings_spec (n : Nat) (qs : List (Nat × Nat)) (hk : Knd n qs) : Spec Tryd.prog 41 [kW n (castP qs)] [⟨0, .ro 2, cellC (castP qs)⟩] 1 (Is (V.tup [A.c (C.i (LD (tabS n qs) (2 ^ n - 1))), A.c (C.i 0)])) := by
  have hpl := castP_len qs
  have hql := knd_len hk
  have hn := hk.rng
  have hva := rvalid_spec n (castP qs) (by omega)
  rw [knd_ok hk] at hva
  have h8 := pow_8 hn.2
  have h0 := Nat.two_pow_pos n
  obtain ⟨M, hM⟩ : ∃ M, 2 ^ n = M + 1 := ⟨2 ^ n - 1, by omega⟩
  have hT : Tl n (castP qs).length (301 + M) [⟨599, .own 24, [C.i n, .sl 0 (castP qs).length]⟩] := by
    have := (Tl.nil (n := n) (m := (castP qs).length) (lo := 600)).cons (l := 599) (by omega) (by omega)
    exact ⟨fun e he => by have := this.box e he; exact ⟨by have : e.lab = 599 := by { rw [List.mem_singleton.1 he] }; omega, this.2⟩, this.inj⟩
  have ih := rloadings_spec n qs hk M hM M (Nat.le_refl _) _ hT (fun _ => 0) (fun _ => .inl rfl)
  have hX : (1 : Int) * 2 ^ ((n : Nat) : Int).toNat = ((M + 1 : Nat) : Int) := by
    rw [Int.toNat_natCast, ← hM]; simp
  rw [hM, Nat.add_sub_cancel]
  unfold rldV at ih
  rw [show V.i ((M : Nat) : Int) = V.i ((1 : Int) * 2 ^ ((n : Nat) : Int).toNat - 1) by rw [hX]; exact congrArg V.i (by omega), show M + 1 = ((1 : Int) * 2 ^ ((n : Nat) : Int).toNat).toNat by rw [hX]; rfl] at ih
  have hrep : repC ((1 : Int) * 2 ^ ((n : Nat) : Int).toNat).toNat [C.int .i64 0] = (fnL (fun _ => 0) (M + 1)).map C.i := by
    rw [hX, Int.toNat_natCast, repI, fnL_zero]
  refine Spec.of tok Tryd.func41 rfl rfl rfl fun n0 cx => vc_ok tok ?_
  repeat ((conv => whnf); first | (refine And.intro (by first | omega | exact Nat.le_of_ble_eq_true rfl | (dsimp only [inK]; omega)) ?_) | refine Exists.intro _ (And.intro rfl ?_) | refine fun (K' : K3) hK' => ?_ | (refine hK' _ _ _ ?_; clear hK' K') | refine draw_late 9 [] tok mixed (by decide +kernel) ?_ | refine CallM.at (R := [(1, some 2), (599, some 1)]) (by kernel_rfl) ih rfl (by simp [V.wf, A.wf, C.wf, V.i]) ⟨covE_some rfl (Nat.le_of_ble_eq_true rfl) (wf_cells _ _) rfl (ren_cells _ _), covE_i rfl (Nat.le_of_ble_eq_true rfl) rfl hrep, covE_some rfl (Nat.le_of_ble_eq_true rfl) (by simp [C.wf]) rfl rfl, trivial⟩ rfl ?_ | refine CallK.val (R := []) hva (by kernel_rfl) rfl (by simp [V.wf, A.wf, C.wf, V.i]) ⟨roE_f (flat_c _) (l := 0) rfl (by omega) rfl (.inr rfl), trivial⟩ rfl rfl trivial ?_ | refine br_bf (Eq.refl false) ?_ | refine CallK.m ?_)
  rintro v L' nx' _ ⟨f', hf', rfl, rfl, rfl⟩
  refine ⟨[], V.i (LD (tabS n qs) M), [⟨0, .ro 2, cellC (castP qs)⟩], 600, by omega, rfl, trivial, ⟨covE_id (Nat.le_of_ble_eq_true rfl) (wf_cells _ _) rfl rfl, trivial⟩, rfl, ?_, ?_⟩
  · simp only [List.all_cons, List.all_nil, (flat_c _).chk, V.chk, A.chk, C.chk, Bool.and_true]; rfl
  · skip
    repeat ((conv => whnf); refine hK' _ _ _ ?_; clear hK' K')
    intro ρ; rfl
end Go.Proofs.YtijnimgmpocmaaaDoor

/- Waste: SameInts. -/
namespace Go.Proofs.YtijnimgmpocmaaaDoor
open Go.RowKit
set_option linter.unusedVariables false
set_option linter.unusedSimpArgs false
end Go.Proofs.YtijnimgmpocmaaaDoor

/- Waste: how kinds, fillings and numbers that came in read. -/
namespace Go.Proofs.YtijnimgmpocmaaaDoor
open Go.RowKit
set_option linter.unusedVariables false
set_option linter.unusedSimpArgs false
open Go.ChangeShapes Go.WideShapes Go.ChangeAt Go.RowKit Go.Deep Go.Joins
theorem ro_at {w : World} {a : Addr} {cs : List Value} (h : ∀ i, i < cs.length → w.cell? (a.add i) = some (cs.getD i undef)) : RoAt w (some a) cs := by
  intro hne
  have hp : 0 < cs.length := List.length_pos_iff.2 hne
  obtain ⟨b, off, spot⟩ := a
  have hspot : spot = none := by simpa [Addr.add] using World.cell?_spot (h 0 hp)
  subst hspot
  refine ⟨b, off, rfl, ?_, fun j hj => by rw [← Go.WideShapes.add_plain]; exact h j hj⟩
  have := World.block_lt_of_cell? _ _ (h 0 hp)
  simpa [Addr.add] using this
theorem add_add (a : Addr) (i j : Nat) : (a.add i).add j = a.add (i + j) := by
  unfold Addr.add
  by_cases hi : i = 0
  · subst hi; simp
  · by_cases hj : j = 0
    · subst hj; simp [hi]
    · simp [hi, hj, Nat.add_assoc]
def cellV (l : List Cell) : List Value := l.flatMap fun x => [.int .i64 x.1, .int .i64 x.2]
theorem cellV_len (l : List Cell) : (cellV l).length = 2 * l.length := by
  induction l with
  | nil => rfl
  | cons x l ih => simp only [cellV, List.flatMap_cons, List.length_append] at *; simp [ih]; omega
theorem cellV_get : ∀ {l : List Cell} {k : Nat}, k < l.length → (cellV l).getD (k * 2) undef = .int .i64 (l.getD k (0, 0)).1 ∧ (cellV l).getD (k * 2 + 1) undef = .int .i64 (l.getD k (0, 0)).2
  | x :: l, 0, _ => ⟨rfl, rfl⟩
  | x :: l, k + 1, h => by
    have := cellV_get (l := l) (k := k) (by simpa using h)
    simp only [cellV, List.flatMap_cons] at *
    rw [show (k + 1) * 2 + 1 = k * 2 + 1 + 1 + 1 by omega, show (k + 1) * 2 = k * 2 + 1 + 1 by omega]
    simpa using this
theorem den_cells (ρ : Env) (l : List Cell) : (cellC l).map (C.den ρ) = cellV l := by
  induction l with
  | nil => rfl
  | cons x l ih => simp only [cellC, cellV, List.flatMap_cons, List.map_append] at *; rw [ih]; rfl
def CellsAt (W : World) (ao : Option Addr) (c : Nat) (l : List Cell) : Prop := RoAt W ao (cellV l) ∧ l.length ≤ c ∧ l.length < 9223372036854775808
def IntsAt (W : World) (ao : Option Addr) (l : List Int) : Prop := RoAt W ao (l.map (Value.int .i64)) ∧ l.length < 9223372036854775808
section
variable {H : Type} {enc : TypeId × Value → H} {W : World} {sp : Nat → Bool}
set_option maxRecDepth 10000 in
theorem open_cells22 {n : Nat} {v : Value} {x : DataW H × List MemPlace} (h : DataW.trod enc Tryd.prog W 0 sp true n 22 [v] = some x) :
    ∃ (ao : Option Addr) (c : Nat) (l : List Cell), v = .slice ao l.length c ∧ CellsAt W ao c l := by
  rcases open_slice Tryd.underlying22 h with ⟨hcs, _⟩ | ⟨a, len, cap, m, f, D, Pl, hcs, _, hl, hmax, hm, _, hx⟩
  · cases hcs
    exact ⟨none, 0, [], rfl, fun hne => absurd rfl hne, by simp, by simp⟩
  · cases hcs
    have hc2 : Tryd.prog.cellsOf 59 = 2 := by kernel_rfl
    have hc1 : Tryd.prog.cellsOf 3 = 1 := by kernel_rfl
    have hlm : len ≤ m := by rw [hm]; split <;> omega
    have hlen : len < 9223372036854775808 := by unfold maxLen at hmax; omega
    rw [hc2] at hx
    obtain ⟨b, hb⟩ := choose_lt (α := Cell) (n := len) (p := fun i y => W.cell? (a.add (i * 2)) = some (.int .i64 y.1) ∧ W.cell? (a.add (i * 2 + 1)) = some (.int .i64 y.2)) (fun i hi => by
      obtain ⟨cs', h1, h2⟩ := hx i (by omega)
      obtain ⟨_, hlen, hcell⟩ := World.cells?_some h1
      obtain ⟨xs, k, _, _, hl2, hxl, hgo⟩ := DataW.trod_array Tryd.underlying59 h2
      match cs', hlen with
      | [c0, c1], _ =>
        have h3 := hgo 0 (by omega)
        have h4 := hgo 1 (by omega)
        simp [hc1] at h3 h4
        obtain ⟨y0, hy0⟩ : ∃ y, xs[0]? = some y := ⟨xs[0]'(by omega), List.getElem?_eq_getElem _⟩
        obtain ⟨y1, hy1⟩ : ∃ y, xs[1]? = some y := ⟨xs[1]'(by omega), List.getElem?_eq_getElem _⟩
        rw [hy0] at h3
        rw [hy1] at h4
        obtain ⟨z0, e0, _, _⟩ := DataW.trod_int Tryd.underlying3 h3
        obtain ⟨z1, e1, _, _⟩ := DataW.trod_int Tryd.underlying3 h4
        cases e0
        cases e1
        have g0 := hcell 0 (by omega)
        have g1 := hcell 1 (by omega)
        rw [add_add] at g0 g1
        exact ⟨(z0, z1), by simpa using g0, by simpa using g1⟩)
    refine ⟨some a, cap, (List.range len).map b, by simp, ro_at (fun i hi => ?_), by simpa using hl, by simpa using hlen⟩
    rw [cellV_len] at hi
    simp only [List.length_map, List.length_range] at hi
    have hq : i / 2 < len := by omega
    obtain ⟨g0, g1⟩ := hb (i / 2) hq
    obtain ⟨k0, k1⟩ := cellV_get (l := (List.range len).map b) (k := i / 2) (by simpa using hq)
    have hgd : ((List.range len).map b).getD (i / 2) (0, 0) = b (i / 2) := by simp [List.getD_eq_getElem?_getD, hq]
    rw [hgd] at k0 k1
    rcases Nat.mod_two_eq_zero_or_one i with hi2 | hi2
    · rw [show i / 2 * 2 = i by omega] at g0 k0
      rw [g0, k0]
    · rw [show i / 2 * 2 + 1 = i by omega] at g1 k1
      rw [g1, k1]
set_option maxRecDepth 100000 in
theorem open_kinds {v : Value} {d : DataW H} {p : List MemPlace} {r : Reach} {b0 : Nat} (hv : Value.okWide Tryd.prog W r b0 24 v) (h : DataW.Trod enc Tryd.prog W 0 sp true 24 v d p) :
    ∃ (N : Int) (ps : List Cell) (ao : Option Addr) (c : Nat), v = .agg #[.int .i64 N, .slice ao ps.length c] ∧ CellsAt W ao c ps := by
  obtain ⟨v0, v1, y0, y1, n, rfl, _, _, h0, h1⟩ := open_agg2 Tryd.underlying24 (by kernel_rfl) (by kernel_rfl) hv h
  obtain ⟨k, e0, _, f0⟩ := DataW.trod_int Tryd.underlying3 h0
  obtain ⟨ao, c, l, rfl, hl⟩ := open_cells22 h1
  cases e0
  exact ⟨k, l, ao, c, rfl, hl⟩
end
/-- Memory that comes in, with the room behind it. -/
theorem Hp.rosz {ρ : Env} {w : World} {L : List E} {nx : Nat} (h : ∀ e ∈ L, (∃ z, e.kd = .ro z ∧ (z = 0 ∨ e.cs.length ≤ (ρ e.lab).2 * z)) ∧ e.lab < nx ∧ (∀ c ∈ e.cs, c.wf nx) ∧ RoAt w (ρ e.lab).1 (e.cs.map (C.den ρ))) (hd : injB [] L = true) (hF : Fct w.heap.size w) : Hp w.heap.size ρ w L nx := by
  refine ⟨⟨Nat.le_refl _, hF⟩, fun e he => ?_, fun e he => ⟨(h e he).2.1, (h e he).2.2.1⟩, fun e he e' he' hl => injB_spec hd e he e' he' (.inl hl), fun e he e' he' hro => ?_⟩
  · obtain ⟨⟨z, h1, h2⟩, h3, h4, h5⟩ := h e he
    obtain ⟨lab, kd, cs⟩ := e
    simp only at h1 h2
    subst h1
    exact ⟨h5, h2⟩
  · obtain ⟨⟨z, h1, _⟩, _⟩ := h e he
    rw [h1] at hro; cases hro
/-- Where what came in lies: label k at place k. -/
def envL (l : List (Option Addr × Nat)) : Env := fun k => l.getD k (none, 0)
theorem ent_cells {W : World} {ρ : Env} {l : List Cell} {k nx c : Nat} {ao : Option Addr} (h : CellsAt W ao c l) (hk : k < nx) (hr : ρ k = (ao, c)) : (∃ z, (Kd.ro 2) = .ro z ∧ (z = 0 ∨ (cellC l).length ≤ (ρ k).2 * z)) ∧ k < nx ∧ (∀ c ∈ cellC l, c.wf nx) ∧ RoAt W (ρ k).1 ((cellC l).map (C.den ρ)) := by
  refine ⟨⟨2, rfl, .inr ?_⟩, hk, wf_cells _ _, ?_⟩
  · rw [hr, cellC_len]; have := h.2.1; simp only; omega
  · rw [den_cells, hr]; exact h.1
theorem isTrue_any {f : FuncId} {vs : List V} {L : List E} {na : Nat} {ρ : Env} {w : World} {args : Array Value} (spec : Spec Tryd.prog f vs L na (Is (V.c (.bool true)))) (hp : Hp w.heap.size ρ w L na) (hv : ∀ v ∈ vs, v.wf na) (ha : (vs.map (V.den ρ)).toArray = args) :
    Calls Tryd.prog f args w fun e w' => e = .returned (.bool true) ∧ Below w.heap.size w w' := by
  subst ha
  refine (spec ρ w hp hv).mono ?_
  rintro e w' ⟨v, ρ', L', nx', rfl, h1, h2, h3, h4, h5, h6⟩
  exact ⟨by rw [h6 ρ']; rfl, h4⟩
end Go.Proofs.YtijnimgmpocmaaaDoor

/- Waste: what the laws share: Wide, Awake. -/
namespace Go.Proofs.YtijnimgmpocmaaaDoor
open Go.RowKit
set_option linter.unusedVariables false
set_option linter.unusedSimpArgs false
theorem wide_spec (N : Int) (n : Nat) (hn : n < 9223372036854775808) : Spec Tryd.prog 14 [V.agg [C.i N, C.sl 0 n]] [] 1 (Is (V.c (.bool (decide ((n : Int) > 60))))) := by
  refine Spec.of tok Tryd.func14 rfl rfl rfl fun n0 cx => vc_ok tok ?_
  repeat ((conv => whnf); first | (refine And.intro (by first | omega | exact Nat.le_of_ble_eq_true rfl | (dsimp only [inK]; omega) | (simp only [mulS_eq]; omega) | (simp only [mulS_eq, setL_length]; omega) | (simp only [setL_length]; omega) | (simp only [setL_length, List.length_map]; omega) | (exact ⟨by omega, by omega, by first | exact Nat.le_of_ble_eq_true rfl | (dsimp only; omega) | (simp only [setL_length]; omega) | (simp only [setL_length, List.length_map]; omega)⟩) | (exact ⟨by omega, by first | rfl | omega, by omega, Nat.le_of_ble_eq_true rfl, Nat.le_of_ble_eq_true rfl⟩) | (exact ⟨rfl, rfl, rfl, Nat.le_of_ble_eq_true rfl, by first | rfl | omega | exact Nat.le_of_ble_eq_true rfl | (dsimp only; omega) | (simp; done) | (simp; omega), by first | rfl | omega | exact Nat.le_of_ble_eq_true rfl | (dsimp only; omega) | (simp; done) | (simp; omega), by omega, Nat.le_of_ble_eq_true rfl⟩) | exact Eq.refl true) ?_) | refine Exists.intro _ (And.intro rfl ?_) | refine And.intro (And.intro rfl (chk_rowI _ _ _ _)) ?_ | refine br_t (by omega) ?_ | refine br_f (by omega) ?_ | refine bs_t (by omega) ?_ | refine bs_f (by omega) ?_ | refine fun (K' : K3) hK' => ?_ | (refine hK' _ _ _ ?_; clear hK' K') | refine draw_auto tok mixed (by kernel_rfl) ?_ | refine bs_bt (Eq.refl true) ?_ | refine bs_bf (Eq.refl false) ?_ | refine br_bt (Eq.refl true) ?_ | refine br_bf (Eq.refl false) ?_ | refine CallK.m ?_ | refine Two.l ?_ | refine And.intro (And.intro rfl rfl) ?_)
  intro ρ; rfl
theorem three_knd : Knd 3 [(0, 1), (1, 2), (0, 2)] := ⟨by omega, fun p hp => by simp only [List.mem_cons, List.not_mem_nil, or_false] at hp; rcases hp with rfl | rfl | rfl <;> simp, by decide⟩
theorem three_cnt : cntO 3 [(0, 1), (1, 2), (0, 2)] 3 = 6 := by decide +kernel
set_option maxRecDepth 10000 in
theorem awake_spec : Spec Tryd.prog 16 [] [] 0 (Is (V.c (.bool true))) := by
  have hc := count_spec 3 3 [(0, 1), (1, 2), (0, 2)] three_knd
  rw [if_pos (by omega), three_cnt] at hc
  have hc : Spec Tryd.prog 25 [V.agg [C.i 3, C.sl 0 3], V.i 3] [⟨0, .ro 2, [C.i 0, C.i 1, C.i 1, C.i 2, C.i 0, C.i 2]⟩] 1 (Is (V.tup [A.c (C.i 6), A.c (C.i 0)])) := hc
  refine Spec.of tok Tryd.func16 rfl rfl rfl fun n0 cx => vc_ok tok ?_
  repeat ((conv => whnf); first | (refine And.intro (by first | omega | exact Nat.le_of_ble_eq_true rfl | (dsimp only [inK]; omega) | (simp only [mulS_eq]; omega) | (simp only [mulS_eq, setL_length]; omega) | (simp only [setL_length]; omega) | (simp only [setL_length, List.length_map]; omega) | (exact ⟨by omega, by omega, by first | exact Nat.le_of_ble_eq_true rfl | (dsimp only; omega) | (simp only [setL_length]; omega) | (simp only [setL_length, List.length_map]; omega)⟩) | (exact ⟨by omega, by first | rfl | omega, by omega, Nat.le_of_ble_eq_true rfl, Nat.le_of_ble_eq_true rfl⟩) | (exact ⟨rfl, rfl, rfl, Nat.le_of_ble_eq_true rfl, by first | rfl | omega | exact Nat.le_of_ble_eq_true rfl | (dsimp only; omega) | (simp; done) | (simp; omega), by first | rfl | omega | exact Nat.le_of_ble_eq_true rfl | (dsimp only; omega) | (simp; done) | (simp; omega), by omega, Nat.le_of_ble_eq_true rfl⟩) | exact Eq.refl true) ?_) | refine Exists.intro _ (And.intro rfl ?_) | refine And.intro (And.intro rfl (chk_rowI _ _ _ _)) ?_ | refine br_t (by omega) ?_ | refine br_f (by omega) ?_ | refine bs_t (by omega) ?_ | refine bs_f (by omega) ?_ | refine fun (K' : K3) hK' => ?_ | (refine hK' _ _ _ ?_; clear hK' K') | refine draw_auto tok mixed (by kernel_rfl) ?_ | refine CallK.val (R := [(0, some 0)]) hc (by kernel_rfl) rfl (by simp [V.wf, A.wf, C.wf, V.i]) ⟨roE_f (k := .vec 59 2) (flat_c [(0, 1), (1, 2), (0, 2)]) (l := 0) rfl (by omega) rfl (.inr rfl), trivial⟩ rfl rfl (by simp [V.wf, A.wf, C.wf]) ?_ | refine bs_bt (Eq.refl true) ?_ | refine bs_bf (Eq.refl false) ?_ | refine br_bt (Eq.refl true) ?_ | refine br_bf (Eq.refl false) ?_ | refine CallK.m ?_ | refine Two.l ?_ | refine And.intro (And.intro rfl rfl) ?_)
  intro ρ; rfl
section
variable {n0 nx : Nat} {L : List E} {K : V → List E → Nat → Prop}
theorem awake_k (hK : K (V.c (.bool true)) [] nx) : CallK Tryd.prog n0 16 [] L nx K :=
  CallK.val (R := []) awake_spec (by kernel_rfl) rfl (by simp) trivial rfl rfl trivial hK
theorem wide_k {N : Int} {n a : Nat} (hn : n < 9223372036854775808) (hK : K (V.c (.bool (decide ((n : Int) > 60)))) [] nx) : CallK Tryd.prog n0 14 [V.agg [C.i N, C.sl a n]] L nx K :=
  CallK.val (R := [(0, some a)]) (wide_spec N n hn) (by kernel_rfl) rfl (by simp [V.wf, A.wf, C.wf]) trivial rfl rfl trivial hK
end
end Go.Proofs.YtijnimgmpocmaaaDoor

/- Waste: the law of the fillings. -/
namespace Go.Proofs.YtijnimgmpocmaaaDoor
open Go.RowKit
set_option linter.unusedVariables false
set_option linter.unusedSimpArgs false
section
variable {n0 nx : Nat} {L : List E} {K : V → List E → Nat → Prop}
end
section
variable (N : Int) (ps : List Cell) (l : List Int)
end
section
variable (n : Nat) (qs : List (Nat × Nat)) (l : List Int) (hk : Knd n qs) (h2 : ¬ (l.length : Int) > 60)
include hk h2
end
end Go.Proofs.YtijnimgmpocmaaaDoor

/- Waste: booleans that come in. -/
namespace Go.Proofs.YtijnimgmpocmaaaDoor
open Go.RowKit
set_option linter.unusedVariables false
set_option linter.unusedSimpArgs false
open Go.ChangeShapes Go.WideShapes Go.ChangeAt Go.RowKit Go.Deep Go.Joins
def BoolsAt (W : World) (ao : Option Addr) (l : List Bool) : Prop := RoAt W ao (l.map Value.bool) ∧ l.length < 9223372036854775808
section
variable {H : Type} {enc : TypeId × Value → H} {W : World} {sp : Nat → Bool}
set_option maxRecDepth 10000 in
theorem open_bools {n : Nat} {v : Value} {x : DataW H × List MemPlace} (h : DataW.trod enc Tryd.prog W 0 sp true n 32 [v] = some x) :
    ∃ (ao : Option Addr) (c : Nat) (l : List Bool), v = .slice ao l.length c ∧ BoolsAt W ao l := by
  rcases open_slice1 Tryd.underlying32 (by kernel_rfl) h with ⟨hcs, _⟩ | ⟨a, len, cap, m, f, V, D, Pl, hcs, _, hl, hmax, hm, _, hx⟩
  · cases hcs
    exact ⟨none, 0, [], rfl, fun hne => absurd rfl hne, by simp⟩
  · cases hcs
    have hlm : len ≤ m := by rw [hm]; split <;> omega
    have hlen : len < 9223372036854775808 := by unfold maxLen at hmax; omega
    obtain ⟨b, hb⟩ := choose_lt (α := Bool) (n := len) (p := fun i b => V i = .bool b) (fun i hi => by
      obtain ⟨b, hb, _⟩ := DataW.trod_bool Tryd.underlying4 (hx i (by omega)).2
      exact ⟨b, by simpa using hb⟩)
    refine ⟨some a, cap, (List.range len).map b, by simp, ro_at (fun i hi => ?_), by simpa using hlen⟩
    have hi' : i < len := by simpa using hi
    rw [(hx i (by omega)).1, hb i hi']
    simp [List.getD_eq_getElem?_getD, hi']
set_option maxRecDepth 100000 in
theorem open_boolsv {v : Value} {d : DataW H} {p : List MemPlace} {r : Reach} {b0 : Nat} (hv : Value.okWide Tryd.prog W r b0 32 v) (h : DataW.Trod enc Tryd.prog W 0 sp true 32 v d p) :
    ∃ (ao : Option Addr) (c : Nat) (l : List Bool), v = .slice ao l.length c ∧ BoolsAt W ao l := by
  obtain ⟨fuel, hf⟩ := h
  obtain ⟨ao, n, cp, rfl⟩ := okWide_slice Tryd.underlying32 hv
  simp only [Value.cells] at hf
  exact open_bools hf
end
theorem ent_bools {W : World} {ρ : Env} {l : List Bool} {k nx : Nat} {ao : Option Addr} (h : BoolsAt W ao l) (hk : k < nx) (hr : (ρ k).1 = ao) : (∃ z, (Kd.ro 0) = .ro z ∧ (z = 0 ∨ (l.map C.bool).length ≤ (ρ k).2 * z)) ∧ k < nx ∧ (∀ c ∈ l.map C.bool, c.wf nx) ∧ RoAt W (ρ k).1 ((l.map C.bool).map (C.den ρ)) := by
  refine ⟨⟨0, rfl, .inl rfl⟩, hk, wf_bools _ _, ?_⟩
  rw [List.map_map, hr]; exact h.1
theorem hp_kb {W : World} {l : List Bool} {ps : List Cell} {ao bo : Option Addr} {c d : Nat} (h : CellsAt W ao c ps) (h2 : BoolsAt W bo l) (hF : Fct W.heap.size W) : Hp W.heap.size (envL [(ao, c), (bo, d)]) W [⟨0, .ro 2, cellC ps⟩, ⟨1, .ro 0, l.map C.bool⟩] 2 := by
  refine Hp.rosz (fun e he => ?_) rfl hF
  simp only [List.mem_cons, List.not_mem_nil, or_false] at he
  rcases he with rfl | rfl
  · exact ent_cells h (by show 0 < 2; omega) rfl
  · exact ent_bools h2 (by show 1 < 2; omega) rfl
end Go.Proofs.YtijnimgmpocmaaaDoor

/- Waste: the law of orders of loading. -/
namespace Go.Proofs.YtijnimgmpocmaaaDoor
open Go.RowKit
set_option linter.unusedVariables false
set_option linter.unusedSimpArgs false
section
variable (N : Int) (ps : List Cell) (bl : List Bool)
theorem ldl_long (hps : ps.length < 9223372036854775808) (hbl : bl.length < 9223372036854775808) (h : (ps.length : Int) > 60 ∨ (bl.length : Int) > 60) :
    Spec Tryd.prog 8 [kW N ps, V.c (.sl 1 bl.length)] [⟨0, .ro 2, cellC ps⟩, ⟨1, .ro 0, bl.map C.bool⟩] 2 (Is (V.c (.bool true))) := by
  refine Spec.of tok Tryd.func8 rfl rfl rfl fun n0 cx => vc_ok tok ?_
  by_cases h1 : (ps.length : Int) > 60
  · repeat ((conv => whnf); first | refine Exists.intro _ (And.intro rfl ?_) | refine bs_t (by omega) ?_ | refine fun (K' : K3) hK' => ?_ | (refine hK' _ _ _ ?_; clear hK' K') | refine wide_k hps ?_ | refine awake_k ?_ | refine CallK.m ?_)
    intro ρ; rfl
  · have h2 : (bl.length : Int) > 60 := by omega
    repeat ((conv => whnf); first | refine Exists.intro _ (And.intro rfl ?_) | refine br_t (by omega) ?_ | refine bs_f (by omega) ?_ | refine fun (K' : K3) hK' => ?_ | (refine hK' _ _ _ ?_; clear hK' K') | refine wide_k hps ?_ | refine awake_k ?_ | refine CallK.m ?_)
    intro ρ; rfl
set_option maxRecDepth 10000 in
set_option maxHeartbeats 8000000 in
theorem ldl_no (h1 : ¬ (ps.length : Int) > 60) (h2 : ¬ (bl.length : Int) > 60) (hv : okK' N ps = false) :
    Spec Tryd.prog 8 [kW N ps, V.c (.sl 1 bl.length)] [⟨0, .ro 2, cellC ps⟩, ⟨1, .ro 0, bl.map C.bool⟩] 2 (Is (V.c (.bool true))) := by
  have k1 := isLoading_err N ps bl 70 (by omega) (by omega) (.inl ⟨hv, rfl⟩)
  have k2 := rIsLoading_err N ps bl 70 (by omega) (by omega) (.inl ⟨hv, rfl⟩)
  have k3 := Loadings_no N ps (by omega) hv
  have k4 := rLoadings_err N ps (by omega) hv
  refine Spec.of tok Tryd.func8 rfl rfl rfl fun n0 cx => vc_ok tok ?_
  repeat ((conv => whnf); first | refine Exists.intro _ (And.intro rfl ?_) | refine br_t (by omega) ?_ | refine br_f (by omega) ?_ | refine bs_f (by omega) ?_ | refine fun (K' : K3) hK' => ?_ | (refine hK' _ _ _ ?_; clear hK' K') | refine wide_k (by omega) ?_ | (refine CallK.val (R := []) k1 (by kernel_rfl) rfl (by simp [V.wf, A.wf, C.wf, V.i]) ⟨roE_f (flat_c _) (l := 0) rfl (by omega) rfl (.inr rfl), roE_s (sim_b _) (l := 1) rfl (by omega) rfl (.inl rfl), trivial⟩ rfl rfl (by first | trivial | simp [V.wf, A.wf, C.wf]) ?_) | (refine CallK.val (R := []) k2 (by kernel_rfl) rfl (by simp [V.wf, A.wf, C.wf, V.i]) ⟨roE_f (flat_c _) (l := 0) rfl (by omega) rfl (.inr rfl), roE_s (sim_b _) (l := 1) rfl (by omega) rfl (.inl rfl), trivial⟩ rfl rfl (by first | trivial | simp [V.wf, A.wf, C.wf]) ?_) | (refine CallK.val (R := []) k3 (by kernel_rfl) rfl (by simp [V.wf, A.wf, C.wf, V.i]) ⟨roE_f (flat_c _) (l := 0) rfl (by omega) rfl (.inr rfl), trivial⟩ rfl rfl (by first | trivial | simp [V.wf, A.wf, C.wf]) ?_) | (refine CallK.val (R := []) k4 (by kernel_rfl) rfl (by simp [V.wf, A.wf, C.wf, V.i]) ⟨roE_f (flat_c _) (l := 0) rfl (by omega) rfl (.inr rfl), trivial⟩ rfl rfl (by first | trivial | simp [V.wf, A.wf, C.wf]) ?_) | refine awake_k ?_ | refine br_bt (Eq.refl true) ?_ | refine CallK.m ?_)
  intro ρ; rfl
end
set_option maxRecDepth 10000 in
set_option maxHeartbeats 8000000 in
theorem ldl_yes (n : Nat) (qs : List (Nat × Nat)) (bl : List Bool) (hk : Knd n qs) (h2 : ¬ (bl.length : Int) > 60) :
    Spec Tryd.prog 8 [kW n (castP qs), V.c (.sl 1 bl.length)] [⟨0, .ro 2, cellC (castP qs)⟩, ⟨1, .ro 0, bl.map C.bool⟩] 2 (Is (V.c (.bool true))) := by
  have hpl := castP_len qs
  have hql := knd_len hk
  have h1 : ¬ ((castP qs).length : Int) > 60 := by omega
  have k3 := Loadings_spec n qs hk
  have k4 := rLoadings_spec n qs hk
  obtain ⟨x, hx⟩ : ∃ x, x = LD (tabS n qs) (2 ^ n - 1) := ⟨_, rfl⟩
  rw [← hx] at k3 k4
  have hxx : x = x := rfl
  by_cases he : bl.length = qs.length
  · have k1 := isLoading_spec n qs hk bl he
    have k2 := rIsLoading_spec n qs hk bl he
    cases hi : isLd n qs bl with
    | false =>
      rw [hi] at k1 k2
      refine Spec.of tok Tryd.func8 rfl rfl rfl fun n0 cx => vc_ok tok ?_
      repeat ((conv => whnf); first | refine Exists.intro _ (And.intro rfl ?_) | refine br_t (by omega) ?_ | refine br_f (by omega) ?_ | refine bs_f (by omega) ?_ | refine fun (K' : K3) hK' => ?_ | (refine hK' _ _ _ ?_; clear hK' K') | refine wide_k (by omega) ?_ | (refine CallK.val (R := []) k1 (by kernel_rfl) rfl (by simp [V.wf, A.wf, C.wf, V.i]) ⟨roE_f (flat_c _) (l := 0) rfl (by omega) rfl (.inr rfl), roE_s (sim_b _) (l := 1) rfl (by omega) rfl (.inl rfl), trivial⟩ rfl rfl (by first | trivial | simp [V.wf, A.wf, C.wf]) ?_) | (refine CallK.val (R := []) k2 (by kernel_rfl) rfl (by simp [V.wf, A.wf, C.wf, V.i]) ⟨roE_f (flat_c _) (l := 0) rfl (by omega) rfl (.inr rfl), roE_s (sim_b _) (l := 1) rfl (by omega) rfl (.inl rfl), trivial⟩ rfl rfl (by first | trivial | simp [V.wf, A.wf, C.wf]) ?_) | (refine CallK.val (R := []) k3 (by kernel_rfl) rfl (by simp [V.wf, A.wf, C.wf, V.i]) ⟨roE_f (flat_c _) (l := 0) rfl (by omega) rfl (.inr rfl), trivial⟩ rfl rfl (by first | trivial | simp [V.wf, A.wf, C.wf]) ?_) | (refine CallK.val (R := []) k4 (by kernel_rfl) rfl (by simp [V.wf, A.wf, C.wf, V.i]) ⟨roE_f (flat_c _) (l := 0) rfl (by omega) rfl (.inr rfl), trivial⟩ rfl rfl (by first | trivial | simp [V.wf, A.wf, C.wf]) ?_) | refine awake_k ?_ | refine br_bt (Eq.refl true) ?_ | refine CallK.m ?_)
      intro ρ; rfl
    | true =>
      rw [hi] at k1 k2
      refine Spec.of tok Tryd.func8 rfl rfl rfl fun n0 cx => vc_ok tok ?_
      repeat ((conv => whnf); first | refine Exists.intro _ (And.intro rfl ?_) | refine br_t (by omega) ?_ | refine br_f (by omega) ?_ | refine bs_f (by omega) ?_ | refine fun (K' : K3) hK' => ?_ | (refine hK' _ _ _ ?_; clear hK' K') | refine wide_k (by omega) ?_ | (refine CallK.val (R := []) k1 (by kernel_rfl) rfl (by simp [V.wf, A.wf, C.wf, V.i]) ⟨roE_f (flat_c _) (l := 0) rfl (by omega) rfl (.inr rfl), roE_s (sim_b _) (l := 1) rfl (by omega) rfl (.inl rfl), trivial⟩ rfl rfl (by first | trivial | simp [V.wf, A.wf, C.wf]) ?_) | (refine CallK.val (R := []) k2 (by kernel_rfl) rfl (by simp [V.wf, A.wf, C.wf, V.i]) ⟨roE_f (flat_c _) (l := 0) rfl (by omega) rfl (.inr rfl), roE_s (sim_b _) (l := 1) rfl (by omega) rfl (.inl rfl), trivial⟩ rfl rfl (by first | trivial | simp [V.wf, A.wf, C.wf]) ?_) | (refine CallK.val (R := []) k3 (by kernel_rfl) rfl (by simp [V.wf, A.wf, C.wf, V.i]) ⟨roE_f (flat_c _) (l := 0) rfl (by omega) rfl (.inr rfl), trivial⟩ rfl rfl (by first | trivial | simp [V.wf, A.wf, C.wf]) ?_) | (refine CallK.val (R := []) k4 (by kernel_rfl) rfl (by simp [V.wf, A.wf, C.wf, V.i]) ⟨roE_f (flat_c _) (l := 0) rfl (by omega) rfl (.inr rfl), trivial⟩ rfl rfl (by first | trivial | simp [V.wf, A.wf, C.wf]) ?_) | refine awake_k ?_ | refine br_bt (Eq.refl true) ?_ | refine CallK.m ?_)
      intro ρ; rfl
  · have k1 := isLoading_err n (castP qs) bl 2 (by omega) (by omega) (.inr ⟨knd_ok hk, by omega, rfl⟩)
    have k2 := rIsLoading_err n (castP qs) bl 2 (by omega) (by omega) (.inr ⟨knd_ok hk, by omega, rfl⟩)
    refine Spec.of tok Tryd.func8 rfl rfl rfl fun n0 cx => vc_ok tok ?_
    repeat ((conv => whnf); first | refine Exists.intro _ (And.intro rfl ?_) | refine br_t (by omega) ?_ | refine br_f (by omega) ?_ | refine bs_f (by omega) ?_ | refine fun (K' : K3) hK' => ?_ | (refine hK' _ _ _ ?_; clear hK' K') | refine wide_k (by omega) ?_ | (refine CallK.val (R := []) k1 (by kernel_rfl) rfl (by simp [V.wf, A.wf, C.wf, V.i]) ⟨roE_f (flat_c _) (l := 0) rfl (by omega) rfl (.inr rfl), roE_s (sim_b _) (l := 1) rfl (by omega) rfl (.inl rfl), trivial⟩ rfl rfl (by first | trivial | simp [V.wf, A.wf, C.wf]) ?_) | (refine CallK.val (R := []) k2 (by kernel_rfl) rfl (by simp [V.wf, A.wf, C.wf, V.i]) ⟨roE_f (flat_c _) (l := 0) rfl (by omega) rfl (.inr rfl), roE_s (sim_b _) (l := 1) rfl (by omega) rfl (.inl rfl), trivial⟩ rfl rfl (by first | trivial | simp [V.wf, A.wf, C.wf]) ?_) | (refine CallK.val (R := []) k3 (by kernel_rfl) rfl (by simp [V.wf, A.wf, C.wf, V.i]) ⟨roE_f (flat_c _) (l := 0) rfl (by omega) rfl (.inr rfl), trivial⟩ rfl rfl (by first | trivial | simp [V.wf, A.wf, C.wf]) ?_) | (refine CallK.val (R := []) k4 (by kernel_rfl) rfl (by simp [V.wf, A.wf, C.wf, V.i]) ⟨roE_f (flat_c _) (l := 0) rfl (by omega) rfl (.inr rfl), trivial⟩ rfl rfl (by first | trivial | simp [V.wf, A.wf, C.wf]) ?_) | refine awake_k ?_ | refine br_bt (Eq.refl true) ?_ | refine CallK.m ?_)
    intro ρ; rfl
theorem ldl_any (N : Int) (ps : List Cell) (bl : List Bool) (ao bo : Option Addr) (c d : Nat) (w : World) (h : CellsAt w ao c ps) (hb : BoolsAt w bo bl) (hF : Fct w.heap.size w) :
    Calls Tryd.prog 8 #[.agg #[.int .i64 N, .slice ao ps.length c], .slice bo bl.length d] w fun e w' => e = .returned (.bool true) ∧ Below w.heap.size w w' := by
  by_cases hl : (ps.length : Int) > 60 ∨ (bl.length : Int) > 60
  · exact isTrue_any (vs := [kW N ps, V.c (.sl 1 bl.length)]) (ldl_long N ps bl h.2.2 hb.2 hl) (hp_kb (d := d) h hb hF) (by simp [V.wf, A.wf, C.wf]) rfl
  · have h1 : ¬ (ps.length : Int) > 60 := fun h => hl (.inl h)
    have h2 : ¬ (bl.length : Int) > 60 := fun h => hl (.inr h)
    cases hv : okK' N ps with
    | false => exact isTrue_any (vs := [kW N ps, V.c (.sl 1 bl.length)]) (ldl_no N ps bl h1 h2 hv) (hp_kb (d := d) h hb hF) (by simp [V.wf, A.wf, C.wf]) rfl
    | true =>
      obtain ⟨n, qs, rfl, rfl, hk⟩ := knd_of hv
      exact isTrue_any (vs := [kW n (castP qs), V.c (.sl 1 bl.length)]) (ldl_yes n qs bl hk h2) (hp_kb (d := d) h hb hF) (by simp [V.wf, A.wf, C.wf]) rfl
end Go.Proofs.YtijnimgmpocmaaaDoor

/- Waste: what the listed variables give; a start that meets the condition. -/
namespace Go.Proofs.YtijnimgmpocmaaaDoor
open Go.RowKit
set_option linter.unusedVariables false
set_option linter.unusedSimpArgs false
open Go.ChangeShapes Go.WideShapes Go.ChangeAt Go.RowKit Go.Deep Go.Joins
abbrev laidV : List (String × DataW Unit) := [("math/bits.deBruijn32tab", Rows.laid_math_bits_deBruijn32tab), ("math/bits.deBruijn64tab", Rows.laid_math_bits_deBruijn64tab)]
theorem gTab : Tryd.prog.globalNamed "math/bits.deBruijn64tab" = some 1 := by kernel_rfl
theorem tTab : (Tryd.prog.globals[1]?).map (·.type) = some 120 := by kernel_rfl
theorem tabDat : (Rows.laid_math_bits_deBruijn64tab (H := Unit)) = .agg (Lib.deBruijn64tab.map fun n : Nat => .lit (.int .u8 n)) := rfl
set_option maxRecDepth 10000 in
theorem fct_of_laid {W : World} (h : laidMetH Tryd.prog laidV W) : Fct W.heap.size W := by
  have h' : laidMet Tryd.prog laidV W := h
  obtain ⟨ps, ⟨_, _, _, _, _, _, _, _, _, _, ⟨g, t, cs, fuel, p, q, hg, ht, hv, hd, _⟩, _⟩, _⟩ := h'
  obtain rfl := Option.some.inj (gTab.symm.trans hg)
  obtain rfl := Option.some.inj (tTab.symm.trans ht)
  rw [tabDat] at hd
  obtain ⟨xs, m, _, hx, hl, hxl, hgo⟩ := DataW.trod_array Tryd.underlying120 hd
  have hc1 : Tryd.prog.cellsOf 5 = 1 := by kernel_rfl
  have hc64 : Tryd.prog.cellsOf 120 = 64 := by kernel_rfl
  rw [hc64] at hl
  have hcell : ∀ j, j < Lib.deBruijn64tab.length → W.cell? ⟨1, j, none⟩ = some (.int .u8 (Lib.deBruijn64tab.getD j 0)) := by
    intro j hj
    have hj64 : j < 64 := hj
    have h3 := hgo j hj64
    rw [hc1, Nat.mul_one] at h3
    obtain ⟨y, hy⟩ : ∃ y, xs[j]? = some y := ⟨xs[j]'(by omega), List.getElem?_eq_getElem _⟩
    rw [hy] at h3
    obtain ⟨u, hu⟩ : ∃ u, cs.toList[j]? = some u := ⟨cs.toList[j]'(by omega), List.getElem?_eq_getElem _⟩
    have e1 : (cs.toList.drop j).take 1 = [u] := by
      rw [List.take_one, List.head?_drop, hu]; rfl
    rw [e1] at h3
    obtain ⟨z, e0, e2, _⟩ := DataW.trod_int Tryd.underlying5 h3
    have e0 : u = .int .u8 z := by simpa using e0
    have hxm : xs.map (·.1) = Lib.deBruijn64tab.map fun n : Nat => (DataW.lit (.int .u8 n) : DataW Unit) := by
      have := congrArg Prod.fst hx
      simp only [DataW.agg.injEq] at this
      exact this.symm
    have hym : (xs.map (·.1))[j]? = some y.1 := by rw [List.getElem?_map, hy]; rfl
    rw [hxm, List.getElem?_map] at hym
    have hz : (DataW.lit (.int .u8 (Lib.deBruijn64tab.getD j 0 : Nat)) : DataW Unit) = y.1 := by
      rw [List.getElem?_eq_getElem hj] at hym
      simp only [Option.map_some, Option.some.injEq] at hym
      rw [← hym, List.getD_eq_getElem?_getD, List.getElem?_eq_getElem hj]; rfl
    have hzz : (Lib.deBruijn64tab.getD j 0 : Int) = z := by
      rw [e2] at hz
      simpa using hz
    have hw := World.var?_cell gTab hv j
    rw [hw]
    have : cs[j]? = some u := by rw [← Array.getElem?_toList]; exact hu
    rw [this, e0, hzz]
  have h0 := hcell 0 (by decide)
  have hlt := World.block_lt_of_cell? _ _ h0
  refine ⟨hlt, ?_⟩
  have h1 := h0
  unfold World.cell? at h1
  cases hb : W.heap[1]? with
  | none => simp [hb] at h1
  | some o =>
    cases o with
    | cells c t fr => exact ⟨c, t, fr, rfl, hcell⟩
    | _ => simp [hb] at h1
theorem door_met (os : Os) (args : Array Value) : laidMetH Tryd.prog laidV ((World.doorLaid Tryd.prog 19 os).forCall (fun _ _ => 0) ⟨#[], args, []⟩).memory :=
  laidMetH_of_parts3 (fuel := 8) (laidMet_of_run' 8 (by kernel_rfl) (by kernel_rfl)) (by kernel_rfl) (by kernel_rfl)
end Go.Proofs.YtijnimgmpocmaaaDoor

