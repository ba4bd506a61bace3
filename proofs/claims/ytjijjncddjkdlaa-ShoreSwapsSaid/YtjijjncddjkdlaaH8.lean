/- Texts of the proof, part 8: L10, L10b. -/
import Derived.Test.YtjijjncddjkdlaaH7
import Derived.WalkKit
import Derived.Below
import Derived.Laws.OwnMore
import Derived.Maps.AppendAt
import Derived.Laws.IdiomCopy
import Derived.Laws.CopyRow
import Derived.IntWalk
import Derived.StillTail
import Derived.Scope
import Derived.ChangeKeysEq
import Derived.Laws.Small
import Derived.OrdersIn
import Derived.TacticsIn
import Derived.OwnWalkIn
import Derived.RangeFuncNested
import Derived.RangeFuncLeaves
import Derived.RangeFuncRecord
import Derived.Test.YtjijjncddjkdlaaRows
import Derived.KernelRfl
import Derived.ProofKit
import Derived.OpenShut
import Derived.Lib.SmallJoins
import Derived.Deep.Slices
import Derived.PlainAid
import Derived.StillTailTactics
import Derived.WalkSpells
import Derived.OwnWalk
/- The law of the neighbours exchanged and of the next order. -/
namespace Go.Proofs.Ytjijjncddjkdlaa
open Go.RowKit
set_option linter.unusedVariables false
set_option linter.unusedSimpArgs false
theorem ord_range {j : Coast} {o : List Int} (hc : validL j = true) (hi : isOrdB j o = true) : ∀ x ∈ o, 0 ≤ x ∧ x < 6 := by
  intro x hx
  obtain ⟨n, hn, rfl⟩ := List.mem_iff_getElem.1 hx
  have := (isOrd_ok hi).beach n hn
  rw [getD_lt hn] at this
  have hj : (j.length : Int) ≤ 6 := by
    simp only [validL, Bool.and_eq_true, decide_eq_true_eq] at hc; omega
  omega
theorem next_both (j : Coast) (o : List Int) (hj : Sized j) (ho : o.length ≤ 200) : ∃ (x : List Int) (Er : Int), x.length ≤ 200 ∧
    Spec Try.prog 47 [V.c (.sl 0 j.length), V.c (.sl 21 o.length)] (⟨0, .ro 1, slsC 1 j⟩ :: ⟨21, .ro 0, o.map C.i⟩ :: entC 1 j) 32 (fun v L' _ => intsX x Er v L') ∧
    Spec Try.prog 48 [V.c (.sl 0 j.length), V.c (.sl 21 o.length)] (⟨0, .ro 1, slsC 1 j⟩ :: ⟨21, .ro 1, o.map C.i⟩ :: entC 1 j) 32 (fun v L' _ => intsX x Er v L') := by
  by_cases h : ordE j o = 0
  · obtain ⟨hv, hi⟩ := ordE_zero h
    rcases piv_or o with hp | ⟨k, hp⟩
    · exact ⟨[], 5, by simp, next_none j o hj ho hv hi hp, rnext_none j o hj ho h hp⟩
    · obtain ⟨i, hl⟩ := last_ex hp
      have hR := rnext_spec j o k hj ho h hp
      rw [rnext_same (ord_range hv hi) hp hl] at hR
      exact ⟨nextR o k i, 0, by rw [nextR_len]; exact ho, next_spec j o k i hj ho hv hi hp hl, hR⟩
  · have hb : (validL j && isOrdB j o) = false := by
      refine Bool.eq_false_iff.2 fun he => h ?_
      simp only [Bool.and_eq_true] at he
      simp [ordE, he.1, he.2]
    have hN := next_bad j o hj ho hb
    have e : (if validL j then (61 : Int) else 60) = ordE j o := by
      unfold ordE
      cases hv : validL j with
      | false => rfl
      | true => rw [hv] at hb; simp only [Bool.true_and] at hb; simp [hb]
    rw [e] at hN
    exact ⟨[], ordE j o, by simp, hN, rnext_bad j o hj ho h⟩
theorem swaps_long (j : Coast) (o : List Int) (at' : Int) (hj : j.length < 9223372036854775808) (hl : longB j = true ∨ 200 < o.length) :
    Spec Try.prog 10 [V.c (.sl 0 j.length), V.c (.sl (j.length + 31) o.length), V.i at'] [⟨0, .ro 1, slsC 1 j⟩] (j.length + 32) (Is (V.c (.bool true))) := by
  rcases bool_or (longB j) with h | h
  · have ho : (o.length : Int) > 200 := by have := hl.resolve_left (by rw [h]; simp); omega
    refine Spec.of tok Try.func10 rfl rfl rfl fun n0 cx => vc_ok tok ?_
    repeat ((conv => whnf); first
        | (refine And.intro (by first | omega | exact Nat.le_of_ble_eq_true rfl | (dsimp only [inK]; omega) | (simp only [mulS_eq]; omega) | (simp only [mulS_eq, setL_length]; omega) | (simp only [setL_length, List.length_map]; omega) | exact ⟨by omega, by omega, by first | exact Nat.le_of_ble_eq_true rfl | (dsimp only; omega) | (simp only [setL_length]; omega) | (simp only [setL_length, List.length_map]; omega)⟩ | exact ⟨by omega, by first | rfl | omega, by omega, Nat.le_of_ble_eq_true rfl, Nat.le_of_ble_eq_true rfl⟩ | exact ⟨rfl, rfl, rfl, Nat.le_of_ble_eq_true rfl, by first | rfl | omega | exact Nat.le_of_ble_eq_true rfl | (dsimp only; omega) | (simp; done) | (simp; omega), by first | rfl | omega | exact Nat.le_of_ble_eq_true rfl | (dsimp only; omega) | (simp; done) | (simp; omega), by omega, Nat.le_of_ble_eq_true rfl⟩ | exact Eq.refl true) ?_)
        | (refine Exists.intro _ (And.intro rfl ?_))
        | (refine And.intro (And.intro rfl (chk_rowI _ _ _ _)) ?_)
        | (refine br_t (by omega) ?_)
        | (refine br_f (by omega) ?_)
        | (refine bs_t (by omega) ?_)
        | (refine bs_f (by omega) ?_)
        | (refine fun (K' : K3) hK' => ?_)
        | (refine hK' _ _ _ ?_; clear hK' K')
        | (refine draw_auto tok mixed (by kernel_rfl) ?_)
        | (refine long_k hj rfl ?_)
        | (refine bs_bf h ?_)
        | (refine br_t ho ?_)
        | (refine sane_k ?_)
        | (refine bs_bt (Eq.refl true) ?_)
        | (refine bs_bf (Eq.refl false) ?_)
        | (refine br_bt (Eq.refl true) ?_)
        | (refine br_bf (Eq.refl false) ?_)
        | (refine CallK.m ?_)
        | (refine And.intro (And.intro rfl rfl) ?_))
    intro ρ; rfl
  · refine Spec.of tok Try.func10 rfl rfl rfl fun n0 cx => vc_ok tok ?_
    repeat ((conv => whnf); first
        | (refine And.intro (by first | omega | exact Nat.le_of_ble_eq_true rfl | (dsimp only [inK]; omega) | (simp only [mulS_eq]; omega) | (simp only [mulS_eq, setL_length]; omega) | (simp only [setL_length, List.length_map]; omega) | exact ⟨by omega, by omega, by first | exact Nat.le_of_ble_eq_true rfl | (dsimp only; omega) | (simp only [setL_length]; omega) | (simp only [setL_length, List.length_map]; omega)⟩ | exact ⟨by omega, by first | rfl | omega, by omega, Nat.le_of_ble_eq_true rfl, Nat.le_of_ble_eq_true rfl⟩ | exact ⟨rfl, rfl, rfl, Nat.le_of_ble_eq_true rfl, by first | rfl | omega | exact Nat.le_of_ble_eq_true rfl | (dsimp only; omega) | (simp; done) | (simp; omega), by first | rfl | omega | exact Nat.le_of_ble_eq_true rfl | (dsimp only; omega) | (simp; done) | (simp; omega), by omega, Nat.le_of_ble_eq_true rfl⟩ | exact Eq.refl true) ?_)
        | (refine Exists.intro _ (And.intro rfl ?_))
        | (refine And.intro (And.intro rfl (chk_rowI _ _ _ _)) ?_)
        | (refine br_t (by omega) ?_)
        | (refine br_f (by omega) ?_)
        | (refine bs_t (by omega) ?_)
        | (refine bs_f (by omega) ?_)
        | (refine fun (K' : K3) hK' => ?_)
        | (refine hK' _ _ _ ?_; clear hK' K')
        | (refine draw_auto tok mixed (by kernel_rfl) ?_)
        | (refine long_k hj rfl ?_)
        | (refine bs_bt h ?_)
        | (refine br_bt h ?_)
        | (refine sane_k ?_)
        | (refine bs_bt (Eq.refl true) ?_)
        | (refine bs_bf (Eq.refl false) ?_)
        | (refine br_bt (Eq.refl true) ?_)
        | (refine br_bf (Eq.refl false) ?_)
        | (refine CallK.m ?_)
        | (refine And.intro (And.intro rfl rfl) ?_))
    intro ρ; rfl
theorem injO1 {j : Coast} {o : List Int} (hj : Sized j) : injB [] (⟨0, .ro 1, slsC 1 j⟩ :: ⟨21, .ro 1, o.map C.i⟩ :: entC 1 j) = true := injB_ent (p := [_, _]) hj.len rfl rfl
theorem HasC.roO1 {L : List E} {j : Coast} {o : List Int} {a : Nat} {k : Kd} (h : HasC L j) (hj : Sized j) (ho : find L a = some ⟨a, k, o.map C.i⟩) (hk : k.z = some 1) : roL [(21, some a)] 32 L (⟨0, .ro 1, slsC 1 j⟩ :: ⟨21, .ro 1, o.map C.i⟩ :: entC 1 j) := by
  obtain ⟨h1, h2, h3⟩ := h.roO hj ho
  exact ⟨h1, ⟨Nat.le_of_ble_eq_true rfl, wf_ints _ _, k, o.map C.i, ho, .inr hk, ren_ints _ _⟩, h3⟩
theorem swapLs_len {j : Coast} {o : List Int} {at' : Int} : (swapLs j o at').length ≤ o.length := by
  unfold swapLs
  split
  · rw [swapL_len]; exact Nat.le_refl _
  · exact Nat.zero_le _
set_option maxHeartbeats 2000000 in
set_option maxRecDepth 100000 in
theorem swaps_spec (j : Coast) (o : List Int) (at' : Int) (hj : Sized j) (hl : longB j = false) (ho : o.length ≤ 200) (hat : -9223372036854775808 ≤ at' ∧ at' ≤ 9223372036854775807) :
    Spec Try.prog 10 [V.c (.sl 0 j.length), V.c (.sl 21 o.length), V.i at'] (⟨0, .ro 1, slsC 1 j⟩ :: ⟨21, .ro 1, o.map C.i⟩ :: entC 1 j) 32 (Is (V.c (.bool true))) := by
  have hj20 := hj.len
  have hlen := slsC_len (b := 1) (j := j)
  have h200 : ¬ (o.length : Int) > 200 := by omega
  have hS1 := swap_spec j o at' hj ho hat
  have hS2 := rswap_spec j o at' hj ho hat
  obtain ⟨x, Er, hx, hN1, hN2⟩ := next_both j o hj ho
  have hsl := swapLs_len (j := j) (o := o) (at' := at')
  generalize swapLs j o at' = s at hS1 hS2 hsl
  generalize swapNm j o at' = n at hS1 hS2
  generalize swapE j o at' = e at hS1 hS2
  have hm1 := sameInts_spec s s (by omega) (by omega)
  have hm2 := sameInts_spec x x (by omega) (by omega)
  rw [decide_eq_true rfl] at hm1 hm2
  refine Spec.of tok Try.func10 rfl rfl rfl fun n0 cx => vc_ok tok ?_
  repeat ((conv => whnf); first
      | (refine And.intro (by first | omega | exact Nat.le_of_ble_eq_true rfl | (dsimp only [inK]; omega) | (simp only [mulS_eq]; omega) | (simp only [mulS_eq, setL_length]; omega) | (simp only [setL_length, List.length_map]; omega) | exact ⟨by omega, by omega, by first | exact Nat.le_of_ble_eq_true rfl | (dsimp only; omega) | (simp only [setL_length]; omega) | (simp only [setL_length, List.length_map]; omega)⟩ | exact ⟨by omega, by first | rfl | omega, by omega, Nat.le_of_ble_eq_true rfl, Nat.le_of_ble_eq_true rfl⟩ | exact ⟨rfl, rfl, rfl, Nat.le_of_ble_eq_true rfl, by first | rfl | omega | exact Nat.le_of_ble_eq_true rfl | (dsimp only; omega) | (simp; done) | (simp; omega), by first | rfl | omega | exact Nat.le_of_ble_eq_true rfl | (dsimp only; omega) | (simp; done) | (simp; omega), by omega, Nat.le_of_ble_eq_true rfl⟩ | exact Eq.refl true) ?_)
      | (refine Exists.intro _ (And.intro rfl ?_))
      | (refine And.intro (And.intro rfl (chk_rowI _ _ _ _)) ?_)
      | (refine br_t (by omega) ?_)
      | (refine br_f (by omega) ?_)
      | (refine bs_t (by omega) ?_)
      | (refine bs_f (by omega) ?_)
      | (refine fun (K' : K3) hK' => ?_)
      | (refine hK' _ _ _ ?_; clear hK' K')
      | (refine draw_auto tok mixed (by kernel_rfl) ?_)
      | (refine long_k (by omega) rfl ?_)
      | (refine bs_bf hl ?_)
      | (refine br_f h200 ?_)
      | (refine CallK.intsN' (R := [(21, some 21)]) hS1 (by kernel_rfl) rfl (by simp [V.wf, A.wf, C.wf, V.i]) (HasC.roO ⟨rfl, fun k hk => by (repeat (first | rw [find_skip (by omega)] | rw [find_hi (by omega) (by rfl)])); exact entC_find hk⟩ hj rfl) (injO hj) ?_)
      | (refine CallK.intsN' (R := [(21, some 21)]) hS2 (by kernel_rfl) rfl (by simp [V.wf, A.wf, C.wf, V.i]) (HasC.roO ⟨rfl, fun k hk => by (repeat (first | rw [find_skip (by omega)] | rw [find_hi (by omega) (by rfl)])); exact entC_find hk⟩ hj rfl) (injO hj) ?_)
      | (refine CallK.intsE (R := [(21, some 21)]) hN1 (by kernel_rfl) rfl (by simp [V.wf, A.wf, C.wf]) (HasC.roO ⟨rfl, fun k hk => by (repeat (first | rw [find_skip (by omega)] | rw [find_hi (by omega) (by rfl)])); exact entC_find hk⟩ hj rfl) (injO hj) ?_)
      | (refine CallK.intsE (R := [(21, some 21)]) hN2 (by kernel_rfl) rfl (by simp [V.wf, A.wf, C.wf]) (HasC.roO1 ⟨rfl, fun k hk => by (repeat (first | rw [find_skip (by omega)] | rw [find_hi (by omega) (by rfl)])); exact entC_find hk⟩ hj rfl rfl) (injO1 hj) ?_)
      | (refine CallK.val (R := [(0, some 32), (1, some 33)]) hm1 (by kernel_rfl) rfl (by simp [V.wf, A.wf, C.wf]) ⟨⟨by simp only; omega, wf_ints _ _, _, _, rfl, .inl rfl, ren_ints _ _⟩, ⟨by simp only; omega, wf_ints _ _, _, _, rfl, .inl rfl, ren_ints _ _⟩, trivial⟩ rfl rfl trivial ?_)
      | (refine CallK.val (R := [(0, some 34), (1, some 35)]) hm2 (by kernel_rfl) rfl (by simp [V.wf, A.wf, C.wf]) ⟨⟨by simp only; omega, wf_ints _ _, _, _, rfl, .inl rfl, ren_ints _ _⟩, ⟨by simp only; omega, wf_ints _ _, _, _, rfl, .inl rfl, ren_ints _ _⟩, trivial⟩ rfl rfl trivial ?_)
      | (refine bs_t rfl ?_)
      | (refine br_t rfl ?_)
      | (refine sane_k ?_)
      | (refine bs_bt (Eq.refl true) ?_)
      | (refine bs_bf (Eq.refl false) ?_)
      | (refine br_bt (Eq.refl true) ?_)
      | (refine br_bf (Eq.refl false) ?_)
      | (refine CallK.m ?_)
      | (refine And.intro (And.intro rfl rfl) ?_))
  intro ρ; rfl
end Go.Proofs.Ytjijjncddjkdlaa

/- The law of the next order: what comes in. -/
namespace Go.Proofs.Ytjijjncddjkdlaa
open Go.RowKit
set_option linter.unusedVariables false
set_option linter.unusedSimpArgs false
open Go.ChangeShapes Go.WideShapes Go.ChangeAt Go.RowKit Go.Deep Go.Joins
section
variable {H : Type} {enc : TypeId × Value → H} {W : World} {sp : Nat → Bool}
theorem open_ints35C {n : Nat} {v : Value} {x : DataW H × List MemPlace} (h : DataW.trod enc Try.prog W 0 sp true n 35 [v] = some x) :
    ∃ (ao : Option Addr) (c : Nat) (l : List Int), v = .slice ao l.length c ∧ (RoAt W ao (l.map (Value.int .i64)) ∧ l.length ≤ c) ∧ l.length < 9223372036854775808 := by
  rcases open_slice1 Try.underlying35 (by kernel_rfl) h with ⟨hcs, _⟩ | ⟨a, len, cap, m, f, V, D, Pl, hcs, _, hl, hmax, hm, _, hx⟩
  · cases hcs
    exact ⟨none, 0, [], rfl, ⟨fun hne => absurd rfl hne, by simp⟩, by simp⟩
  · cases hcs
    have hlm : len ≤ m := by rw [hm]; split <;> omega
    have hlen : len < 9223372036854775808 := by unfold maxLen at hmax; omega
    obtain ⟨b, hb⟩ := choose_lt (α := Int) (n := len) (p := fun i b => V i = .int .i64 b) (fun i hi => by
      obtain ⟨b, hb, _, hw⟩ := DataW.trod_int Try.underlying3 (hx i (by omega)).2
      exact ⟨b, by simpa using hb⟩)
    refine ⟨some a, cap, (List.range len).map b, by simp, ⟨ro_at (fun i hi => ?_), by simpa using hl⟩, by simpa using hlen⟩
    have hi' : i < len := by simpa using hi
    rw [(hx i (by omega)).1, hb i hi']
    simp [List.getD_eq_getElem?_getD, hi']
set_option maxRecDepth 100000 in
theorem open_intsC {v : Value} {d : DataW H} {p : List MemPlace} {r : Reach} {b0 : Nat} (hv : Value.okWide Try.prog W r b0 35 v) (h : DataW.Trod enc Try.prog W 0 sp true 35 v d p) :
    ∃ (po : Option Addr) (pc : Nat) (l : List Int), v = .slice po l.length pc ∧ (RoAt W po (l.map (Value.int .i64)) ∧ l.length ≤ pc) ∧ l.length < 9223372036854775808 := by
  obtain ⟨fuel, hf⟩ := h
  obtain ⟨ao, n, cp, rfl⟩ := okWide_slice Try.underlying35 hv
  simp only [Value.cells] at hf
  exact open_ints35C hf
end
theorem hp_order1 {W : World} {ao : Option Addr} {c : Nat} {j : Coast} {bs : Nat → Option Addr × Nat} (h : CoastAt W ao c j bs) (hj : Sized j) {o : List Int} {po : Option Addr} {pc : Nat} (ho : RoAt W po (o.map (Value.int .i64)) ∧ o.length ≤ pc) : Hp W.heap.size (coastE 21 ao c bs po pc) W (⟨0, .ro 1, slsC 1 j⟩ :: ⟨21, .ro 1, o.map C.i⟩ :: entC 1 j) 32 := by
  refine Hp.rosz (fun e he => ?_) (injO1 hj)
  rcases List.mem_cons.1 he with rfl | he
  · exact hp_ent h hj.len po pc _ (by simp)
  rcases List.mem_cons.1 he with rfl | he
  · refine ⟨⟨1, rfl, .inr ?_⟩, by simp only; omega, wf_ints _ _, ?_⟩
    · simp only [List.length_map]
      show o.length ≤ pc * 1
      have := ho.2; omega
    · rw [List.map_map]
      exact ho.1
  · exact hp_ent h hj.len po pc _ (by simp [he])
theorem swaps_any (j : Coast) (o : List Int) (at' : Int) (ao : Option Addr) (c : Nat) (bs : Nat → Option Addr × Nat) (po : Option Addr) (pc : Nat) (w : World) (h : CoastAt w ao c j bs) (ho : RoAt w po (o.map (Value.int .i64)) ∧ o.length ≤ pc) (hat : -9223372036854775808 ≤ at' ∧ at' ≤ 9223372036854775807) :
    Calls Try.prog 10 #[.slice ao j.length c, .slice po o.length pc, .int .i64 at'] w fun e w' => e = .returned (.bool true) ∧ Below w.heap.size w w' := by
  by_cases hl : longB j = true ∨ 200 < o.length
  · refine isTrue_any (vs := [V.c (.sl 0 j.length), V.c (.sl (j.length + 31) o.length), V.i at']) (swaps_long j o at' h.lt hl) (hp_long h po pc) (by simp [V.wf, A.wf, C.wf, V.i]) ?_
    simp [V.den, A.den, C.den, C.i, V.i, coastE]
  · have h1 : longB j = false := by simpa using fun e => hl (.inl e)
    exact isTrue_any (vs := [V.c (.sl 0 j.length), V.c (.sl 21 o.length), V.i at']) (swaps_spec j o at' (longB_sized h1) h1 (by omega) hat) (hp_order1 h (longB_sized h1) ho) (by simp [V.wf, A.wf, C.wf, V.i]) rfl
end Go.Proofs.Ytjijjncddjkdlaa

