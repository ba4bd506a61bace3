/- Texts of the proof, part 5: N9, N10, N11, V7, N12, N13, V8, N14, V10, N15, L3, L12. -/
import Derived.Test.YtjijjncddjkdlaaI4
import Derived.WalkKit
import Derived.Below
import Derived.Laws.OwnMore
import Derived.Maps.AppendAt
import Derived.Laws.IdiomCopy
import Derived.Laws.CopyRow
import Derived.IntWalk
import Derived.StillTail
import Derived.Scope
import Derived.ChangeKeysEq
import Derived.Laws.Small
import Derived.OrdersIn
import Derived.TacticsIn
import Derived.OwnWalkIn
import Derived.RangeFuncNested
import Derived.RangeFuncLeaves
import Derived.RangeFuncRecord
import Derived.Maps.Keyed
import Derived.Maps.RangeRun
import Derived.DeepKeys4
import Derived.Test.YtjijjncddjkdlaaRows
import Derived.KernelRfl
import Derived.ProofKit
import Derived.OpenShut
import Derived.Lib.SmallJoins
import Derived.Deep.Slices
import Derived.PlainAid
import Derived.StillTailTactics
import Derived.WalkSpells
import Derived.OwnWalk
/- Shore: Next where there is no next order, and its errors. -/
namespace Go.Proofs.Ytjijjncddjkdlaa
open Go.RowKit
set_option linter.unusedVariables false
set_option linter.unusedSimpArgs false
set_option maxHeartbeats 1000000 in
set_option maxRecDepth 100000 in
theorem next_none (j : Coast) (o : List Int) (hj : Sized j) (ho : o.length ≤ 200) (hv : validL j = true) (hi : isOrdB j o = true) (hp : NoPiv o) :
    Spec Try.prog 47 [V.c (.sl 0 j.length), V.c (.sl 21 o.length)] (⟨0, .ro 1, slsC 1 j⟩ :: ⟨21, .ro 0, o.map C.i⟩ :: entC 1 j) 32 (fun v L' _ => intsX [] 5 v L') := by
  have hj20 := hj.len
  have hlen := slsC_len (b := 1) (j := j)
  have hO := hasO0 (o := o) hj
  have hom : (o.map C.i).length = o.length := by simp
  refine Spec.of tok Try.func47 rfl rfl rfl fun n0 cx => vc_ok tok ?_
  repeat ((conv => whnf); first | (refine And.intro (by first | omega | exact Nat.le_of_ble_eq_true rfl | (dsimp only [inK]; omega) | (simp only [mulS_eq]; omega) | (simp only [mulS_eq, setL_length]; omega) | (simp only [setL_length, List.length_map]; omega) | exact ⟨by omega, by omega, by first | exact Nat.le_of_ble_eq_true rfl | (dsimp only; omega) | (simp only [setL_length]; omega) | (simp only [setL_length, List.length_map]; omega)⟩ | exact ⟨by omega, by first | rfl | omega, by omega, Nat.le_of_ble_eq_true rfl, Nat.le_of_ble_eq_true rfl⟩ | exact ⟨rfl, rfl, rfl, Nat.le_of_ble_eq_true rfl, by first | rfl | omega | exact Nat.le_of_ble_eq_true rfl | (dsimp only; omega) | (simp; done) | (simp; omega), by first | rfl | omega | exact Nat.le_of_ble_eq_true rfl | (dsimp only; omega) | (simp; done) | (simp; omega), by omega, Nat.le_of_ble_eq_true rfl⟩ | exact Eq.refl true) ?_) | (refine Exists.intro _ (And.intro rfl ?_)) | (refine And.intro (And.intro rfl (chk_rowI _ _ _ _)) ?_) | (refine br_t (by omega) ?_) | (refine br_f (by omega) ?_) | (refine bs_t (by omega) ?_) | (refine bs_f (by omega) ?_) | (refine fun (K' : K3) hK' => ?_) | (refine hK' _ _ _ ?_; clear hK' K') | (refine CallM.eq (by kernel_rfl) (ordered_spec j o hj ho _ _ hO) ?_) | (refine draw_auto tok mixed (by kernel_rfl) ?_) | (rw [hv]) | (rw [hi]) | (refine clone_k (by omega) rfl ?_) | (with_reducible refine updK_ent (by omega) ?_) | (refine bs_bt (Eq.refl true) ?_) | (refine bs_bf (Eq.refl false) ?_) | (refine br_bt (Eq.refl true) ?_) | (refine br_bf (Eq.refl false) ?_) | (refine CallK.m ?_) | (refine Two.l ?_) | (refine And.intro (And.intro rfl rfl) ?_))
  refine Tri.loop (γ := Nat) (fun q => q ≤ o.length) (fun _ => [(8, V.c (.ptr 33 0)), (9, V.c (.ptr 34 0))])
    (fun q => ⟨34, .own 3, [C.i ((q : Int) - 2)]⟩ :: ⟨33, .own 35, [.sl 32 o.length]⟩ :: ⟨32, .vec 3 1, o.map C.i⟩ :: ⟨0, .ro 1, slsC 1 j⟩ :: ⟨21, .ro 0, o.map C.i⟩ :: entC 1 j) 35 (fun q => q) o.length (R0 := []) ?_ ?_ ?_
  · exact Nat.le_refl _
  · skip
    refine ⟨?_, ?_, injB_ent (p := [_, _, _, _, _]) (by omega) rfl rfl, rfl, by first | exact Nat.le_of_ble_eq_true rfl | exact Nat.le_refl _ | omega⟩
    · repeat (first | exact trivial | refine And.intro (covS_syn (by first | rfl | (refine congrArg some (congrArg V.i ?_); omega)) rfl (by first | exact trivial | exact Nat.le_of_ble_eq_true rfl | exact hy | exact (fun p hp => nomatch hp) | (show (_ : Nat) < _; omega))) ?_ | refine And.intro (covS_bool rfl rfl (by first | rfl)) ?_)
    · repeat (first | exact trivial | (exact covL_ent (by omega) (fun k hk => by (try simp only [flatN]); (repeat (first | rw [find_skip (by omega)] | rw [find_hi (by omega) (by rfl)])))) | refine And.intro (covE_id (Nat.le_of_ble_eq_true rfl) (by first | exact wf_ints _ _ | exact wf_bools _ _ | first | exact wf_sls _ _ _ (by omega) | exact wf_jobs _ _ | simp [C.wf]) rfl (by first | rfl | ((refine congrArg (fun z => [C.i z]) ?_; omega)))) ?_)
  · intro q hq
    refine vc_ok tok ?_
    by_cases hq2 : q < 2
    · repeat ((conv => whnf); first | (refine And.intro (by first | omega | exact Nat.le_of_ble_eq_true rfl | (dsimp only [inK]; omega) | (simp only [mulS_eq]; omega) | (simp only [mulS_eq, setL_length]; omega) | (simp only [setL_length, List.length_map]; omega) | exact ⟨by omega, by omega, by first | exact Nat.le_of_ble_eq_true rfl | (dsimp only; omega) | (simp only [setL_length]; omega) | (simp only [setL_length, List.length_map]; omega)⟩ | exact ⟨by omega, by first | rfl | omega, by omega, Nat.le_of_ble_eq_true rfl, Nat.le_of_ble_eq_true rfl⟩ | exact ⟨rfl, rfl, rfl, Nat.le_of_ble_eq_true rfl, by first | rfl | omega | exact Nat.le_of_ble_eq_true rfl | (dsimp only; omega) | (simp; done) | (simp; omega), by first | rfl | omega | exact Nat.le_of_ble_eq_true rfl | (dsimp only; omega) | (simp; done) | (simp; omega), by omega, Nat.le_of_ble_eq_true rfl⟩ | exact Eq.refl true) ?_) | (refine Exists.intro _ (And.intro rfl ?_)) | (refine And.intro (And.intro rfl (chk_rowI _ _ _ _)) ?_) | (refine br_t (by omega) ?_) | (refine br_f (by omega) ?_) | (refine bs_t (by omega) ?_) | (refine bs_f (by omega) ?_) | (refine fun (K' : K3) hK' => ?_) | (refine hK' _ _ _ ?_; clear hK' K') | (refine draw_auto tok mixed (by kernel_rfl) ?_) | (refine bs_f (show ¬ (0 ≤ (q : Int) - 2) by omega) ?_) | (refine br_t (show (q : Int) - 2 < 0 by omega) ?_) | (refine bs_bt (Eq.refl true) ?_) | (refine bs_bf (Eq.refl false) ?_) | (refine br_bt (Eq.refl true) ?_) | (refine br_bf (Eq.refl false) ?_) | (refine CallK.m ?_) | (refine Two.l ?_) | (refine And.intro (And.intro rfl rfl) ?_))
      exact .inl ⟨rfl, rfl⟩
    · have hge := hp (q - 2) (by omega)
      repeat ((conv => whnf); first | (refine And.intro (by first | omega | exact Nat.le_of_ble_eq_true rfl | (dsimp only [inK]; omega) | (simp only [mulS_eq]; omega) | (simp only [mulS_eq, setL_length]; omega) | (simp only [setL_length, List.length_map]; omega) | exact ⟨by omega, by omega, by first | exact Nat.le_of_ble_eq_true rfl | (dsimp only; omega) | (simp only [setL_length]; omega) | (simp only [setL_length, List.length_map]; omega)⟩ | exact ⟨by omega, by first | rfl | omega, by omega, Nat.le_of_ble_eq_true rfl, Nat.le_of_ble_eq_true rfl⟩ | exact ⟨rfl, rfl, rfl, Nat.le_of_ble_eq_true rfl, by first | rfl | omega | exact Nat.le_of_ble_eq_true rfl | (dsimp only; omega) | (simp; done) | (simp; omega), by first | rfl | omega | exact Nat.le_of_ble_eq_true rfl | (dsimp only; omega) | (simp; done) | (simp; omega), by omega, Nat.le_of_ble_eq_true rfl⟩ | exact Eq.refl true) ?_) | (with_reducible refine ld (intLz (k := q - 2) (by omega) (by omega)) ?_) | (with_reducible refine ld (intLz (k := q - 2 + 1) (by omega) (by omega)) ?_) | (refine Exists.intro _ (And.intro rfl ?_)) | (refine And.intro (And.intro rfl (chk_rowI _ _ _ _)) ?_) | (refine br_t (by omega) ?_) | (refine br_f (by omega) ?_) | (refine bs_t (by omega) ?_) | (refine bs_f (by omega) ?_) | (refine fun (K' : K3) hK' => ?_) | (refine hK' _ _ _ ?_; clear hK' K') | (refine draw_auto tok mixed (by kernel_rfl) ?_) | (with_reducible refine updK_ent (by omega) ?_) | (refine bs_bt (Eq.refl true) ?_) | (refine bs_bf (Eq.refl false) ?_) | (refine br_bt (Eq.refl true) ?_) | (refine br_bf (Eq.refl false) ?_) | (refine CallK.m ?_) | (refine Two.l ?_) | (refine And.intro (And.intro rfl rfl) ?_))
      refine ⟨q - 1, [], by omega, by omega, ?_⟩
      refine ⟨?_, ?_, injB_ent (p := [_, _, _, _, _]) (by omega) rfl rfl, rfl, by first | exact Nat.le_of_ble_eq_true rfl | exact Nat.le_refl _ | omega⟩
      · repeat (first | exact trivial | refine And.intro (covS_syn (by first | rfl | (refine congrArg some (congrArg V.i ?_); omega)) rfl (by first | exact trivial | exact Nat.le_of_ble_eq_true rfl | exact hy | exact (fun p hp => nomatch hp) | (show (_ : Nat) < _; omega))) ?_ | refine And.intro (covS_bool rfl rfl (by first | rfl)) ?_)
      · repeat (first | exact trivial | (exact covL_ent (by omega) (fun k hk => by (try simp only [flatN]); (repeat (first | rw [find_skip (by omega)] | rw [find_hi (by omega) (by rfl)])))) | refine And.intro (covE_id (Nat.le_of_ble_eq_true rfl) (by first | exact wf_ints _ _ | exact wf_bools _ _ | first | exact wf_sls _ _ _ (by omega) | exact wf_jobs _ _ | simp [C.wf]) rfl (by first | rfl | ((refine congrArg (fun z => [C.i z]) ?_; omega)))) ?_)
end Go.Proofs.Ytjijjncddjkdlaa

/- Shore: the reference's sorted. -/
namespace Go.Proofs.Ytjijjncddjkdlaa
open Go.RowKit
set_option linter.unusedVariables false
set_option linter.unusedSimpArgs false
/-- The numbers v among the first i of a part. -/
def cntI (ls : List Int) (o : Nat) (v : Nat) : Nat → List Int
  | 0 => []
  | i + 1 => cntI ls o v i ++ (if ls.getD (o + i) 0 = v then [(v : Int)] else [])
/-- A part's numbers below v, in order. -/
def srtV (ls : List Int) (o n : Nat) : Nat → List Int
  | 0 => []
  | v + 1 => srtV ls o n v ++ cntI ls o v n
end Go.Proofs.Ytjijjncddjkdlaa

/- Shore: the reference's Swap. -/
namespace Go.Proofs.Ytjijjncddjkdlaa
open Go.RowKit
set_option linter.unusedVariables false
set_option linter.unusedSimpArgs false
end Go.Proofs.Ytjijjncddjkdlaa

/- The order that comes next. Plain law. -/
namespace Go.Proofs.Ytjijjncddjkdlaa
open Go.RowKit
set_option linter.unusedVariables false
set_option linter.unusedSimpArgs false
theorem piv_or (o : List Int) : NoPiv o ∨ ∃ k, PivAt o k := by
  have key : ∀ n, (∀ m, n ≤ m → m + 1 < o.length → o.getD m 0 ≥ o.getD (m + 1) 0) → NoPiv o ∨ ∃ k, PivAt o k := by
    intro n
    induction n with
    | zero => intro h; exact .inl fun m hm => h m (by omega) hm
    | succ n ih =>
      intro h
      by_cases hn : n + 1 < o.length ∧ o.getD n 0 < o.getD (n + 1) 0
      · exact .inr ⟨n, hn.1, hn.2, fun m hm h2 => h m (by omega) h2⟩
      · refine ih fun m hm h2 => ?_
        by_cases hmn : m = n
        · subst hmn; omega
        · exact h m (by omega) h2
  exact key o.length fun m hm h => by omega
theorem last_ex {o : List Int} {k : Nat} (hp : PivAt o k) : ∃ i, LastAt o k i := by
  have key : ∀ n, k + 1 ≤ n → n ≤ o.length → (∀ m, n ≤ m → m < o.length → ¬ o.getD k 0 < o.getD m 0) → ∃ i, LastAt o k i := by
    intro n
    induction n with
    | zero => intro h; omega
    | succ n ih =>
      intro h1 h2 h3
      by_cases hn : o.getD k 0 < o.getD n 0
      · by_cases hkn : k < n
        · exact ⟨n, hkn, by omega, hn, fun m hm h => h3 m (by omega) h⟩
        · have : n = k := by omega
          subst this; omega
      · by_cases hkn : n = k
        · exact absurd hp.up (h3 (k + 1) (by omega) hp.lt)
        · refine ih (by omega) (by omega) fun m hm h => ?_
          by_cases hmn : m = n
          · subst hmn; exact hn
          · exact h3 m (by omega) h
  exact key o.length (by have := hp.lt; omega) (Nat.le_refl _) (fun m hm h => by omega)
/-- Behind the place, the numbers never rise. -/
theorem piv_desc {o : List Int} {k : Nat} (hp : PivAt o k) {a : Nat} (ha : k < a) : ∀ {b : Nat}, a ≤ b → b < o.length → o.getD b 0 ≤ o.getD a 0 := by
  intro b
  induction b with
  | zero => intro h; omega
  | succ b ih =>
    intro h1 h2
    by_cases hab : a = b + 1
    · subst hab; exact Int.le_refl _
    · have := ih (by omega) (by omega)
      have := hp.rest b (by omega) h2
      omega
theorem revX_tail {α : Type} (l : List α) (d : α) (a : Nat) (ha : a ≤ l.length) : revX l d a (l.length - a) (l.length - a) = l.take a ++ (l.drop a).reverse := by
  refine ext_getD d (by rw [revX_len]; simp; omega) (fun j hj => ?_)
  rw [revX_len] at hj
  rw [revX_get hj]
  by_cases h : j < a
  · rw [if_neg (by omega)]
    simp only [List.getD_eq_getElem?_getD]
    rw [List.getElem?_append_left (by simp; omega), List.getElem?_take, if_pos h]
  · rw [if_pos (by omega)]
    simp only [List.getD_eq_getElem?_getD]
    rw [List.getElem?_append_right (by simp; omega), List.getElem?_reverse (by simp; omega), List.getElem?_drop]
    congr 2
    simp only [List.length_take, List.length_drop]
    omega
/-- The numbers behind the place, turned, with one exchanged. -/
def swK (o : List Int) (k i : Nat) : List Int := (o.set k (o.getD i 0)).set i (o.getD k 0)
theorem swK_len {o : List Int} {k i : Nat} : (swK o k i).length = o.length := by simp [swK]
theorem swK_get {o : List Int} {k i x : Nat} (hk : k < o.length) (hi : i < o.length) : (swK o k i).getD x 0 = if x = i then o.getD k 0 else if x = k then o.getD i 0 else o.getD x 0 := by
  unfold swK
  rw [getD_setX _ _ _ _ _ (by rw [List.length_set]; exact hi)]
  split
  · rfl
  · rw [getD_setX _ _ _ _ _ hk]
theorem nextR_eq {o : List Int} {k i : Nat} (hp : PivAt o k) (hl : LastAt o k i) : nextR o k i = o.take k ++ [o.getD i 0] ++ ((swK o k i).drop (k + 1)).reverse := by
  have hk := hp.lt
  have h1 := hl.gt
  have h2 := hl.lt
  unfold nextR
  have e := revX_tail (swK o k i) 0 (k + 1) (by rw [swK_len]; omega)
  rw [swK_len] at e
  show revX (swK o k i) 0 (k + 1) (o.length - (k + 1)) (o.length - (k + 1)) = _
  rw [e]
  congr 1
  rw [take_succ_getD (d := 0) (by rw [swK_len]; omega), swK_get (by omega) h2, if_neg (by omega), if_pos rfl]
  congr 1
  unfold swK
  rw [List.take_set_of_le (by omega), List.take_set_of_le (Nat.le_refl _)]
theorem swK_desc {o : List Int} {k i : Nat} (hp : PivAt o k) (hl : LastAt o k i) {a b : Nat} (ha : k < a) (hab : a ≤ b) (hb : b < o.length) : (swK o k i).getD b 0 ≤ (swK o k i).getD a 0 := by
  have hk := hp.lt
  have h1 := hl.gt
  have h2 := hl.lt
  have h3 := hl.up
  rw [swK_get (by omega) h2, swK_get (by omega) h2, if_neg (show b ≠ k by omega), if_neg (show a ≠ k by omega)]
  by_cases hbi : b = i
  · subst hbi
    rw [if_pos rfl]
    by_cases hai : a = b
    · subst hai; rw [if_pos rfl]; exact Int.le_refl _
    · rw [if_neg hai]
      have := piv_desc hp ha hab hb
      omega
  · rw [if_neg hbi]
    by_cases hai : a = i
    · subst hai
      rw [if_pos rfl]
      have := hl.rest b (by omega) hb
      omega
    · rw [if_neg hai]; exact piv_desc hp ha hab hb
theorem tail_asc {o : List Int} {k i : Nat} (hp : PivAt o k) (hl : LastAt o k i) : (((swK o k i).drop (k + 1)).reverse).Pairwise (· ≤ ·) := by
  rw [List.pairwise_reverse, List.pairwise_iff_getElem]
  intro a b ha hb hab
  rw [List.length_drop, swK_len] at ha hb
  have := swK_desc hp hl (a := k + 1 + a) (b := k + 1 + b) (by omega) (by omega) (by omega)
  rw [getD_lt (by rw [swK_len]; omega), getD_lt (by rw [swK_len]; omega)] at this
  rw [List.getElem_drop, List.getElem_drop]
  exact this
/-- What the reference answers: the place, the first of the least greater numbers behind it, and the rest in order. -/
structure LeastAt (o : List Int) (k l : Nat) : Prop where
  gt : k < l
  lt : l < o.length
  up : o.getD k 0 < o.getD l 0
  least : ∀ m, k < m → m < o.length → o.getD k 0 < o.getD m 0 → o.getD l 0 ≤ o.getD m 0
/-- Numbers below six, in order. -/
def sortL (l : List Int) : List Int := ((List.range 6).map fun (n : Nat) => List.replicate (l.count (n : Int)) (n : Int)).flatten
def nextRef (o : List Int) (k l : Nat) : List Int := o.take k ++ [o.getD l 0] ++ sortL (((o.drop k).set (l - k) (o.getD k 0)).drop 1)
end Go.Proofs.Ytjijjncddjkdlaa

/- Shore: the reference's Next. -/
namespace Go.Proofs.Ytjijjncddjkdlaa
open Go.RowKit
set_option linter.unusedVariables false
set_option linter.unusedSimpArgs false
/-- The place of the least greater number among the i behind place k, or -1. -/
def lsF (o : List Int) (k : Nat) : Nat → Int
  | 0 => -1
  | i + 1 => if o.getD k 0 < o.getD (k + 1 + i) 0 ∧ (lsF o k i < 0 ∨ o.getD (k + 1 + i) 0 < o.getD (lsF o k i).toNat 0) then ((k + 1 + i : Nat) : Int) else lsF o k i
end Go.Proofs.Ytjijjncddjkdlaa

/- Shore: the reference's Next where a next order is. -/
namespace Go.Proofs.Ytjijjncddjkdlaa
open Go.RowKit
set_option linter.unusedVariables false
set_option linter.unusedSimpArgs false
/-- What stays behind the place, before it is put in order. -/
def leftF (o : List Int) (k l : Nat) : List Int := (o.drop k).set (l - k) (o.getD k 0)
def rnextF (o : List Int) (k l : Nat) : List Int := o.take k ++ [o.getD l 0] ++ srtV (leftF o k l) 1 (o.length - k - 1) 6
/-- The cells of the part behind a place, copied. -/
def LC (o : List Int) (a : Nat) : List C := repC 0 [C.i 0] ++ ((((o.map C.i).drop (((a : Nat) : Int).toNat * (0 + 1))).take ((o.length - ((a : Nat) : Int).toNat) * (0 + 1))).take ((o.length - ((a : Nat) : Int).toNat) * 1))
end Go.Proofs.Ytjijjncddjkdlaa

/- The order that comes next: both answers are the same. Plain law. -/
namespace Go.Proofs.Ytjijjncddjkdlaa
open Go.RowKit
set_option linter.unusedVariables false
set_option linter.unusedSimpArgs false
end Go.Proofs.Ytjijjncddjkdlaa

/- Shore: the reference's First. -/
namespace Go.Proofs.Ytjijjncddjkdlaa
open Go.RowKit
set_option linter.unusedVariables false
set_option linter.unusedSimpArgs false
/-- The first order: beach by beach. -/
def firstL (j : Coast) : Nat → List Int
  | 0 => []
  | b + 1 => firstL j b ++ List.replicate (j.getD b []).length (b : Int)
theorem firstL_len {j : Coast} (hl : ∀ b, b < j.length → (j.getD b []).length ≤ 100) : ∀ {b : Nat}, b ≤ j.length → (firstL j b).length ≤ 100 * b
  | 0, _ => Nat.le_refl _
  | b + 1, h => by
    have := firstL_len hl (b := b) (by omega)
    have := hl b (by omega)
    simp only [firstL, List.length_append, List.length_replicate]; omega
theorem first_row {a : List Int} {i : Nat} {z : Int} : (a ++ List.replicate (i + 1) z).map C.i = (a ++ List.replicate i z).map C.i ++ [C.i z] := by
  rw [List.replicate_succ', ← List.append_assoc, List.map_append]; rfl
theorem first_len {a : List Int} {i : Nat} {z : Int} : (a ++ List.replicate (i + 1) z).length = (a ++ List.replicate i z).length + 1 := by
  simp only [List.length_append, List.length_replicate]; omega
set_option maxHeartbeats 1000000 in
set_option maxRecDepth 100000 in
theorem first_spec (j : Coast) (hj : Sized j) (hl : ∀ b, b < j.length → (j.getD b []).length ≤ 100) : Spec Try.prog 49 [V.c (.sl 0 j.length)] (⟨0, .ro 1, slsC 1 j⟩ :: entC 1 j) 32 (fun v L' _ => intsR (firstL j j.length) v L') := by
  have hj20 := hj.len
  have hsl := slsC_len (b := 1) (j := j)
  refine Spec.of tok Try.func49 rfl rfl rfl fun n0 cx => vc_ok tok ?_
  repeat ((conv => whnf); first | (refine And.intro (by first | omega | exact Nat.le_of_ble_eq_true rfl | (dsimp only [inK]; omega) | (simp only [mulS_eq]; omega) | (simp only [mulS_eq, setL_length]; omega) | (simp only [setL_length, List.length_map]; omega) | exact ⟨by omega, by omega, by first | exact Nat.le_of_ble_eq_true rfl | (dsimp only; omega) | (simp only [setL_length]; omega) | (simp only [setL_length, List.length_map]; omega)⟩ | exact ⟨by omega, by first | rfl | omega, by omega, Nat.le_of_ble_eq_true rfl, Nat.le_of_ble_eq_true rfl⟩ | exact ⟨rfl, rfl, rfl, Nat.le_of_ble_eq_true rfl, by first | rfl | omega | exact Nat.le_of_ble_eq_true rfl | (dsimp only; omega) | (simp; done) | (simp; omega), by first | rfl | omega | exact Nat.le_of_ble_eq_true rfl | (dsimp only; omega) | (simp; done) | (simp; omega), by omega, Nat.le_of_ble_eq_true rfl⟩ | exact Eq.refl true) ?_) | (refine Exists.intro _ (And.intro rfl ?_)) | (refine And.intro (And.intro rfl (chk_rowI _ _ _ _)) ?_) | (refine br_t (by omega) ?_) | (refine br_f (by omega) ?_) | (refine bs_t (by omega) ?_) | (refine bs_f (by omega) ?_) | (refine fun (K' : K3) hK' => ?_) | (refine hK' _ _ _ ?_; clear hK' K') | (refine draw_auto tok mixed (by kernel_rfl) ?_) | (refine bs_bt (Eq.refl true) ?_) | (refine bs_bf (Eq.refl false) ?_) | (refine br_bt (Eq.refl true) ?_) | (refine br_bf (Eq.refl false) ?_) | (refine CallK.m ?_) | (refine Two.l ?_) | (refine And.intro (And.intro rfl rfl) ?_))
  refine Tri.loop (γ := Nat) (fun b => b ≤ j.length) (fun b => [(0, V.c (.sl 0 j.length)), (3, V.c (.sl 32 (firstL j b).length)), (4, V.i (b : Nat))])
    (fun b => ⟨32, .vec 3 1, (firstL j b).map C.i⟩ :: ⟨0, .ro 1, slsC 1 j⟩ :: entC 1 j) 33 (fun b => j.length - b) 0 (R0 := [(32, none)]) ?_ ?_ ?_
  · omega
  · skip
    refine ⟨?_, ?_, injB_entR (p := [_, _]) rfl (by omega) rfl rfl, rfl, by first | exact Nat.le_of_ble_eq_true rfl | exact Nat.le_refl _ | omega⟩
    · repeat (first | exact trivial | refine And.intro (covS_syn (by first | rfl) rfl (by first | exact trivial | exact Nat.le_of_ble_eq_true rfl | exact hy | exact (fun p hp => nomatch hp) | (show (_ : Nat) < _; omega))) ?_ | refine And.intro (covS_bool rfl rfl (by first | rfl)) ?_)
    · repeat (first | exact trivial | (exact covL_entR rfl (by omega) (by omega) (fun k hk => by (try simp only [flatN]); (repeat (first | rw [find_skip (by omega)] | rw [find_hi (by omega) (by rfl)])))) | (refine And.intro (covE_some rfl (Nat.le_of_ble_eq_true rfl) (wf_sls _ _ _ (by omega)) rfl (ren_sls rfl (by omega))) ?_) | refine And.intro (covE_nil rfl (Nat.le_of_ble_eq_true rfl) rfl rfl) ?_ | refine And.intro (covE_some rfl (Nat.le_of_ble_eq_true rfl) (by first | exact wf_ints _ _ | exact wf_bools _ _ | first | exact wf_sls _ _ _ (by omega) | exact wf_jobs _ _ | simp [C.wf]) rfl (by first | exact ren_ints _ _ | exact ren_bools _ _ | exact ren_shares _ _ | (refine (ren_ints _ _).trans (congrArg some ?_); fail) | rfl)) ?_)
  · rintro b hb
    refine vc_ok tok ?_
    have hfl := firstL_len hl hb
    by_cases hbl : b < j.length
    · have hn := hl b hbl
      repeat ((conv => whnf); first | (refine And.intro (by first | omega | exact Nat.le_of_ble_eq_true rfl | (dsimp only [inK]; omega) | (simp only [mulS_eq]; omega) | (simp only [mulS_eq, setL_length]; omega) | (simp only [setL_length, List.length_map]; omega) | exact ⟨by omega, by omega, by first | exact Nat.le_of_ble_eq_true rfl | (dsimp only; omega) | (simp only [setL_length]; omega) | (simp only [setL_length, List.length_map]; omega)⟩ | exact ⟨by omega, by first | rfl | omega, by omega, Nat.le_of_ble_eq_true rfl, Nat.le_of_ble_eq_true rfl⟩ | exact ⟨rfl, rfl, rfl, Nat.le_of_ble_eq_true rfl, by first | rfl | omega | exact Nat.le_of_ble_eq_true rfl | (dsimp only; omega) | (simp; done) | (simp; omega), by first | rfl | omega | exact Nat.le_of_ble_eq_true rfl | (dsimp only; omega) | (simp; done) | (simp; omega), by omega, Nat.le_of_ble_eq_true rfl⟩ | exact Eq.refl true) ?_) | (refine Exists.intro _ (And.intro rfl ?_)) | (refine And.intro (And.intro rfl (chk_rowI _ _ _ _)) ?_) | (refine br_t (by omega) ?_) | (refine br_f (by omega) ?_) | (refine bs_t (by omega) ?_) | (refine bs_f (by omega) ?_) | (refine fun (K' : K3) hK' => ?_) | (refine hK' _ _ _ ?_; clear hK' K') | (refine draw_auto tok mixed (by kernel_rfl) ?_) | (refine bs_bt (Eq.refl true) ?_) | (refine bs_bf (Eq.refl false) ?_) | (refine br_bt (Eq.refl true) ?_) | (refine br_bf (Eq.refl false) ?_) | (refine CallK.m ?_) | (refine Two.l ?_) | (refine And.intro (And.intro rfl rfl) ?_))
      refine Tri.loop (γ := Nat) (fun i => i ≤ (j.getD b []).length) (fun i => [(0, V.c (.sl 0 j.length)), (3, V.c (.sl 32 (firstL j b ++ List.replicate i (b : Int)).length)), (4, V.i (b : Nat)), (5, V.i (i : Nat))])
        (fun i => ⟨32, .vec 3 1, (firstL j b ++ List.replicate i (b : Int)).map C.i⟩ :: ⟨0, .ro 1, slsC 1 j⟩ :: entC 1 j) 33 (fun i => (j.getD b []).length - i) 0 (R0 := []) ?_ ?_ ?_
      · omega
      · rw [show List.replicate 0 (b : Int) = [] from rfl, List.append_nil]
        refine ⟨?_, ?_, injB_ent (p := [_, _]) (by omega) rfl rfl, rfl, by first | exact Nat.le_of_ble_eq_true rfl | exact Nat.le_refl _ | omega⟩
        · repeat (first | exact trivial | refine And.intro (covS_syn (by first | rfl) rfl (by first | exact trivial | exact Nat.le_of_ble_eq_true rfl | exact hy | exact (fun p hp => nomatch hp) | (show (_ : Nat) < _; omega))) ?_ | refine And.intro (covS_bool rfl rfl (by first | rfl)) ?_)
        · repeat (first | exact trivial | (exact covL_ent (by omega) (fun k hk => by (try simp only [flatN]); (repeat (first | rw [find_skip (by omega)] | rw [find_hi (by omega) (by rfl)])))) | refine And.intro (covE_id (Nat.le_of_ble_eq_true rfl) (by first | exact wf_ints _ _ | exact wf_bools _ _ | first | exact wf_sls _ _ _ (by omega) | exact wf_jobs _ _ | simp [C.wf]) rfl (by first | rfl | (fail))) ?_)
      · rintro i hi
        refine vc_ok tok ?_
        have hal : (firstL j b ++ List.replicate i (b : Int)).length = (firstL j b).length + i := by simp
        by_cases hin : i < (j.getD b []).length
        · repeat ((conv => whnf); first | (refine And.intro (by first | omega | exact Nat.le_of_ble_eq_true rfl | (dsimp only [inK]; omega) | (simp only [mulS_eq]; omega) | (simp only [mulS_eq, setL_length]; omega) | (simp only [setL_length, List.length_map]; omega) | exact ⟨by omega, by omega, by first | exact Nat.le_of_ble_eq_true rfl | (dsimp only; omega) | (simp only [setL_length]; omega) | (simp only [setL_length, List.length_map]; omega)⟩ | exact ⟨by omega, by first | rfl | omega, by omega, Nat.le_of_ble_eq_true rfl, Nat.le_of_ble_eq_true rfl⟩ | exact ⟨rfl, rfl, rfl, Nat.le_of_ble_eq_true rfl, by first | rfl | omega | exact Nat.le_of_ble_eq_true rfl | (dsimp only; omega) | (simp; done) | (simp; omega), by first | rfl | omega | exact Nat.le_of_ble_eq_true rfl | (dsimp only; omega) | (simp; done) | (simp; omega), by omega, Nat.le_of_ble_eq_true rfl⟩ | exact Eq.refl true) ?_) | (with_reducible refine ld (slL hbl) ?_) | (refine Exists.intro _ (And.intro rfl ?_)) | (refine And.intro (And.intro rfl (chk_rowI _ _ _ _)) ?_) | (refine br_t (by omega) ?_) | (refine br_f (by omega) ?_) | (refine bs_t (by omega) ?_) | (refine bs_f (by omega) ?_) | (refine fun (K' : K3) hK' => ?_) | (refine hK' _ _ _ ?_; clear hK' K') | (refine draw_auto tok mixed (by kernel_rfl) ?_) | (with_reducible refine rmK_ent (by omega) ?_) | (with_reducible refine updK_ent (by omega) ?_) | (refine bs_bt (Eq.refl true) ?_) | (refine bs_bf (Eq.refl false) ?_) | (refine br_bt (Eq.refl true) ?_) | (refine br_bf (Eq.refl false) ?_) | (refine CallK.m ?_) | (refine Two.l ?_) | (refine And.intro (And.intro rfl rfl) ?_))
          refine ⟨i + 1, [(32, some 34)], by omega, by omega, ?_⟩
          rw [first_len]
          refine ⟨?_, ?_, injB_entR (p := [_, _]) rfl (by omega) rfl rfl, rfl, by first | exact Nat.le_of_ble_eq_true rfl | exact Nat.le_refl _ | omega⟩
          · repeat (first | exact trivial | refine And.intro (covS_syn (by first | rfl | (refine congrArg some (congrArg V.i ?_); omega)) rfl (by first | exact trivial | exact Nat.le_of_ble_eq_true rfl | exact hy | exact (fun p hp => nomatch hp) | (show (_ : Nat) < _; omega))) ?_ | refine And.intro (covS_bool rfl rfl (by first | rfl)) ?_)
          · repeat (first | exact trivial | (exact covL_entR rfl (by omega) (by omega) (fun k hk => by (try simp only [flatN]); (repeat (first | rw [find_skip (by omega)] | rw [find_hi (by omega) (by rfl)])))) | (refine And.intro (covE_some rfl (Nat.le_of_ble_eq_true rfl) (wf_sls _ _ _ (by omega)) rfl (ren_sls rfl (by omega))) ?_) | refine And.intro (covE_nil rfl (Nat.le_of_ble_eq_true rfl) rfl rfl) ?_ | refine And.intro (covE_some rfl (Nat.le_of_ble_eq_true rfl) (by first | exact wf_ints _ _ | exact wf_bools _ _ | first | exact wf_sls _ _ _ (by omega) | exact wf_jobs _ _ | simp [C.wf]) rfl (by first | exact ren_ints _ _ | exact ren_bools _ _ | exact ren_shares _ _ | (refine (ren_ints _ _).trans (congrArg some ?_); exact first_row) | rfl)) ?_)
        · have hie : i = (j.getD b []).length := by omega
          subst hie
          repeat ((conv => whnf); first | (refine And.intro (by first | omega | exact Nat.le_of_ble_eq_true rfl | (dsimp only [inK]; omega) | (simp only [mulS_eq]; omega) | (simp only [mulS_eq, setL_length]; omega) | (simp only [setL_length, List.length_map]; omega) | exact ⟨by omega, by omega, by first | exact Nat.le_of_ble_eq_true rfl | (dsimp only; omega) | (simp only [setL_length]; omega) | (simp only [setL_length, List.length_map]; omega)⟩ | exact ⟨by omega, by first | rfl | omega, by omega, Nat.le_of_ble_eq_true rfl, Nat.le_of_ble_eq_true rfl⟩ | exact ⟨rfl, rfl, rfl, Nat.le_of_ble_eq_true rfl, by first | rfl | omega | exact Nat.le_of_ble_eq_true rfl | (dsimp only; omega) | (simp; done) | (simp; omega), by first | rfl | omega | exact Nat.le_of_ble_eq_true rfl | (dsimp only; omega) | (simp; done) | (simp; omega), by omega, Nat.le_of_ble_eq_true rfl⟩ | exact Eq.refl true) ?_) | (with_reducible refine ld (slL hbl) ?_) | (refine Exists.intro _ (And.intro rfl ?_)) | (refine And.intro (And.intro rfl (chk_rowI _ _ _ _)) ?_) | (refine br_t (by omega) ?_) | (refine br_f (by omega) ?_) | (refine bs_t (by omega) ?_) | (refine bs_f (by omega) ?_) | (refine fun (K' : K3) hK' => ?_) | (refine hK' _ _ _ ?_; clear hK' K') | (refine draw_auto tok mixed (by kernel_rfl) ?_) | (refine bs_bt (Eq.refl true) ?_) | (refine bs_bf (Eq.refl false) ?_) | (refine br_bt (Eq.refl true) ?_) | (refine br_bf (Eq.refl false) ?_) | (refine CallK.m ?_) | (refine Two.l ?_) | (refine And.intro (And.intro rfl rfl) ?_))
          refine ⟨b + 1, [], by omega, by omega, ?_⟩
          rw [show firstL j (b + 1) = firstL j b ++ List.replicate (j.getD b []).length (b : Int) from rfl]
          refine ⟨?_, ?_, injB_ent (p := [_, _]) (by omega) rfl rfl, rfl, by first | exact Nat.le_of_ble_eq_true rfl | exact Nat.le_refl _ | omega⟩
          · repeat (first | exact trivial | refine And.intro (covS_syn (by first | rfl | (refine congrArg some (congrArg V.i ?_); omega)) rfl (by first | exact trivial | exact Nat.le_of_ble_eq_true rfl | exact hy | exact (fun p hp => nomatch hp) | (show (_ : Nat) < _; omega))) ?_ | refine And.intro (covS_bool rfl rfl (by first | rfl)) ?_)
          · repeat (first | exact trivial | (exact covL_ent (by omega) (fun k hk => by (try simp only [flatN]); (repeat (first | rw [find_skip (by omega)] | rw [find_hi (by omega) (by rfl)])))) | refine And.intro (covE_id (Nat.le_of_ble_eq_true rfl) (by first | exact wf_ints _ _ | exact wf_bools _ _ | first | exact wf_sls _ _ _ (by omega) | exact wf_jobs _ _ | simp [C.wf]) rfl (by first | rfl | (fail))) ?_)
    · have hbe : b = j.length := by omega
      subst hbe
      repeat ((conv => whnf); first | (refine And.intro (by first | omega | exact Nat.le_of_ble_eq_true rfl | (dsimp only [inK]; omega) | (simp only [mulS_eq]; omega) | (simp only [mulS_eq, setL_length]; omega) | (simp only [setL_length, List.length_map]; omega) | exact ⟨by omega, by omega, by first | exact Nat.le_of_ble_eq_true rfl | (dsimp only; omega) | (simp only [setL_length]; omega) | (simp only [setL_length, List.length_map]; omega)⟩ | exact ⟨by omega, by first | rfl | omega, by omega, Nat.le_of_ble_eq_true rfl, Nat.le_of_ble_eq_true rfl⟩ | exact ⟨rfl, rfl, rfl, Nat.le_of_ble_eq_true rfl, by first | rfl | omega | exact Nat.le_of_ble_eq_true rfl | (dsimp only; omega) | (simp; done) | (simp; omega), by first | rfl | omega | exact Nat.le_of_ble_eq_true rfl | (dsimp only; omega) | (simp; done) | (simp; omega), by omega, Nat.le_of_ble_eq_true rfl⟩ | exact Eq.refl true) ?_) | (refine Exists.intro _ (And.intro rfl ?_)) | (refine And.intro (And.intro rfl (chk_rowI _ _ _ _)) ?_) | (refine br_t (by omega) ?_) | (refine br_f (by omega) ?_) | (refine bs_t (by omega) ?_) | (refine bs_f (by omega) ?_) | (refine fun (K' : K3) hK' => ?_) | (refine hK' _ _ _ ?_; clear hK' K') | (refine draw_auto tok mixed (by kernel_rfl) ?_) | (refine bs_bt (Eq.refl true) ?_) | (refine bs_bf (Eq.refl false) ?_) | (refine br_bt (Eq.refl true) ?_) | (refine br_bf (Eq.refl false) ?_) | (refine CallK.m ?_) | (refine Two.l ?_) | (refine And.intro (And.intro rfl rfl) ?_))
      exact .inr ⟨32, rfl, rfl⟩
end Go.Proofs.Ytjijjncddjkdlaa

/- Shore, plain: the orders come to one after the other. -/
namespace Go.Proofs.Ytjijjncddjkdlaa
open Go.RowKit
set_option linter.unusedVariables false
set_option linter.unusedSimpArgs false
theorem ord_counts {j : Coast} (hm : manyN j j.length ≤ 100) {o : List Int} (h : isOrdB j o = true) : (∀ x ∈ o, 0 ≤ x ∧ x < j.length) ∧ (∀ b, b < j.length → cnF o b = (j.getD b []).length) ∧ o.length = manyN j j.length := by
  obtain ⟨o', rfl, ho⟩ := (isOrd_iff hm).1 h
  refine ⟨fun x hx => ?_, fun b hb => ?_, by rw [natsC_len, ord_len ho]⟩
  · obtain ⟨y, hy, rfl⟩ := List.mem_map.1 hx
    have := ho.lt y hy
    show 0 ≤ ((y : Nat) : Int) ∧ ((y : Nat) : Int) < _
    omega
  · have := ho.cnt b hb
    show (natsC o').count (b : Int) = _
    rw [natsC_count]; omega
theorem ord_of_counts {j : Coast} (hm : manyN j j.length ≤ 100) {o : List Int} (h1 : ∀ x ∈ o, 0 ≤ x ∧ x < j.length) (h2 : ∀ b, b < j.length → cnF o b = (j.getD b []).length) : isOrdB j o = true := by
  have e := natsC_toNat fun x hx => (h1 x hx).1
  refine (isOrd_iff hm).2 ⟨o.map Int.toNat, e.symm, ⟨fun x hx => ?_, fun b hb => ?_⟩⟩
  · obtain ⟨y, hy, rfl⟩ := List.mem_map.1 hx
    have := h1 y hy; omega
  · have h3 := h2 b hb
    unfold cnF at h3
    rw [← e, natsC_count] at h3
    omega
theorem firstL_mem {j : Coast} : ∀ {b : Nat} {x : Int}, x ∈ firstL j b → 0 ≤ x ∧ x < b
  | b + 1, x, h => by
    simp only [firstL, List.mem_append, List.mem_replicate] at h
    rcases h with h | h
    · have := firstL_mem h; omega
    · omega
theorem firstL_asc {j : Coast} : ∀ b : Nat, (firstL j b).Pairwise (· ≤ ·)
  | 0 => List.Pairwise.nil
  | b + 1 => by
    simp only [firstL]
    rw [List.pairwise_append]
    refine ⟨firstL_asc b, ?_, fun x hx y hy => ?_⟩
    · rw [List.pairwise_replicate]; exact .inr (Int.le_refl _)
    · have h1 := firstL_mem hx
      have h2 := (List.mem_replicate.1 hy).2
      omega
theorem firstL_cnt {j : Coast} : ∀ {b c : Nat}, cnF (firstL j b) c = if c < b then (j.getD c []).length else 0
  | 0, c => by simp [firstL, cnF]
  | b + 1, c => by
    have ih := firstL_cnt (j := j) (b := b) (c := c)
    unfold cnF at ih ⊢
    simp only [firstL]
    rw [List.count_append, ih, List.count_replicate]
    by_cases h : c = b
    · subst h; rw [if_neg (Nat.lt_irrefl _), if_pos (Nat.lt_succ_self _)]; simp
    · have h1 : ((b : Int) == (c : Int)) = false := by
        rw [beq_eq_false_iff_ne]; omega
      rw [h1]
      by_cases h2 : c < b
      · rw [if_pos h2]; simp [show c < b + 1 by omega]
      · rw [if_neg h2]; simp [show ¬ c < b + 1 by omega]
theorem firstL_ord {j : Coast} (hm : manyN j j.length ≤ 100) : isOrdB j (firstL j j.length) = true :=
  ord_of_counts hm (fun x hx => firstL_mem hx) fun b hb => by rw [firstL_cnt, if_pos hb]
theorem smN_many {j : Coast} : ∀ {b : Nat}, b ≤ j.length → smN (fun c => (j.getD c []).length) b = manyN j b
  | 0, _ => by simp [smN, manyN]
  | b + 1, h => by simp only [smN]; rw [smN_many (by omega), manyN_succ (by omega)]
/-- Behind the first order all the others come. -/
theorem first_rank {j : Coast} (hm : manyN j j.length ≤ 100) : rkN j.length (firstL j j.length) + 1 = numJ j j.length := by
  obtain ⟨h1, h2, h3⟩ := ord_counts hm (firstL_ord hm)
  rw [rkN_asc (firstL_asc _) h1, h3, tpN_congr (g := fun c => (j.getD c []).length) h2]
  have h4 := tpN_fct (n := j.length) (f := fun c => (j.getD c []).length) (s := manyN j j.length) (smN_many (Nat.le_refl _))
  have h5 := numJ_fct (j := j) (b := j.length) (Nat.le_refl _)
  exact Nat.eq_of_mul_eq_mul_right (prF_pos _ j.length) (h4.trans h5.symm)
theorem swK_perm {o : List Int} {k i : Nat} (hk : k < o.length) (hi : i < o.length) : (swK o k i).Perm o := by
  unfold swK
  rw [getD_lt hk, getD_lt hi]
  exact List.set_set_perm hk hi
/-- The next order: the same numbers, and one order less behind it. -/
theorem next_rank {n : Nat} {o : List Int} {k i : Nat} (hb : ∀ x ∈ o, 0 ≤ x ∧ x < n) (hp : PivAt o k) (hl : LastAt o k i) : rkN n o = rkN n (nextR o k i) + 1 ∧ (nextR o k i).Perm o := by
  have hk1 := hp.lt
  have hk : k < o.length := by omega
  have hi := hl.lt
  have hki := hl.gt
  have hsl := swK_len (o := o) (k := k) (i := i)
  have e1 : o = o.take k ++ (o.getD k 0 :: o.drop (k + 1)) := by
    conv => lhs; rw [← List.take_append_drop k o, List.drop_eq_getElem_cons hk]
    rw [getD_lt hk]
  have e2 : swK o k i = o.take k ++ (o.getD i 0 :: (swK o k i).drop (k + 1)) := by
    conv => lhs; rw [← List.take_append_drop k (swK o k i), List.drop_eq_getElem_cons (by rw [hsl]; exact hk)]
    congr 1
    · unfold swK; rw [List.take_set_of_le (by omega), List.take_set_of_le (Nat.le_refl _)]
    · congr 1
      rw [← getD_lt (d := 0) (by rw [hsl]; exact hk), swK_get hk hi, if_neg (by omega), if_pos rfl]
  have e3 := nextR_eq hp hl
  have hperm : (o.getD i 0 :: (swK o k i).drop (k + 1)).Perm (o.getD k 0 :: o.drop (k + 1)) := by
    have h := swK_perm hk hi
    rw [e2] at h
    conv at h => rhs; rw [e1]
    exact (List.perm_append_left_iff _).1 h
  have hasc := tail_asc hp hl
  have hmem : ∀ z ∈ o, 0 ≤ z ∧ z < n := hb
  have hdl : (o.drop (k + 1)).length = (((swK o k i).drop (k + 1)).reverse).length := by simp [hsl]
  have hperm2 : (o.getD i 0 :: ((swK o k i).drop (k + 1)).reverse).Perm (o.getD k 0 :: o.drop (k + 1)) := ((List.reverse_perm _).cons _).trans hperm
  have hdm : ∀ z ∈ o.getD k 0 :: o.drop (k + 1), z ∈ o := fun z hz => by
    rw [e1]; exact List.mem_append_right _ hz
  have hdesc : (o.drop (k + 1)).Pairwise (· ≥ ·) := by
    rw [List.pairwise_iff_getElem]
    intro a b ha hb hab
    rw [List.length_drop] at ha hb
    have := piv_desc hp (a := k + 1 + a) (b := k + 1 + b) (by omega) (by omega) (by omega)
    rw [getD_lt (by omega), getD_lt (by omega)] at this
    rw [List.getElem_drop, List.getElem_drop]
    exact this
  have hyi : o.getD i 0 ∈ o := by rw [getD_lt hi]; exact List.getElem_mem hi
  obtain ⟨y, hy⟩ : ∃ y : Nat, o.getD i 0 = y := ⟨(o.getD i 0).toNat, by have := hb _ hyi; omega⟩
  have hyn := hb _ hyi
  have hup := hl.up
  rw [hy] at hperm2 hyn hup e3
  have hstep := rkN_step (n := n) hdesc hasc (fun z hz => hb z (hdm z (hperm2.subset (List.mem_cons_of_mem _ hz)))) hdl (fun z => (hperm2.count_eq _).symm) (y := y) (by omega) hup (fun z hxz hz => by
    have hm := List.count_pos_iff.1 hz
    rcases List.mem_cons.1 hm with e | hm
    · omega
    · obtain ⟨m, hm1, hm2⟩ := List.mem_iff_getElem.1 hm
      rw [List.length_drop] at hm1
      rw [List.getElem_drop] at hm2
      have hmi : k + 1 + m ≤ i := by
        apply Classical.byContradiction
        intro h
        have := hl.rest (k + 1 + m) (by omega) (by omega)
        rw [getD_lt (l := o) (k := k + 1 + m) (by omega), hm2] at this
        exact this hxz
      have := piv_desc hp (a := k + 1 + m) (b := i) (by omega) hmi hi
      rw [hy, getD_lt (l := o) (k := k + 1 + m) (by omega), hm2] at this
      omega)
  have happ := rkN_app (n := n) (t := o.getD k 0 :: o.drop (k + 1)) (t' := (y : Int) :: ((swK o k i).drop (k + 1)).reverse) (by simp [hsl]) (fun z => (hperm2.count_eq _).symm) (o.take k)
  have e3' : nextR o k i = o.take k ++ ((y : Int) :: ((swK o k i).drop (k + 1)).reverse) := by rw [e3]; simp
  constructor
  · rw [e3']
    conv => lhs; rw [e1]
    omega
  · rw [e3']
    conv => rhs; rw [e1]
    exact List.Perm.append_left _ hperm2
theorem rank_none {n : Nat} {o : List Int} (h : NoPiv o) : rkN n o = 0 := by
  refine rkN_desc ?_
  rw [List.pairwise_iff_getElem]
  intro a b ha hb hab
  have key : ∀ d, a + d < o.length → o.getD (a + d) 0 ≤ o.getD a 0 := by
    intro d
    induction d with
    | zero => intro _; exact Int.le_refl _
    | succ d ih =>
      intro hd
      have := ih (by omega)
      have := h (a + d) (by omega)
      rw [show a + (d + 1) = a + d + 1 by omega]; omega
  have := key (b - a) (by omega)
  rw [show a + (b - a) = b by omega, getD_lt hb, getD_lt ha] at this
  exact this
/-- What Next answers, by how many orders come behind. -/
theorem next_or {j : Coast} (hm : manyN j j.length ≤ 100) {o : List Int} (h : isOrdB j o = true) : (rkN j.length o = 0 ∧ NoPiv o) ∨ ∃ k i, PivAt o k ∧ LastAt o k i ∧ rkN j.length o = rkN j.length (nextR o k i) + 1 ∧ isOrdB j (nextR o k i) = true := by
  obtain ⟨h1, h2, h3⟩ := ord_counts hm h
  rcases piv_or o with hp | ⟨k, hp⟩
  · exact .inl ⟨rank_none hp, hp⟩
  · obtain ⟨i, hl⟩ := last_ex hp
    obtain ⟨h4, h5⟩ := next_rank h1 hp hl
    exact .inr ⟨k, i, hp, hl, h4, ord_of_counts hm (fun x hx => h1 x (h5.subset hx)) fun b hb => (h5.count_eq _).trans (h2 b hb)⟩
/-- The next order differs first at its place, where it is greater. -/
theorem next_before {o : List Int} {k i : Nat} (hp : PivAt o k) (hl : LastAt o k i) : (∀ m, m < k → o.getD m 0 = (nextR o k i).getD m 0) ∧ o.getD k 0 < (nextR o k i).getD k 0 := by
  have hk := hp.lt
  rw [nextR_eq hp hl, List.append_assoc]
  have htl : (o.take k).length = k := by rw [List.length_take]; omega
  constructor
  · intro m hm
    simp only [List.getD_eq_getElem?_getD]
    rw [List.getElem?_append_left (by omega), List.getElem?_take, if_pos hm]
  · have : (o.take k ++ ([o.getD i 0] ++ ((swK o k i).drop (k + 1)).reverse)).getD k 0 = o.getD i 0 := by
      rw [List.getD_eq_getElem?_getD, List.getElem?_append_right (by omega), htl, Nat.sub_self]; rfl
    rw [this]; exact hl.up
end Go.Proofs.Ytjijjncddjkdlaa

/- Shore: the law's before, where it answers true. -/
namespace Go.Proofs.Ytjijjncddjkdlaa
open Go.RowKit
set_option linter.unusedVariables false
set_option linter.unusedSimpArgs false
set_option maxHeartbeats 1000000 in
set_option maxRecDepth 100000 in
theorem before_spec (a b : List Int) (k : Nat) (ha : k < a.length) (hb : k < b.length) (hal : a.length ≤ 1000) (hbl : b.length ≤ 1000) (he : ∀ m, m < k → a.getD m 0 = b.getD m 0) (hlt : a.getD k 0 < b.getD k 0) :
    Spec Try.prog 50 [V.c (.sl 0 a.length), V.c (.sl 1 b.length)] [⟨0, .ro 0, a.map C.i⟩, ⟨1, .ro 0, b.map C.i⟩] 2 (Is (V.c (.bool true))) := by
  have hne : a.getD k 0 ≠ b.getD k 0 := by omega
  refine Spec.of tok Try.func50 rfl rfl rfl fun n0 cx => vc_ok tok ?_
  repeat ((conv => whnf); first | (refine And.intro (by first | omega | exact Nat.le_of_ble_eq_true rfl | (dsimp only [inK]; omega) | (simp only [mulS_eq]; omega) | (simp only [mulS_eq, setL_length]; omega) | (simp only [setL_length, List.length_map]; omega) | exact ⟨by omega, by omega, by first | exact Nat.le_of_ble_eq_true rfl | (dsimp only; omega) | (simp only [setL_length]; omega) | (simp only [setL_length, List.length_map]; omega)⟩ | exact ⟨by omega, by first | rfl | omega, by omega, Nat.le_of_ble_eq_true rfl, Nat.le_of_ble_eq_true rfl⟩ | exact ⟨rfl, rfl, rfl, Nat.le_of_ble_eq_true rfl, by first | rfl | omega | exact Nat.le_of_ble_eq_true rfl | (dsimp only; omega) | (simp; done) | (simp; omega), by first | rfl | omega | exact Nat.le_of_ble_eq_true rfl | (dsimp only; omega) | (simp; done) | (simp; omega), by omega, Nat.le_of_ble_eq_true rfl⟩ | exact Eq.refl true) ?_) | (refine Exists.intro _ (And.intro rfl ?_)) | (refine And.intro (And.intro rfl (chk_rowI _ _ _ _)) ?_) | (refine br_t (by omega) ?_) | (refine br_f (by omega) ?_) | (refine bs_t (by omega) ?_) | (refine bs_f (by omega) ?_) | (refine fun (K' : K3) hK' => ?_) | (refine hK' _ _ _ ?_; clear hK' K') | (refine draw_auto tok mixed (by kernel_rfl) ?_) | (refine bs_bt (Eq.refl true) ?_) | (refine bs_bf (Eq.refl false) ?_) | (refine br_bt (Eq.refl true) ?_) | (refine br_bf (Eq.refl false) ?_) | (refine CallK.m ?_) | (refine Two.l ?_) | (refine And.intro (And.intro rfl rfl) ?_))
  refine Tri.loop (γ := Nat) (fun i => i ≤ k) (fun i => [(0, V.c (.sl 0 a.length)), (1, V.c (.sl 1 b.length)), (5, V.i (i : Nat))])
    (fun _ => [⟨0, .ro 0, a.map C.i⟩, ⟨1, .ro 0, b.map C.i⟩]) 2 (fun i => k - i) 0 (R0 := []) ?_ ?_ ?_
  · omega
  · skip
    refine ⟨?_, ?_, rfl, rfl, by first | exact Nat.le_of_ble_eq_true rfl | exact Nat.le_refl _ | omega⟩
    · repeat (first | exact trivial | refine And.intro (covS_syn (by first | rfl) rfl (by first | exact trivial | exact Nat.le_of_ble_eq_true rfl | exact hy | exact (fun p hp => nomatch hp) | (show (_ : Nat) < _; omega))) ?_ | refine And.intro (covS_bool rfl rfl (by first | rfl)) ?_)
    · repeat (first | exact trivial | refine And.intro (covE_id (Nat.le_of_ble_eq_true rfl) (by first | exact wf_ints _ _ | exact wf_bools _ _ | fail | simp [C.wf]) rfl (by first | rfl | (fail))) ?_)
  · rintro i hi
    refine vc_ok tok ?_
    by_cases hik : i < k
    · have hm := he i hik
      repeat ((conv => whnf); first | (refine And.intro (by first | omega | exact Nat.le_of_ble_eq_true rfl | (dsimp only [inK]; omega) | (simp only [mulS_eq]; omega) | (simp only [mulS_eq, setL_length]; omega) | (simp only [setL_length, List.length_map]; omega) | exact ⟨by omega, by omega, by first | exact Nat.le_of_ble_eq_true rfl | (dsimp only; omega) | (simp only [setL_length]; omega) | (simp only [setL_length, List.length_map]; omega)⟩ | exact ⟨by omega, by first | rfl | omega, by omega, Nat.le_of_ble_eq_true rfl, Nat.le_of_ble_eq_true rfl⟩ | exact ⟨rfl, rfl, rfl, Nat.le_of_ble_eq_true rfl, by first | rfl | omega | exact Nat.le_of_ble_eq_true rfl | (dsimp only; omega) | (simp; done) | (simp; omega), by first | rfl | omega | exact Nat.le_of_ble_eq_true rfl | (dsimp only; omega) | (simp; done) | (simp; omega), by omega, Nat.le_of_ble_eq_true rfl⟩ | exact Eq.refl true) ?_) | (with_reducible refine ld (intLz (l := a) (k := i) rfl (by omega)) ?_) | (with_reducible refine ld (intLz (l := b) (k := i) rfl (by omega)) ?_) | (refine Exists.intro _ (And.intro rfl ?_)) | (refine And.intro (And.intro rfl (chk_rowI _ _ _ _)) ?_) | (refine br_t (by omega) ?_) | (refine br_f (by omega) ?_) | (refine bs_t (by omega) ?_) | (refine bs_f (by omega) ?_) | (refine fun (K' : K3) hK' => ?_) | (refine hK' _ _ _ ?_; clear hK' K') | (refine draw_auto tok mixed (by kernel_rfl) ?_) | (refine br_f (show ¬ (a.getD i 0 ≠ b.getD i 0) from fun h => h hm) ?_) | (refine bs_bt (Eq.refl true) ?_) | (refine bs_bf (Eq.refl false) ?_) | (refine br_bt (Eq.refl true) ?_) | (refine br_bf (Eq.refl false) ?_) | (refine CallK.m ?_) | (refine Two.l ?_) | (refine And.intro (And.intro rfl rfl) ?_))
      refine ⟨i + 1, [], by omega, by omega, ?_⟩
      refine ⟨?_, ?_, rfl, rfl, by first | exact Nat.le_of_ble_eq_true rfl | exact Nat.le_refl _ | omega⟩
      · repeat (first | exact trivial | refine And.intro (covS_syn (by first | rfl | (refine congrArg some (congrArg V.i ?_); omega)) rfl (by first | exact trivial | exact Nat.le_of_ble_eq_true rfl | exact hy | exact (fun p hp => nomatch hp) | (show (_ : Nat) < _; omega))) ?_ | refine And.intro (covS_bool rfl rfl (by first | rfl)) ?_)
      · repeat (first | exact trivial | refine And.intro (covE_id (Nat.le_of_ble_eq_true rfl) (by first | exact wf_ints _ _ | exact wf_bools _ _ | fail | simp [C.wf]) rfl (by first | rfl | (fail))) ?_)
    · obtain rfl : i = k := by omega
      repeat ((conv => whnf); first | (refine And.intro (by first | omega | exact Nat.le_of_ble_eq_true rfl | (dsimp only [inK]; omega) | (simp only [mulS_eq]; omega) | (simp only [mulS_eq, setL_length]; omega) | (simp only [setL_length, List.length_map]; omega) | exact ⟨by omega, by omega, by first | exact Nat.le_of_ble_eq_true rfl | (dsimp only; omega) | (simp only [setL_length]; omega) | (simp only [setL_length, List.length_map]; omega)⟩ | exact ⟨by omega, by first | rfl | omega, by omega, Nat.le_of_ble_eq_true rfl, Nat.le_of_ble_eq_true rfl⟩ | exact ⟨rfl, rfl, rfl, Nat.le_of_ble_eq_true rfl, by first | rfl | omega | exact Nat.le_of_ble_eq_true rfl | (dsimp only; omega) | (simp; done) | (simp; omega), by first | rfl | omega | exact Nat.le_of_ble_eq_true rfl | (dsimp only; omega) | (simp; done) | (simp; omega), by omega, Nat.le_of_ble_eq_true rfl⟩ | exact Eq.refl true) ?_) | (with_reducible refine ld (intLz (l := a) (k := i) rfl (by omega)) ?_) | (with_reducible refine ld (intLz (l := b) (k := i) rfl (by omega)) ?_) | (refine Exists.intro _ (And.intro rfl ?_)) | (refine And.intro (And.intro rfl (chk_rowI _ _ _ _)) ?_) | (refine br_t (by omega) ?_) | (refine br_f (by omega) ?_) | (refine bs_t (by omega) ?_) | (refine bs_f (by omega) ?_) | (refine fun (K' : K3) hK' => ?_) | (refine hK' _ _ _ ?_; clear hK' K') | (refine draw_auto tok mixed (by kernel_rfl) ?_) | (refine br_t hne ?_) | (refine bs_bt (Eq.refl true) ?_) | (refine bs_bf (Eq.refl false) ?_) | (refine br_bt (Eq.refl true) ?_) | (refine br_bf (Eq.refl false) ?_) | (refine CallK.m ?_) | (refine Two.l ?_) | (refine And.intro (And.intro rfl rfl) ?_))
      intro ρ
      rw [decide_eq_true hlt]
      rfl
end Go.Proofs.Ytjijjncddjkdlaa

/- The law of the leads. -/
namespace Go.Proofs.Ytjijjncddjkdlaa
open Go.RowKit
set_option linter.unusedVariables false
set_option linter.unusedSimpArgs false
section
variable {n0 nx : Nat} {L : List E} {K : V → List E → Nat → Prop} {j : Coast}
theorem long_k (hj : j.length < 9223372036854775808) (hs : find L 0 = some ⟨0, .ro 1, slsC 1 j⟩) (hK : K (V.c (.bool (longB j))) [] nx) : CallK Try.prog n0 14 [V.c (.sl 0 j.length)] L nx K :=
  CallK.val (R := []) (long_any j hj) (by kernel_rfl) rfl (by simp [V.wf, A.wf, C.wf]) ⟨roE_id (Nat.succ_pos _) (wf_sls _ _ _ (by omega)) hs (.inr rfl) rfl, trivial⟩ rfl rfl trivial hK
theorem sane_k (hK : K (V.c (.bool true)) [] nx) : CallK Try.prog n0 15 [] L nx K :=
  CallK.val (R := []) sane_spec (by kernel_rfl) rfl (by simp) trivial rfl rfl trivial hK
end
theorem isTrue_any {f : FuncId} {vs : List V} {L : List E} {na : Nat} {ρ : Env} {w : World} {args : Array Value} (spec : Spec Try.prog f vs L na (Is (V.c (.bool true)))) (hp : Hp w.heap.size ρ w L na) (hv : ∀ v ∈ vs, v.wf na) (ha : (vs.map (V.den ρ)).toArray = args) :
    Calls Try.prog f args w fun e w' => e = .returned (.bool true) ∧ Below w.heap.size w w' := by
  subst ha
  refine (spec ρ w hp hv).mono ?_
  rintro e w' ⟨v, ρ', L', nx', rfl, h1, h2, h3, h4, h5, h6⟩
  exact ⟨by rw [h6 ρ']; rfl, h4⟩
end Go.Proofs.Ytjijjncddjkdlaa

/- The law of the count of orders. -/
namespace Go.Proofs.Ytjijjncddjkdlaa
open Go.RowKit
set_option linter.unusedVariables false
set_option linter.unusedSimpArgs false
theorem counts_long (j : Coast) (hj : j.length < 9223372036854775808) (hl : longB j = true) :
    Spec Try.prog 12 [V.c (.sl 0 j.length)] [⟨0, .ro 1, slsC 1 j⟩] (j.length + 32) (Is (V.c (.bool true))) := by
  refine Spec.of tok Try.func12 rfl rfl rfl fun n0 cx => vc_ok tok ?_
  repeat ((conv => whnf); first | (refine And.intro (by first | omega | exact Nat.le_of_ble_eq_true rfl | (dsimp only [inK]; omega) | (simp only [mulS_eq]; omega) | (simp only [mulS_eq, setL_length]; omega) | (simp only [setL_length]; omega) | (simp only [setL_length, List.length_map]; omega) | (exact ⟨by omega, by omega, by first | exact Nat.le_of_ble_eq_true rfl | (dsimp only; omega) | (simp only [setL_length]; omega) | (simp only [setL_length, List.length_map]; omega)⟩) | (exact ⟨by omega, by first | rfl | omega, by omega, Nat.le_of_ble_eq_true rfl, Nat.le_of_ble_eq_true rfl⟩) | (exact ⟨rfl, rfl, rfl, Nat.le_of_ble_eq_true rfl, by first | rfl | omega | exact Nat.le_of_ble_eq_true rfl | (dsimp only; omega) | (simp; done) | (simp; omega), by first | rfl | omega | exact Nat.le_of_ble_eq_true rfl | (dsimp only; omega) | (simp; done) | (simp; omega), by omega, Nat.le_of_ble_eq_true rfl⟩) | exact Eq.refl true) ?_) | refine Exists.intro _ (And.intro rfl ?_) | refine And.intro (And.intro rfl (chk_rowI _ _ _ _)) ?_ | refine br_t (by omega) ?_ | refine br_f (by omega) ?_ | refine bs_t (by omega) ?_ | refine bs_f (by omega) ?_ | refine fun (K' : K3) hK' => ?_ | (refine hK' _ _ _ ?_; clear hK' K') | refine draw_auto tok mixed (by kernel_rfl) ?_ | refine long_k hj rfl ?_ | refine bs_bt hl ?_ | refine br_bt hl ?_ | refine sane_k ?_ | refine bs_bt (Eq.refl true) ?_ | refine bs_bf (Eq.refl false) ?_ | refine br_bt (Eq.refl true) ?_ | refine br_bf (Eq.refl false) ?_ | refine CallK.m ?_ | refine Two.l ?_ | refine And.intro (And.intro rfl rfl) ?_)
  intro ρ; rfl
/-- What Next does at an order, by how many come behind it. -/
theorem next_go {j : Coast} (hj : Sized j) (hv : validL j = true) {o : List Int} (h : isOrdB j o = true) :
    (rkN j.length o = 0 ∧ Spec Try.prog 47 [V.c (.sl 0 j.length), V.c (.sl 21 o.length)] (⟨0, .ro 1, slsC 1 j⟩ :: ⟨21, .ro 0, o.map C.i⟩ :: entC 1 j) 32 (fun v L' _ => intsX [] 5 v L')) ∨
    ∃ x : List Int, rkN j.length o = rkN j.length x + 1 ∧ isOrdB j x = true ∧ x.length = o.length ∧ Spec Try.prog 47 [V.c (.sl 0 j.length), V.c (.sl 21 o.length)] (⟨0, .ro 1, slsC 1 j⟩ :: ⟨21, .ro 0, o.map C.i⟩ :: entC 1 j) 32 (fun v L' _ => intsX x 0 v L') ∧
      Spec Try.prog 50 [V.c (.sl 0 o.length), V.c (.sl 1 o.length)] [⟨0, .ro 0, o.map C.i⟩, ⟨1, .ro 0, x.map C.i⟩] 2 (Is (V.c (.bool true))) := by
  have hm := validL_many hv
  have hol : o.length ≤ 12 := by have := (ord_counts (by omega) h).2.2; omega
  rcases next_or (by omega) h with ⟨h1, h2⟩ | ⟨k, i, hp, hl, h3, h4⟩
  · exact .inl ⟨h1, next_none j o hj (by omega) hv h h2⟩
  · have hb := next_before hp hl
    have hk := hp.lt
    have hB := before_spec o (nextR o k i) k (by omega) (by rw [nextR_len]; omega) (by omega) (by rw [nextR_len]; omega) hb.1 hb.2
    rw [nextR_len] at hB
    exact .inr ⟨nextR o k i, h3, h4, nextR_len, next_spec j o k i hj (by omega) hv h hp hl, hB⟩
set_option maxHeartbeats 4000000 in
set_option maxRecDepth 100000 in
theorem counts_spec (j : Coast) (hj : Sized j) (hl : longB j = false) :
    Spec Try.prog 12 [V.c (.sl 0 j.length)] (⟨0, .ro 1, slsC 1 j⟩ :: entC 1 j) 32 (Is (V.c (.bool true))) := by
  have hj20 := hj.len
  have hlen := slsC_len (b := 1) (j := j)
  by_cases hv : validL j = true
  case neg =>
    have hv : validL j = false := by simpa using hv
    refine Spec.of tok Try.func12 rfl rfl rfl fun n0 cx => vc_ok tok ?_
    repeat ((conv => whnf); first | (refine And.intro (by first | omega | exact Nat.le_of_ble_eq_true rfl | (dsimp only [inK]; omega) | (simp only [mulS_eq]; omega) | (simp only [mulS_eq, setL_length]; omega) | (simp only [setL_length]; omega) | (simp only [setL_length, List.length_map]; omega) | (exact ⟨by omega, by omega, by first | exact Nat.le_of_ble_eq_true rfl | (dsimp only; omega) | (simp only [setL_length]; omega) | (simp only [setL_length, List.length_map]; omega)⟩) | (exact ⟨by omega, by first | rfl | omega, by omega, Nat.le_of_ble_eq_true rfl, Nat.le_of_ble_eq_true rfl⟩) | (exact ⟨rfl, rfl, rfl, Nat.le_of_ble_eq_true rfl, by first | rfl | omega | exact Nat.le_of_ble_eq_true rfl | (dsimp only; omega) | (simp; done) | (simp; omega), by first | rfl | omega | exact Nat.le_of_ble_eq_true rfl | (dsimp only; omega) | (simp; done) | (simp; omega), by omega, Nat.le_of_ble_eq_true rfl⟩) | exact Eq.refl true) ?_) | refine Exists.intro _ (And.intro rfl ?_) | refine And.intro (And.intro rfl (chk_rowI _ _ _ _)) ?_ | refine br_t (by omega) ?_ | refine br_f (by omega) ?_ | refine bs_t (by omega) ?_ | refine bs_f (by omega) ?_ | refine fun (K' : K3) hK' => ?_ | (refine hK' _ _ _ ?_; clear hK' K') | refine draw_auto tok mixed (by kernel_rfl) ?_ | refine long_k (by omega) rfl ?_ | refine bs_bf hl ?_ | refine CallK.val (R := []) (rvalid_spec j hj) (by kernel_rfl) rfl (by simp [V.wf, A.wf, C.wf]) (HasC.ro ⟨rfl, fun k hk => by (repeat (first | rw [find_skip (by omega)] | rw [find_hi (by omega) (by rfl)])); exact entC_find hk⟩ hj) (injC hj) rfl trivial ?_ | (refine br_bt (by rw [hv]; rfl) ?_) | refine sane_k ?_ | refine bs_bt (Eq.refl true) ?_ | refine bs_bf (Eq.refl false) ?_ | refine br_bt (Eq.refl true) ?_ | refine br_bf (Eq.refl false) ?_ | refine CallK.m ?_ | refine Two.l ?_ | refine And.intro (And.intro rfl rfl) ?_)
    intro ρ; rfl
  have hc := validL_coast hj hv
  have hm := validL_many hv
  have hN := number_spec j hj hv
  have hF := first_spec j hj fun b hb => (hc.jobs b hb).2
  have hfr := first_rank (j := j) (by omega)
  have hfo := firstL_ord (j := j) (by omega)
  have hfl := (ord_counts (by omega) hfo).2.2
  obtain ⟨M, hM⟩ : ∃ M, M = manyN j j.length := ⟨_, rfl⟩
  rw [← hM] at hm hfl
  obtain ⟨n, hn⟩ : ∃ n, n = numJ j j.length := ⟨_, rfl⟩
  rw [← hn] at hN hfr
  have hn1 : ¬ ((n : Nat) : Int) < 1 := by omega
  refine Spec.of tok Try.func12 rfl rfl rfl fun n0 cx => vc_ok tok ?_
  by_cases h300 : ((n : Nat) : Int) > 300
  · repeat ((conv => whnf); first | (refine And.intro (by first | omega | exact Nat.le_of_ble_eq_true rfl | (dsimp only [inK]; omega) | (simp only [mulS_eq]; omega) | (simp only [mulS_eq, setL_length]; omega) | (simp only [setL_length]; omega) | (simp only [setL_length, List.length_map]; omega) | (exact ⟨by omega, by omega, by first | exact Nat.le_of_ble_eq_true rfl | (dsimp only; omega) | (simp only [setL_length]; omega) | (simp only [setL_length, List.length_map]; omega)⟩) | (exact ⟨by omega, by first | rfl | omega, by omega, Nat.le_of_ble_eq_true rfl, Nat.le_of_ble_eq_true rfl⟩) | (exact ⟨rfl, rfl, rfl, Nat.le_of_ble_eq_true rfl, by first | rfl | omega | exact Nat.le_of_ble_eq_true rfl | (dsimp only; omega) | (simp; done) | (simp; omega), by first | rfl | omega | exact Nat.le_of_ble_eq_true rfl | (dsimp only; omega) | (simp; done) | (simp; omega), by omega, Nat.le_of_ble_eq_true rfl⟩) | exact Eq.refl true) ?_) | refine Exists.intro _ (And.intro rfl ?_) | refine And.intro (And.intro rfl (chk_rowI _ _ _ _)) ?_ | refine br_t (by omega) ?_ | refine br_f (by omega) ?_ | refine bs_t (by omega) ?_ | refine bs_f (by omega) ?_ | refine fun (K' : K3) hK' => ?_ | (refine hK' _ _ _ ?_; clear hK' K') | refine draw_auto tok mixed (by kernel_rfl) ?_ | refine long_k (by omega) rfl ?_ | refine bs_bf hl ?_ | refine CallK.val (R := []) (rvalid_spec j hj) (by kernel_rfl) rfl (by simp [V.wf, A.wf, C.wf]) (HasC.ro ⟨rfl, fun k hk => by (repeat (first | rw [find_skip (by omega)] | rw [find_hi (by omega) (by rfl)])); exact entC_find hk⟩ hj) (injC hj) rfl trivial ?_ | (refine br_bf (by rw [hv]; rfl) ?_) | refine CallK.val (R := []) hN (by kernel_rfl) rfl (by simp [V.wf, A.wf, C.wf]) (HasC.ro ⟨rfl, fun k hk => by (repeat (first | rw [find_skip (by omega)] | rw [find_hi (by omega) (by rfl)])); exact entC_find hk⟩ hj) (injC hj) rfl (by simp [V.wf, A.wf, C.wf]) ?_ | refine bs_f hn1 ?_ | refine br_f hn1 ?_ | refine bs_t h300 ?_ | refine br_t h300 ?_ | refine sane_k ?_ | refine bs_bt (Eq.refl true) ?_ | refine bs_bf (Eq.refl false) ?_ | refine br_bt (Eq.refl true) ?_ | refine br_bf (Eq.refl false) ?_ | refine CallK.m ?_ | refine Two.l ?_ | refine And.intro (And.intro rfl rfl) ?_)
    intro ρ; rfl
  · repeat ((conv => whnf); first | (refine And.intro (by first | omega | exact Nat.le_of_ble_eq_true rfl | (dsimp only [inK]; omega) | (simp only [mulS_eq]; omega) | (simp only [mulS_eq, setL_length]; omega) | (simp only [setL_length]; omega) | (simp only [setL_length, List.length_map]; omega) | (exact ⟨by omega, by omega, by first | exact Nat.le_of_ble_eq_true rfl | (dsimp only; omega) | (simp only [setL_length]; omega) | (simp only [setL_length, List.length_map]; omega)⟩) | (exact ⟨by omega, by first | rfl | omega, by omega, Nat.le_of_ble_eq_true rfl, Nat.le_of_ble_eq_true rfl⟩) | (exact ⟨rfl, rfl, rfl, Nat.le_of_ble_eq_true rfl, by first | rfl | omega | exact Nat.le_of_ble_eq_true rfl | (dsimp only; omega) | (simp; done) | (simp; omega), by first | rfl | omega | exact Nat.le_of_ble_eq_true rfl | (dsimp only; omega) | (simp; done) | (simp; omega), by omega, Nat.le_of_ble_eq_true rfl⟩) | exact Eq.refl true) ?_) | refine Exists.intro _ (And.intro rfl ?_) | refine And.intro (And.intro rfl (chk_rowI _ _ _ _)) ?_ | refine br_t (by omega) ?_ | refine br_f (by omega) ?_ | refine bs_t (by omega) ?_ | refine bs_f (by omega) ?_ | refine fun (K' : K3) hK' => ?_ | (refine hK' _ _ _ ?_; clear hK' K') | refine draw_auto tok mixed (by kernel_rfl) ?_ | refine long_k (by omega) rfl ?_ | refine bs_bf hl ?_ | refine CallK.val (R := []) (rvalid_spec j hj) (by kernel_rfl) rfl (by simp [V.wf, A.wf, C.wf]) (HasC.ro ⟨rfl, fun k hk => by (repeat (first | rw [find_skip (by omega)] | rw [find_hi (by omega) (by rfl)])); exact entC_find hk⟩ hj) (injC hj) rfl trivial ?_ | (refine br_bf (by rw [hv]; rfl) ?_) | refine CallK.val (R := []) hN (by kernel_rfl) rfl (by simp [V.wf, A.wf, C.wf]) (HasC.ro ⟨rfl, fun k hk => by (repeat (first | rw [find_skip (by omega)] | rw [find_hi (by omega) (by rfl)])); exact entC_find hk⟩ hj) (injC hj) rfl (by simp [V.wf, A.wf, C.wf]) ?_ | refine bs_f hn1 ?_ | refine br_f hn1 ?_ | refine bs_f h300 ?_ | refine br_f h300 ?_ | refine CallK.ints (R := []) hF (by kernel_rfl) rfl (by simp [V.wf, A.wf, C.wf]) (HasC.ro ⟨rfl, fun k hk => by (repeat (first | rw [find_skip (by omega)] | rw [find_hi (by omega) (by rfl)])); exact entC_find hk⟩ hj) (injC hj) ?_ | refine bs_bt (Eq.refl true) ?_ | refine bs_bf (Eq.refl false) ?_ | refine br_bt (Eq.refl true) ?_ | refine br_bf (Eq.refl false) ?_ | refine CallK.m ?_ | refine Two.l ?_ | refine And.intro (And.intro rfl rfl) ?_)
    rw [hfl]
    refine Tri.loop (γ := Nat × List Int) (fun g => 1 ≤ g.1 ∧ g.1 ≤ n ∧ isOrdB j g.2 = true ∧ g.2.length = M ∧ rkN j.length g.2 + g.1 = n) (fun (i, o) => [(0, V.c (.sl 0 j.length)), (3, V.i (n : Nat)), (5, V.c (.sl 32 M)), (6, V.i (i : Nat))])
      (fun (i, o) => ⟨32, .vec 3 1, o.map C.i⟩ :: ⟨0, .ro 1, slsC 1 j⟩ :: entC 1 j) 33 (fun g => n - g.1) (1, firstL j j.length) (R0 := []) ?_ ?_ ?_
    · exact ⟨Nat.le_refl _, by omega, hfo, hfl, hfr⟩
    · skip
      refine ⟨?_, ?_, injB_ent (p := [_, _]) (by omega) rfl rfl, rfl, by first | exact Nat.le_of_ble_eq_true rfl | exact Nat.le_refl _ | omega⟩
      · repeat (first | exact trivial | (refine And.intro (covS_syn (by rfl) rfl (by first | exact trivial | exact Nat.le_of_ble_eq_true rfl | exact hy | (first | ((show ∀ p ∈ (_ : List (Nat × Nat)), p.1 < _); decide) | exact (fun p hp => nomatch hp)) | (show (_ : Nat) < _; omega))) ?_) | refine And.intro (covS_bool rfl rfl (by rfl)) ?_)
      · repeat (first | exact trivial | (exact covL_ent (by omega) (fun k hk => by (try simp only [flatN]); (repeat (first | rw [find_skip (by omega)] | rw [find_hi (by omega) (by rfl)])))) | (refine And.intro (covE_id (Nat.le_of_ble_eq_true rfl) (by first | exact wf_ints _ _ | exact wf_bools _ _ | first | exact wf_sls _ _ _ (by omega) | exact wf_jobs _ _ | exact wf_ints _ _ | simp [C.wf]) rfl (by rfl)) ?_))
    · rintro ⟨i, o⟩ ⟨g1, g2, g3, g4, g5⟩
      simp only at g1 g2 g3 g4 g5
      refine vc_ok tok ?_
      have hng := next_go hj hv g3
      rw [g4] at hng
      by_cases hin : i < n
      · rcases hng with ⟨h1, _⟩ | ⟨x, h1, h2, h3, h4, h5⟩
        · omega
        · have hio := isOrderE_spec j x hj (by omega)
          rw [hv, h2, h3] at hio
          simp only [if_true] at hio
          repeat ((conv => whnf); first | (refine And.intro (by first | omega | exact Nat.le_of_ble_eq_true rfl | (dsimp only [inK]; omega) | (simp only [mulS_eq]; omega) | (simp only [mulS_eq, setL_length]; omega) | (simp only [setL_length]; omega) | (simp only [setL_length, List.length_map]; omega) | (exact ⟨by omega, by omega, by first | exact Nat.le_of_ble_eq_true rfl | (dsimp only; omega) | (simp only [setL_length]; omega) | (simp only [setL_length, List.length_map]; omega)⟩) | (exact ⟨by omega, by first | rfl | omega, by omega, Nat.le_of_ble_eq_true rfl, Nat.le_of_ble_eq_true rfl⟩) | (exact ⟨rfl, rfl, rfl, Nat.le_of_ble_eq_true rfl, by first | rfl | omega | exact Nat.le_of_ble_eq_true rfl | (dsimp only; omega) | (simp; done) | (simp; omega), by first | rfl | omega | exact Nat.le_of_ble_eq_true rfl | (dsimp only; omega) | (simp; done) | (simp; omega), by omega, Nat.le_of_ble_eq_true rfl⟩) | exact Eq.refl true) ?_) | refine Exists.intro _ (And.intro rfl ?_) | refine And.intro (And.intro rfl (chk_rowI _ _ _ _)) ?_ | refine br_t (by omega) ?_ | refine br_f (by omega) ?_ | refine bs_t (by omega) ?_ | refine bs_f (by omega) ?_ | refine fun (K' : K3) hK' => ?_ | (refine hK' _ _ _ ?_; clear hK' K') | refine draw_auto tok mixed (by kernel_rfl) ?_ | refine CallK.intsE (R := [(21, some 32)]) h4 (by kernel_rfl) rfl (by simp [V.wf, A.wf, C.wf]) (HasC.roO ⟨rfl, fun k hk => by (repeat (first | rw [find_skip (by omega)] | rw [find_hi (by omega) (by rfl)])); exact entC_find hk⟩ hj rfl) (injO hj) ?_ | rw [h3] | refine CallK.val (R := [(21, some 33)]) hio (by kernel_rfl) rfl (by simp [V.wf, A.wf, C.wf]) (HasC.roO ⟨rfl, fun k hk => by (repeat (first | rw [find_skip (by omega)] | rw [find_hi (by omega) (by rfl)])); exact entC_find hk⟩ hj rfl) (injO hj) rfl (by simp [V.wf, A.wf, C.wf]) ?_ | (refine CallK.val (R := [(0, some 32), (1, some 33)]) h5 (by kernel_rfl) rfl (by simp [V.wf, A.wf, C.wf]) ⟨⟨by simp only; omega, wf_ints _ _, _, _, rfl, .inl rfl, ren_ints _ _⟩, ⟨by simp only; omega, wf_ints _ _, _, _, rfl, .inl rfl, ren_ints _ _⟩, trivial⟩ rfl rfl trivial ?_) | refine bs_bt (Eq.refl true) ?_ | refine bs_bf (Eq.refl false) ?_ | refine br_bt (Eq.refl true) ?_ | refine br_bf (Eq.refl false) ?_ | refine CallK.m ?_ | refine Two.l ?_ | refine And.intro (And.intro rfl rfl) ?_)
          refine ⟨(i + 1, x), [(32, some 33)], ⟨by simp only; omega, by simp only; omega, h2, by simp only; omega, by simp only; omega⟩, by simp only; omega, ?_⟩
          refine ⟨?_, ?_, injB_entR (p := [_, _]) rfl (by omega) rfl rfl, rfl, by first | exact Nat.le_of_ble_eq_true rfl | exact Nat.le_refl _ | omega⟩
          · repeat (first | exact trivial | (refine And.intro (covS_syn (by first | rfl | (refine congrArg some (congrArg V.i ?_); omega)) rfl (by first | exact trivial | exact Nat.le_of_ble_eq_true rfl | exact hy | (first | ((show ∀ p ∈ (_ : List (Nat × Nat)), p.1 < _); decide) | exact (fun p hp => nomatch hp)) | (show (_ : Nat) < _; omega))) ?_) | refine And.intro (covS_bool rfl rfl (by rfl)) ?_)
          · repeat (first | exact trivial | (exact covL_entR rfl (by omega) (by omega) (fun k hk => by (try simp only [flatN]); (repeat (first | rw [find_skip (by omega)] | rw [find_hi (by omega) (by rfl)])))) | refine And.intro (covE_some rfl (Nat.le_of_ble_eq_true rfl) (wf_sls _ _ _ (by omega)) rfl (ren_sls rfl (by omega))) ?_ | refine And.intro (covE_nil rfl (Nat.le_of_ble_eq_true rfl) rfl rfl) ?_ | (refine And.intro (covE_some rfl (Nat.le_of_ble_eq_true rfl) (by first | exact wf_ints _ _ | exact wf_bools _ _ | first | exact wf_sls _ _ _ (by omega) | exact wf_jobs _ _ | exact wf_ints _ _ | simp [C.wf]) rfl (by first | exact ren_ints _ _ | exact ren_bools _ _ | exact ren_shares _ _ | rfl)) ?_))
      · obtain rfl : i = n := by omega
        rcases hng with ⟨_, h4⟩ | ⟨x, h1, _⟩
        · repeat ((conv => whnf); first | (refine And.intro (by first | omega | exact Nat.le_of_ble_eq_true rfl | (dsimp only [inK]; omega) | (simp only [mulS_eq]; omega) | (simp only [mulS_eq, setL_length]; omega) | (simp only [setL_length]; omega) | (simp only [setL_length, List.length_map]; omega) | (exact ⟨by omega, by omega, by first | exact Nat.le_of_ble_eq_true rfl | (dsimp only; omega) | (simp only [setL_length]; omega) | (simp only [setL_length, List.length_map]; omega)⟩) | (exact ⟨by omega, by first | rfl | omega, by omega, Nat.le_of_ble_eq_true rfl, Nat.le_of_ble_eq_true rfl⟩) | (exact ⟨rfl, rfl, rfl, Nat.le_of_ble_eq_true rfl, by first | rfl | omega | exact Nat.le_of_ble_eq_true rfl | (dsimp only; omega) | (simp; done) | (simp; omega), by first | rfl | omega | exact Nat.le_of_ble_eq_true rfl | (dsimp only; omega) | (simp; done) | (simp; omega), by omega, Nat.le_of_ble_eq_true rfl⟩) | exact Eq.refl true) ?_) | refine Exists.intro _ (And.intro rfl ?_) | refine And.intro (And.intro rfl (chk_rowI _ _ _ _)) ?_ | refine br_t (by omega) ?_ | refine br_f (by omega) ?_ | refine bs_t (by omega) ?_ | refine bs_f (by omega) ?_ | refine fun (K' : K3) hK' => ?_ | (refine hK' _ _ _ ?_; clear hK' K') | refine draw_auto tok mixed (by kernel_rfl) ?_ | refine CallK.intsE (R := [(21, some 32)]) h4 (by kernel_rfl) rfl (by simp [V.wf, A.wf, C.wf]) (HasC.roO ⟨rfl, fun k hk => by (repeat (first | rw [find_skip (by omega)] | rw [find_hi (by omega) (by rfl)])); exact entC_find hk⟩ hj rfl) (injO hj) ?_ | refine sane_k ?_ | refine bs_bt (Eq.refl true) ?_ | refine bs_bf (Eq.refl false) ?_ | refine br_bt (Eq.refl true) ?_ | refine br_bf (Eq.refl false) ?_ | refine CallK.m ?_ | refine Two.l ?_ | refine And.intro (And.intro rfl rfl) ?_)
          intro ρ; rfl
        · omega
theorem counts_any (j : Coast) (ao : Option Addr) (c : Nat) (bs : Nat → Option Addr × Nat) (w : World) (h : CoastAt w ao c j bs) :
    Calls Try.prog 12 #[.slice ao j.length c] w fun e w' => e = .returned (.bool true) ∧ Below w.heap.size w w' := by
  rcases bool_or (longB j) with hl | hl
  · exact isTrue_any (vs := [V.c (.sl 0 j.length)]) (counts_spec j (longB_sized hl) hl) (hp_coast h (longB_sized hl)) (by simp [V.wf, A.wf, C.wf]) rfl
  · exact isTrue_any (vs := [V.c (.sl 0 j.length)]) (counts_long j h.lt hl) (hp_long h none 0) (by simp [V.wf, A.wf, C.wf]) rfl
end Go.Proofs.Ytjijjncddjkdlaa

