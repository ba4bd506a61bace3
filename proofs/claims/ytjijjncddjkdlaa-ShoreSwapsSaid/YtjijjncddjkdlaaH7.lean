/- Texts of the proof, part 7: N7, N8d, N8, N9, N10, N11, V7, N12, N13, V8, L3, L6. -/
import Derived.Test.YtjijjncddjkdlaaH6
import Derived.WalkKit
import Derived.Below
import Derived.Laws.OwnMore
import Derived.Maps.AppendAt
import Derived.Laws.IdiomCopy
import Derived.Laws.CopyRow
import Derived.IntWalk
import Derived.StillTail
import Derived.Scope
import Derived.ChangeKeysEq
import Derived.Laws.Small
import Derived.OrdersIn
import Derived.TacticsIn
import Derived.OwnWalkIn
import Derived.RangeFuncNested
import Derived.RangeFuncLeaves
import Derived.RangeFuncRecord
import Derived.Test.YtjijjncddjkdlaaRows
import Derived.KernelRfl
import Derived.ProofKit
import Derived.OpenShut
import Derived.Lib.SmallJoins
import Derived.Deep.Slices
import Derived.PlainAid
import Derived.StillTailTactics
import Derived.WalkSpells
import Derived.OwnWalk
/- Shore: lists turned in place; ranges backwards over numbers. -/
namespace Go.Proofs.Ytjijjncddjkdlaa
open Go.RowKit
set_option linter.unusedVariables false
set_option linter.unusedSimpArgs false
/-- A part of a list, turned at its first x places. -/
def revX {α : Type} (l : List α) (d : α) (o n x : Nat) : List α := (List.range l.length).map fun j => if (o ≤ j ∧ j < o + n) ∧ (j < o + x ∨ o + n ≤ j + x) then l.getD (2 * o + n - 1 - j) d else l.getD j d
theorem revX_len {α : Type} (l : List α) (d : α) (o n x : Nat) : (revX l d o n x).length = l.length := by simp [revX]
theorem revX_get {α : Type} {l : List α} {d : α} {o n x j : Nat} (h : j < l.length) : (revX l d o n x).getD j d = if (o ≤ j ∧ j < o + n) ∧ (j < o + x ∨ o + n ≤ j + x) then l.getD (2 * o + n - 1 - j) d else l.getD j d := by
  simp [revX, List.getD_eq_getElem?_getD, h]
theorem ext_getD {α : Type} {l m : List α} (d : α) (h : l.length = m.length) (hg : ∀ j, j < l.length → l.getD j d = m.getD j d) : l = m := by
  apply List.ext_getElem h
  intro j h1 h2
  have := hg j h1
  simpa [List.getD_eq_getElem?_getD, h1, h2] using this
theorem revX_zero {α : Type} (l : List α) (d : α) (o n : Nat) : revX l d o n 0 = l := by
  refine ext_getD d (revX_len ..) (fun j hj => ?_)
  rw [revX_len] at hj
  rw [revX_get hj, if_neg (by omega)]
theorem getD_setX {α : Type} (l : List α) (x j : Nat) (b d : α) (hx : x < l.length) : (l.set x b).getD j d = if j = x then b else l.getD j d := by
  simp only [List.getD_eq_getElem?_getD, List.getElem?_set]
  by_cases h : x = j
  · subst h; simp [hx]
  · rw [if_neg h, if_neg (by omega)]
theorem revX_step {α : Type} {l : List α} {d : α} {o n x : Nat} (hl : o + n ≤ l.length) (hx : 2 * x + 1 < n) :
    ((revX l d o n x).set (o + x) ((revX l d o n x).getD (o + (n - 1 - x)) d)).set (o + (n - 1 - x)) ((revX l d o n x).getD (o + x) d) = revX l d o n (x + 1) := by
  refine ext_getD d (by simp [revX_len]) (fun j hj => ?_)
  simp only [List.length_set, revX_len] at hj
  rw [getD_setX _ _ _ _ _ (by simp [revX_len]; omega), getD_setX _ _ _ _ _ (by rw [revX_len]; omega), revX_get (by omega), revX_get (by omega), revX_get hj, revX_get hj]
  by_cases h1 : j = o + (n - 1 - x)
  · subst h1
    rw [if_pos rfl, if_neg (by omega), if_pos (by omega)]
    congr 1; omega
  · rw [if_neg h1]
    by_cases h2 : j = o + x
    · subst h2
      rw [if_pos rfl, if_neg (by omega), if_pos (by omega)]
      congr 1; omega
    · rw [if_neg h2]
      by_cases h3 : (o ≤ j ∧ j < o + n) ∧ (j < o + x ∨ o + n ≤ j + x)
      · rw [if_pos h3, if_pos (by omega)]
      · rw [if_neg h3, if_neg (by omega)]
/-- The part is turned once its halves have met. -/
theorem revX_done {α : Type} {l : List α} {d : α} {o n x : Nat} (hx : n ≤ 2 * x + 1) : revX l d o n x = revX l d o n n := by
  refine ext_getD d (by simp [revX_len]) (fun j hj => ?_)
  rw [revX_len] at hj
  rw [revX_get hj, revX_get hj]
  by_cases h3 : (o ≤ j ∧ j < o + n) ∧ (j < o + x ∨ o + n ≤ j + x)
  · rw [if_pos h3, if_pos (by omega)]
  · rw [if_neg h3]
    by_cases h4 : o ≤ j ∧ j < o + n
    · rw [if_pos (by omega)]
      congr 1; omega
    · rw [if_neg (by omega)]
theorem intSub {l : List Int} {o k : Nat} {z : Int} (hz : z = k) (h : o + k < l.length) : (l.map C.i)[addO o (mulS z.toNat 1)]? = some (C.i (l.getD (o + k) 0)) := by
  subst hz
  rw [addO_eq, mulS_eq]
  simp [List.getD_eq_getElem?_getD, h]
theorem int_swap2 {l : List Int} {o i j : Nat} {zi zj : Int} {u v : Int} (hi : zi = i) (hj : zj = j) : setL (setL (l.map C.i) (addO o (mulS zi.toNat 1)) [C.i u]) (addO o (mulS zj.toNat 1)) [C.i v] = ((l.set (o + i) u).set (o + j) v).map C.i := by
  subst hi hj
  simp only [addO_eq, mulS_eq, setL, Int.toNat_natCast, Nat.mul_one, List.map_set]
/-- A tail of which nothing is known but that it is not turned. -/
structure TailC (T : List E) (a nx : Nat) : Prop where
  nd : (T.map E.lab).Nodup
  lab : ∀ e ∈ T, e.lab ≠ a ∧ e.lab < nx
  wf : ∀ e ∈ T, ∀ c ∈ e.cs, c.wf nx
  ob : ∀ e ∈ T, ∀ m, nx ≤ m → m ≠ e.lab
theorem updK_c {T : List E} {a nx o : Nat} {vs : List C} {K : List E → Prop} (h : TailC T a nx) (hK : K T) : updK a o vs T K := by
  rw [updK_eq, updL_none (fun e he => (h.lab e he).1)]; exact hK
theorem visC_c {T : List E} {a nx : Nat} {K : List E → Prop} (h : TailC T a nx) (hK : K T) : visC [a] T K :=
  visC_none (fun e he => by
    refine Bool.eq_false_iff.2 fun hm => ?_
    have := memN_iff.1 hm
    simp only [List.mem_singleton] at this
    exact (h.lab e he).1 this) hK
theorem relC_c {T : List E} {a nx m : Nat} {K : List E → Prop} (h : TailC T a nx) (hm : nx ≤ m) (hK : K T) : relC [(m, a)] T K :=
  relC_none (fun e he => by simp only [relN, beq_ne (h.ob e he m hm), cond_false]) hK
theorem cov_c {T L : List E} {a nx : Nat} (h : TailC T a nx) (hL : ∀ e ∈ T, find L e.lab = find T e.lab) : covL [] nx L T := by
  refine covL_all fun e he => ?_
  exact covE_id (h.lab e he).2 (h.wf e he) ((hL e he).trans (find_nodup h.nd he)) rfl
theorem inj_c {T : List E} {a nx : Nat} {k : Kd} {cs : List C} (h : TailC T a nx) : injB [] (⟨a, k, cs⟩ :: T) = true := by
  refine injB_gen (by simp) ?_ (by simp)
  rw [List.map_cons, List.nodup_cons]
  exact ⟨fun hm => by obtain ⟨e, he, heq⟩ := List.mem_map.1 hm; exact (h.lab e he).1 heq, h.nd⟩
set_option maxHeartbeats 1000000 in
set_option maxRecDepth 100000 in
theorem revI_spec (ls : List Int) (o n k : Nat) (T : List E) (hT : TailC T 32 38) (hl : o + n ≤ ls.length) (hn : n ≤ 1000) :
    SpecM Try.prog 77 [V.c (.sub 32 o n k)] (⟨32, .vec 3 1, ls.map C.i⟩ :: T) 38 (fun v L' nx' => v = V.tup [] ∧ L' = ⟨32, .vec 3 1, (revX ls 0 o n n).map C.i⟩ :: T ∧ nx' = 38) := by
  refine SpecM.of tok Try.func77 rfl rfl rfl fun n0 cx => vc_ok tok ?_
  repeat ((conv => whnf); first
      | (refine And.intro (by first | omega | exact Nat.le_of_ble_eq_true rfl | (dsimp only [inK]; omega) | (simp only [mulS_eq]; omega) | (simp only [mulS_eq, setL_length]; omega) | (simp only [setL_length, List.length_map]; omega) | exact ⟨by omega, by omega, by first | exact Nat.le_of_ble_eq_true rfl | (dsimp only; omega) | (simp only [setL_length]; omega) | (simp only [setL_length, List.length_map]; omega)⟩ | exact ⟨by omega, by first | rfl | omega, by omega, Nat.le_of_ble_eq_true rfl, Nat.le_of_ble_eq_true rfl⟩ | exact ⟨rfl, rfl, rfl, Nat.le_of_ble_eq_true rfl, by first | rfl | omega | exact Nat.le_of_ble_eq_true rfl | (dsimp only; omega) | (simp; done) | (simp; omega), by first | rfl | omega | exact Nat.le_of_ble_eq_true rfl | (dsimp only; omega) | (simp; done) | (simp; omega), by omega, Nat.le_of_ble_eq_true rfl⟩ | exact Eq.refl true) ?_)
      | (refine Exists.intro _ (And.intro rfl ?_))
      | (refine And.intro (And.intro rfl (chk_rowI _ _ _ _)) ?_)
      | (refine br_t (by omega) ?_)
      | (refine br_f (by omega) ?_)
      | (refine bs_t (by omega) ?_)
      | (refine bs_f (by omega) ?_)
      | (refine fun (K' : K3) hK' => ?_)
      | (refine hK' _ _ _ ?_; clear hK' K')
      | (refine draw_auto tok mixed (by kernel_rfl) ?_)
      | (refine bs_bt (Eq.refl true) ?_)
      | (refine bs_bf (Eq.refl false) ?_)
      | (refine br_bt (Eq.refl true) ?_)
      | (refine br_bf (Eq.refl false) ?_)
      | (refine CallK.m ?_)
      | (refine And.intro (And.intro rfl rfl) ?_))
  refine Tri.loop (γ := Nat) (fun x => 2 * x ≤ n + 1 ∧ (1 ≤ n ∨ x = 0)) (fun x => [(0, V.c (.sub 32 o n k)), (2, V.i (x : Int)), (3, V.i ((n : Int) - 1 - x))])
    (fun x => ⟨32, .vec 3 1, (revX ls 0 o n x).map C.i⟩ :: T) 38 (fun x => n + 1 - 2 * x) 0 (R0 := []) ?_ ?_ ?_
  · exact ⟨by omega, by omega⟩
  · rw [revX_zero]
    refine ⟨?_, ⟨covE_id (Nat.le_of_ble_eq_true rfl) (wf_ints _ _) rfl rfl, cov_c hT (fun e he => by (try simp only [flatN]); rw [find_skip (fun e1 => (hT.lab e he).1 e1.symm)])⟩, inj_c hT, rfl, Nat.le_refl _⟩
    repeat (first | exact trivial | refine And.intro (covS_syn (by first | rfl | (refine congrArg some (congrArg V.i ?_); omega)) rfl (by first | exact trivial | exact Nat.le_of_ble_eq_true rfl)) ?_)
  · rintro x ⟨hx, hx1⟩
    refine vc_ok tok ?_
    by_cases hlt : 2 * x + 1 < n
    · have hb : o + (n - 1 - x) < (revX ls 0 o n x).length := by rw [revX_len]; omega
      have ha : o + x < (revX ls 0 o n x).length := by rw [revX_len]; omega
      have hj : (n : Int) - 1 - x = ((n - 1 - x : Nat) : Int) := by omega
      have hlen : ((revX ls 0 o n x).map C.i).length = ls.length := by rw [List.length_map, revX_len]
      have hset := revX_step (l := ls) (d := 0) hl hlt
      repeat ((conv => whnf); first
          | (refine And.intro (by first | omega | exact Nat.le_of_ble_eq_true rfl | (dsimp only [inK]; omega) | (simp only [mulS_eq]; omega) | (simp only [mulS_eq, setL_length]; omega) | (simp only [setL_length, List.length_map]; omega) | exact ⟨by omega, by omega, by first | exact Nat.le_of_ble_eq_true rfl | (dsimp only; omega) | (simp only [setL_length]; omega) | (simp only [setL_length, List.length_map]; omega)⟩ | exact ⟨by omega, by first | rfl | omega, by omega, Nat.le_of_ble_eq_true rfl, Nat.le_of_ble_eq_true rfl⟩ | exact ⟨rfl, rfl, rfl, Nat.le_of_ble_eq_true rfl, by first | rfl | omega | exact Nat.le_of_ble_eq_true rfl | (dsimp only; omega) | (simp; done) | (simp; omega), by first | rfl | omega | exact Nat.le_of_ble_eq_true rfl | (dsimp only; omega) | (simp; done) | (simp; omega), by omega, Nat.le_of_ble_eq_true rfl⟩ | exact Eq.refl true) ?_)
          | (with_reducible refine ld (intSub hj hb) ?_)
          | (with_reducible refine ld (intSub rfl ha) ?_)
          | (refine Exists.intro _ (And.intro rfl ?_))
          | (refine And.intro (And.intro rfl (chk_rowI _ _ _ _)) ?_)
          | (refine br_t (by omega) ?_)
          | (refine br_f (by omega) ?_)
          | (refine bs_t (by omega) ?_)
          | (refine bs_f (by omega) ?_)
          | (refine fun (K' : K3) hK' => ?_)
          | (refine hK' _ _ _ ?_; clear hK' K')
          | (refine draw_late 14 [32] tok mixed (by decide +kernel) ?_)
          | (refine draw_auto tok mixed (by kernel_rfl) ?_)
          | (refine And.intro (by dsimp only; simp only [addO_eq, mulS_eq, setL_length, List.length_map, revX_len]; omega) ?_)
          | (with_reducible refine visC_c hT ?_)
          | (refine relC_c hT (Nat.le_refl _) ?_)
          | (with_reducible refine updK_c hT ?_)
          | (refine bs_bt (Eq.refl true) ?_)
          | (refine bs_bf (Eq.refl false) ?_)
          | (refine br_bt (Eq.refl true) ?_)
          | (refine br_bf (Eq.refl false) ?_)
          | (refine CallK.m ?_)
          | (refine And.intro (And.intro rfl rfl) ?_))
      refine ⟨x + 1, [], ⟨by omega, by omega⟩, by omega, ?_⟩
      refine ⟨?_, ⟨covE_id (Nat.le_of_ble_eq_true rfl) (wf_ints _ _) rfl (by rw [← hset]; exact int_swap2 rfl hj), cov_c hT (fun e he => by (try simp only [flatN]); rw [find_skip (fun e1 => (hT.lab e he).1 e1.symm)])⟩, inj_c hT, rfl, Nat.le_refl _⟩
      repeat (first | exact trivial | refine And.intro (covS_syn (by first | rfl | (refine congrArg some (congrArg V.i ?_); omega)) rfl (by first | exact trivial | exact Nat.le_of_ble_eq_true rfl)) ?_)
    · have hd := revX_done (l := ls) (d := 0) (o := o) (n := n) (x := x) (by omega)
      repeat ((conv => whnf); first
          | (refine And.intro (by first | omega | exact Nat.le_of_ble_eq_true rfl | (dsimp only [inK]; omega) | (simp only [mulS_eq]; omega) | (simp only [mulS_eq, setL_length]; omega) | (simp only [setL_length, List.length_map]; omega) | exact ⟨by omega, by omega, by first | exact Nat.le_of_ble_eq_true rfl | (dsimp only; omega) | (simp only [setL_length]; omega) | (simp only [setL_length, List.length_map]; omega)⟩ | exact ⟨by omega, by first | rfl | omega, by omega, Nat.le_of_ble_eq_true rfl, Nat.le_of_ble_eq_true rfl⟩ | exact ⟨rfl, rfl, rfl, Nat.le_of_ble_eq_true rfl, by first | rfl | omega | exact Nat.le_of_ble_eq_true rfl | (dsimp only; omega) | (simp; done) | (simp; omega), by first | rfl | omega | exact Nat.le_of_ble_eq_true rfl | (dsimp only; omega) | (simp; done) | (simp; omega), by omega, Nat.le_of_ble_eq_true rfl⟩ | exact Eq.refl true) ?_)
          | (refine Exists.intro _ (And.intro rfl ?_))
          | (refine And.intro (And.intro rfl (chk_rowI _ _ _ _)) ?_)
          | (refine br_t (by omega) ?_)
          | (refine br_f (by omega) ?_)
          | (refine bs_t (by omega) ?_)
          | (refine bs_f (by omega) ?_)
          | (refine fun (K' : K3) hK' => ?_)
          | (refine hK' _ _ _ ?_; clear hK' K')
          | (refine draw_auto tok mixed (by kernel_rfl) ?_)
          | (refine bs_bt (Eq.refl true) ?_)
          | (refine bs_bf (Eq.refl false) ?_)
          | (refine br_bt (Eq.refl true) ?_)
          | (refine br_bf (Eq.refl false) ?_)
          | (refine CallK.m ?_)
          | (refine And.intro (And.intro rfl rfl) ?_))
      exact ⟨rfl, by rw [hd], rfl⟩
theorem backI_spec (lc n nx : Nat) (L : List E) : SpecM Try.prog 76 [V.c (.sl lc n)] L nx (fun v L' nx' => v = V.c (.fn 85 [(nx, 0)]) ∧ L' = ⟨nx, .own 35, [.sl lc n]⟩ :: L ∧ nx' = nx + 1) := by
  refine SpecM.of tok Try.func76 rfl rfl rfl fun n0 cx => vc_ok tok ?_
  repeat ((conv => whnf); first
      | (refine And.intro (by first | omega | exact Nat.le_of_ble_eq_true rfl | (dsimp only [inK]; omega) | (simp only [mulS_eq]; omega) | (simp only [mulS_eq, setL_length]; omega) | (simp only [setL_length, List.length_map]; omega) | exact ⟨by omega, by omega, by first | exact Nat.le_of_ble_eq_true rfl | (dsimp only; omega) | (simp only [setL_length]; omega) | (simp only [setL_length, List.length_map]; omega)⟩ | exact ⟨by omega, by first | rfl | omega, by omega, Nat.le_of_ble_eq_true rfl, Nat.le_of_ble_eq_true rfl⟩ | exact ⟨rfl, rfl, rfl, Nat.le_of_ble_eq_true rfl, by first | rfl | omega | exact Nat.le_of_ble_eq_true rfl | (dsimp only; omega) | (simp; done) | (simp; omega), by first | rfl | omega | exact Nat.le_of_ble_eq_true rfl | (dsimp only; omega) | (simp; done) | (simp; omega), by omega, Nat.le_of_ble_eq_true rfl⟩ | exact Eq.refl true) ?_)
      | (refine Exists.intro _ (And.intro rfl ?_))
      | (refine And.intro (And.intro rfl (chk_rowI _ _ _ _)) ?_)
      | (refine br_t (by omega) ?_)
      | (refine br_f (by omega) ?_)
      | (refine bs_t (by omega) ?_)
      | (refine bs_f (by omega) ?_)
      | (refine fun (K' : K3) hK' => ?_)
      | (refine hK' _ _ _ ?_; clear hK' K')
      | (refine draw_auto tok mixed (by kernel_rfl) ?_)
      | (refine bs_bt (Eq.refl true) ?_)
      | (refine bs_bf (Eq.refl false) ?_)
      | (refine br_bt (Eq.refl true) ?_)
      | (refine br_bf (Eq.refl false) ?_)
      | (refine CallK.m ?_)
      | (refine And.intro (And.intro rfl rfl) ?_))
  exact ⟨rfl, rfl, rfl⟩
end Go.Proofs.Ytjijjncddjkdlaa

/- Shore: Next. -/
namespace Go.Proofs.Ytjijjncddjkdlaa
open Go.RowKit
set_option linter.unusedVariables false
set_option linter.unusedSimpArgs false
theorem CallM.perm {P : Program} {n0 : Nat} {f : FuncId} {vs : List V} {L L' : List E} {nx : Nat} {K : V → List E → Nat → Prop} (h : ∀ e ∈ L', e ∈ L) (hc : CallM P n0 f vs L' nx K) : CallM P n0 f vs L nx K :=
  ⟨hc.ok, fun ρ w hp hv => hc.run ρ w (hp.mono h (Nat.le_refl _)) hv⟩
/-- The last place with a greater number behind it. -/
structure PivAt (o : List Int) (k : Nat) : Prop where
  lt : k + 1 < o.length
  up : o.getD k 0 < o.getD (k + 1) 0
  rest : ∀ m, k < m → m + 1 < o.length → o.getD m 0 ≥ o.getD (m + 1) 0
def NoPiv (o : List Int) : Prop := ∀ m, m + 1 < o.length → o.getD m 0 ≥ o.getD (m + 1) 0
/-- The last number behind it that is greater. -/
structure LastAt (o : List Int) (k i : Nat) : Prop where
  gt : k < i
  lt : i < o.length
  up : o.getD k 0 < o.getD i 0
  rest : ∀ m, i < m → m < o.length → ¬ o.getD k 0 < o.getD m 0
def nextR (o : List Int) (k i : Nat) : List Int := revX ((o.set k (o.getD i 0)).set i (o.getD k 0)) 0 (k + 1) (o.length - (k + 1)) (o.length - (k + 1))
theorem nextR_len {o : List Int} {k i : Nat} : (nextR o k i).length = o.length := by simp [nextR, revX_len]
theorem next_tail {j : Coast} {o : List Int} {n : Nat} {k : Int} (hj : Sized j) : TailC (⟨35, .own 35, [.sl 32 n]⟩ :: ⟨34, .own 3, [C.i k]⟩ :: ⟨33, .own 35, [.sl 32 n]⟩ :: ⟨0, .ro 1, slsC 1 j⟩ :: ⟨21, .ro 0, o.map C.i⟩ :: entC 1 j) 32 38 := by
  have hj20 := hj.len
  have hlab : ∀ e ∈ (⟨35, .own 35, [.sl 32 n]⟩ :: ⟨34, .own 3, [C.i k]⟩ :: ⟨33, .own 35, [.sl 32 n]⟩ :: ⟨0, .ro 1, slsC 1 j⟩ :: ⟨21, .ro 0, o.map C.i⟩ :: entC 1 j : List E), e.lab ≠ 32 ∧ e.lab < 38 := by
    intro e he
    simp only [List.mem_cons] at he
    rcases he with rfl | rfl | rfl | rfl | rfl | he
    · exact ⟨by simp, by simp⟩
    · exact ⟨by simp, by simp⟩
    · exact ⟨by simp, by simp⟩
    · exact ⟨by simp, by simp⟩
    · exact ⟨by simp, by simp⟩
    · obtain ⟨i, hi, rfl⟩ := entC_mem he
      simp only; omega
  refine ⟨?_, hlab, ?_, fun e he m hm => by have := hlab e he; omega⟩
  · simp only [List.map_cons, entC_labs]
    have hr : ∀ x, (x = 0 ∨ 21 ≤ x) → x ∉ List.range' 1 j.length := fun x hx hm => by have := List.mem_range'_1.1 hm; omega
    simp only [List.nodup_cons, List.mem_cons]
    refine ⟨?_, ?_, ?_, ?_, ?_, range_nd _ _⟩
    · rintro (h | h | h | h | h)
      · omega
      · omega
      · omega
      · omega
      · exact hr _ (by omega) h
    · rintro (h | h | h | h)
      · omega
      · omega
      · omega
      · exact hr _ (by omega) h
    · rintro (h | h | h)
      · omega
      · omega
      · exact hr _ (by omega) h
    · rintro (h | h)
      · omega
      · exact hr _ (by omega) h
    · exact hr _ (by omega)
  · intro e he
    simp only [List.mem_cons] at he
    rcases he with rfl | rfl | rfl | rfl | rfl | he
    · intro c hc; simp only [List.mem_singleton] at hc; subst hc; show 32 < 38; omega
    · intro c hc; simp only [List.mem_singleton] at hc; subst hc; trivial
    · intro c hc; simp only [List.mem_singleton] at hc; subst hc; show 32 < 38; omega
    · exact wf_sls _ _ _ (by omega)
    · exact wf_ints _ _
    · obtain ⟨i, hi, rfl⟩ := entC_mem he
      exact wf_jobs _ _
end Go.Proofs.Ytjijjncddjkdlaa

/- Shore: Next, walked. -/
namespace Go.Proofs.Ytjijjncddjkdlaa
open Go.RowKit
set_option linter.unusedVariables false
set_option linter.unusedSimpArgs false
theorem Tri.opq {P : Program} {n0 : Nat} {cx : Cx} {N na : Nat} {code : Code} {K : Kt} {s : S} {L : List E} {nx : Nat} (h : ∀ K' : Kt, (∀ e s L nx, K e s L nx → K' e s L nx) → Tri P n0 cx N na code K' s L nx) : Tri P n0 cx N na code K s L nx :=
  h K fun _ _ _ _ hk => hk
set_option maxHeartbeats 2000000 in
set_option maxRecDepth 100000 in
theorem next_spec (j : Coast) (o : List Int) (k i : Nat) (hj : Sized j) (ho : o.length ≤ 200) (hv : validL j = true) (hi : isOrdB j o = true) (hp : PivAt o k) (hla : LastAt o k i) :
    Spec Try.prog 47 [V.c (.sl 0 j.length), V.c (.sl 21 o.length)] (⟨0, .ro 1, slsC 1 j⟩ :: ⟨21, .ro 0, o.map C.i⟩ :: entC 1 j) 32 (fun v L' _ => intsX (nextR o k i) 0 v L') := by
  have hj20 := hj.len
  have hlen := slsC_len (b := 1) (j := j)
  have hO := hasO0 (o := o) hj
  have hom : (o.map C.i).length = o.length := by simp
  have hkl := hp.lt
  refine Spec.of tok Try.func47 rfl rfl rfl fun n0 cx => vc_ok tok ?_
  repeat ((conv => whnf); first
      | (refine And.intro (by first | omega | exact Nat.le_of_ble_eq_true rfl | (dsimp only [inK]; omega) | (simp only [mulS_eq]; omega) | (simp only [mulS_eq, setL_length]; omega) | (simp only [setL_length, List.length_map]; omega) | exact ⟨by omega, by omega, by first | exact Nat.le_of_ble_eq_true rfl | (dsimp only; omega) | (simp only [setL_length]; omega) | (simp only [setL_length, List.length_map]; omega)⟩ | exact ⟨by omega, by first | rfl | omega, by omega, Nat.le_of_ble_eq_true rfl, Nat.le_of_ble_eq_true rfl⟩ | exact ⟨rfl, rfl, rfl, Nat.le_of_ble_eq_true rfl, by first | rfl | omega | exact Nat.le_of_ble_eq_true rfl | (dsimp only; omega) | (simp; done) | (simp; omega), by first | rfl | omega | exact Nat.le_of_ble_eq_true rfl | (dsimp only; omega) | (simp; done) | (simp; omega), by omega, Nat.le_of_ble_eq_true rfl⟩ | exact Eq.refl true) ?_)
      | (refine Exists.intro _ (And.intro rfl ?_))
      | (refine And.intro (And.intro rfl (chk_rowI _ _ _ _)) ?_)
      | (refine br_t (by omega) ?_)
      | (refine br_f (by omega) ?_)
      | (refine bs_t (by omega) ?_)
      | (refine bs_f (by omega) ?_)
      | (refine fun (K' : K3) hK' => ?_)
      | (refine hK' _ _ _ ?_; clear hK' K')
      | (refine CallM.eq (by kernel_rfl) (ordered_spec j o hj ho _ _ hO) ?_)
      | (refine draw_auto tok mixed (by kernel_rfl) ?_)
      | (rw [hv])
      | (rw [hi])
      | (refine clone_k (by omega) rfl ?_)
      | (with_reducible refine updK_ent (by omega) ?_)
      | (refine bs_bt (Eq.refl true) ?_)
      | (refine bs_bf (Eq.refl false) ?_)
      | (refine br_bt (Eq.refl true) ?_)
      | (refine br_bf (Eq.refl false) ?_)
      | (refine CallK.m ?_)
      | (refine And.intro (And.intro rfl rfl) ?_))
  refine Tri.loop (γ := Nat) (fun q => k ≤ q ∧ q + 1 < o.length) (fun q => [(8, V.c (.ptr 33 0)), (9, V.c (.ptr 34 0))])
    (fun q => ⟨34, .own 3, [C.i (q : Nat)]⟩ :: ⟨33, .own 35, [.sl 32 o.length]⟩ :: ⟨32, .vec 3 1, o.map C.i⟩ :: ⟨0, .ro 1, slsC 1 j⟩ :: ⟨21, .ro 0, o.map C.i⟩ :: entC 1 j) 35 (fun q => q) (o.length - 2) (R0 := []) ?_ ?_ ?_
  · exact ⟨by omega, by omega⟩
  · skip
    refine ⟨?_, ?_, injB_ent (p := [_, _, _, _, _]) (by omega) rfl rfl, rfl, by first | exact Nat.le_of_ble_eq_true rfl | exact Nat.le_refl _ | omega⟩
    · repeat (first | exact trivial | refine And.intro (covS_syn (by first | rfl | (refine congrArg some (congrArg V.i ?_); omega)) rfl (by first | exact trivial | exact Nat.le_of_ble_eq_true rfl | exact hy | exact (fun p hp => nomatch hp) | (show (_ : Nat) < _; omega))) ?_ | refine And.intro (covS_bool rfl rfl (by first | rfl)) ?_)
    · repeat (first | exact trivial | (exact covL_ent (by omega) (fun k hk => by (try simp only [flatN]); (repeat (first | rw [find_skip (by omega)] | rw [find_hi (by omega) (by rfl)])))) | refine And.intro (covE_id (Nat.le_of_ble_eq_true rfl) (by first | exact wf_ints _ _ | exact wf_bools _ _ | first | exact wf_sls _ _ _ (by omega) | exact wf_jobs _ _ | simp [C.wf]) rfl (by first | rfl | ((refine congrArg (fun z => [C.i z]) ?_; omega)))) ?_)
  · rintro q ⟨hq1, hq2⟩
    refine vc_ok tok ?_
    by_cases hqk : q = k
    · subst hqk
      have hup := hp.up
      repeat ((conv => whnf); first
          | (refine And.intro (by first | omega | exact Nat.le_of_ble_eq_true rfl | (dsimp only [inK]; omega) | (simp only [mulS_eq]; omega) | (simp only [mulS_eq, setL_length]; omega) | (simp only [setL_length, List.length_map]; omega) | exact ⟨by omega, by omega, by first | exact Nat.le_of_ble_eq_true rfl | (dsimp only; omega) | (simp only [setL_length]; omega) | (simp only [setL_length, List.length_map]; omega)⟩ | exact ⟨by omega, by first | rfl | omega, by omega, Nat.le_of_ble_eq_true rfl, Nat.le_of_ble_eq_true rfl⟩ | exact ⟨rfl, rfl, rfl, Nat.le_of_ble_eq_true rfl, by first | rfl | omega | exact Nat.le_of_ble_eq_true rfl | (dsimp only; omega) | (simp; done) | (simp; omega), by first | rfl | omega | exact Nat.le_of_ble_eq_true rfl | (dsimp only; omega) | (simp; done) | (simp; omega), by omega, Nat.le_of_ble_eq_true rfl⟩ | exact Eq.refl true) ?_)
          | (with_reducible refine ld (intLz (k := q) rfl (by omega)) ?_)
          | (with_reducible refine ld (intLz (k := q + 1) (by omega) (by omega)) ?_)
          | (refine Exists.intro _ (And.intro rfl ?_))
          | (refine And.intro (And.intro rfl (chk_rowI _ _ _ _)) ?_)
          | (refine br_t (by omega) ?_)
          | (refine br_f (by omega) ?_)
          | (refine bs_t (by omega) ?_)
          | (refine bs_f (by omega) ?_)
          | (refine fun (K' : K3) hK' => ?_)
          | (refine hK' _ _ _ ?_; clear hK' K')
          | (refine CallM.eq (by kernel_rfl) (backI_spec _ _ _ _) ?_)
          | (refine draw_auto tok mixed (by kernel_rfl) ?_)
          | (refine bs_bt (Eq.refl true) ?_)
          | (refine bs_bf (Eq.refl false) ?_)
          | (refine br_bt (Eq.refl true) ?_)
          | (refine br_bf (Eq.refl false) ?_)
          | (refine CallK.m ?_)
          | (refine And.intro (And.intro rfl rfl) ?_))
      refine Tri.opq fun K' hK' => ?_
      refine Tri.rangeFunc tok (by exact rfl) (by kernel_rfl) (by exact rfl) (by exact rfl) (by exact rfl) (by exact rfl) (by exact rfl) (by exact rfl) ?_
      intro y cxi oo ob od hy hY
      refine vc_ok tok ?_
      repeat ((conv => whnf); first
          | (refine And.intro (by first | omega | exact Nat.le_of_ble_eq_true rfl | (dsimp only [inK]; omega) | (simp only [mulS_eq]; omega) | (simp only [mulS_eq, setL_length]; omega) | (simp only [setL_length, List.length_map]; omega) | exact ⟨by omega, by omega, by first | exact Nat.le_of_ble_eq_true rfl | (dsimp only; omega) | (simp only [setL_length]; omega) | (simp only [setL_length, List.length_map]; omega)⟩ | exact ⟨by omega, by first | rfl | omega, by omega, Nat.le_of_ble_eq_true rfl, Nat.le_of_ble_eq_true rfl⟩ | exact ⟨rfl, rfl, rfl, Nat.le_of_ble_eq_true rfl, by first | rfl | omega | exact Nat.le_of_ble_eq_true rfl | (dsimp only; omega) | (simp; done) | (simp; omega), by first | rfl | omega | exact Nat.le_of_ble_eq_true rfl | (dsimp only; omega) | (simp; done) | (simp; omega), by omega, Nat.le_of_ble_eq_true rfl⟩ | exact Eq.refl true) ?_)
          | (refine Exists.intro _ (And.intro rfl ?_))
          | (refine And.intro (And.intro rfl (chk_rowI _ _ _ _)) ?_)
          | (refine br_t (by omega) ?_)
          | (refine br_f (by omega) ?_)
          | (refine bs_t (by omega) ?_)
          | (refine bs_f (by omega) ?_)
          | (refine fun (K' : K3) hK' => ?_)
          | (refine hK' _ _ _ ?_; clear hK' K')
          | (refine draw_auto tok mixed (by kernel_rfl) ?_)
          | (refine bs_bt (Eq.refl true) ?_)
          | (refine bs_bf (Eq.refl false) ?_)
          | (refine br_bt (Eq.refl true) ?_)
          | (refine br_bf (Eq.refl false) ?_)
          | (refine CallK.m ?_)
          | (refine And.intro (And.intro rfl rfl) ?_))
      refine Tri.loop (γ := Nat) (fun m => i + m < o.length) (fun m => [(0, V.c (.v y)), (1, V.c (.ptr 35 0)), (3, V.i ((o.length : Int) - 1 - m))])
        (fun m => ⟨36, .obj oo, []⟩ :: ⟨35, .own 35, [.sl 32 o.length]⟩ :: ⟨34, .own 3, [C.i (q : Nat)]⟩ :: ⟨33, .own 35, [.sl 32 o.length]⟩ :: ⟨32, .vec 3 1, o.map C.i⟩ :: ⟨0, .ro 1, slsC 1 j⟩ :: ⟨21, .ro 0, o.map C.i⟩ :: entC 1 j) 37 (fun m => o.length - m) 0 (R0 := []) ?_ ?_ ?_
      · have := hla.lt; omega
      · skip
        refine ⟨?_, ?_, injB_ent (p := [_, _, _, _, _, _, _]) (by omega) rfl rfl, rfl, by first | exact Nat.le_of_ble_eq_true rfl | exact Nat.le_refl _ | omega⟩
        · repeat (first | exact trivial | refine And.intro (covS_syn (by first | rfl | (refine congrArg some (congrArg V.i ?_); omega)) rfl (by first | exact trivial | exact Nat.le_of_ble_eq_true rfl | exact hy | exact (fun p hp => nomatch hp) | (show (_ : Nat) < _; omega))) ?_ | refine And.intro (covS_bool rfl rfl (by first | rfl)) ?_)
        · repeat (first | exact trivial | (exact covL_ent (by omega) (fun k hk => by (try simp only [flatN]); (repeat (first | rw [find_skip (by omega)] | rw [find_hi (by omega) (by rfl)])))) | refine And.intro (covE_id (Nat.le_of_ble_eq_true rfl) (by first | exact wf_ints _ _ | exact wf_bools _ _ | first | exact wf_sls _ _ _ (by omega) | exact wf_jobs _ _ | simp [C.wf]) rfl (by first | rfl)) ?_)
      · intro m hm
        refine vc_ok tok ?_
        have hil := hla.lt
        have hig := hla.gt
        by_cases hmi : i = o.length - 1 - m
        · have hiu := hla.up
          repeat ((conv => whnf); first
              | (refine And.intro (by first | omega | exact Nat.le_of_ble_eq_true rfl | (dsimp only [inK]; omega) | (simp only [mulS_eq]; omega) | (simp only [mulS_eq, setL_length]; omega) | (simp only [setL_length, List.length_map]; omega) | exact ⟨by omega, by omega, by first | exact Nat.le_of_ble_eq_true rfl | (dsimp only; omega) | (simp only [setL_length]; omega) | (simp only [setL_length, List.length_map]; omega)⟩ | exact ⟨by omega, by first | rfl | omega, by omega, Nat.le_of_ble_eq_true rfl, Nat.le_of_ble_eq_true rfl⟩ | exact ⟨rfl, rfl, rfl, Nat.le_of_ble_eq_true rfl, by first | rfl | omega | exact Nat.le_of_ble_eq_true rfl | (dsimp only; omega) | (simp; done) | (simp; omega), by first | rfl | omega | exact Nat.le_of_ble_eq_true rfl | (dsimp only; omega) | (simp; done) | (simp; omega), by omega, Nat.le_of_ble_eq_true rfl⟩ | exact Eq.refl true) ?_)
              | (with_reducible refine ld (intLz (k := i) (by omega) hil) ?_)
              | (refine Exists.intro _ (And.intro rfl ?_))
              | (refine And.intro (And.intro rfl (chk_rowI _ _ _ _)) ?_)
              | (refine br_t (by omega) ?_)
              | (refine br_f (by omega) ?_)
              | (refine bs_t (by omega) ?_)
              | (refine bs_f (by omega) ?_)
              | (refine fun (K' : K3) hK' => ?_)
              | (refine hK' _ _ _ ?_; clear hK' K')
              | (refine draw_auto tok mixed (by kernel_rfl) ?_)
              | (refine bs_bt (Eq.refl true) ?_)
              | (refine bs_bf (Eq.refl false) ?_)
              | (refine br_bt (Eq.refl true) ?_)
              | (refine br_bf (Eq.refl false) ?_)
              | (refine CallK.m ?_)
              | (refine And.intro (And.intro rfl rfl) ?_))
          refine hY _ _ _ _ (Nat.le_of_ble_eq_true rfl) rfl ⟨rfl, trivial⟩ ?_
          intro cxb hcx
          refine vc_ok tok ?_
          repeat ((conv => whnf); first
              | (refine And.intro (by first | omega | exact Nat.le_of_ble_eq_true rfl | (dsimp only [inK]; omega) | (simp only [mulS_eq]; omega) | (simp only [mulS_eq, setL_length]; omega) | (simp only [setL_length, List.length_map]; omega) | exact ⟨by omega, by omega, by first | exact Nat.le_of_ble_eq_true rfl | (dsimp only; omega) | (simp only [setL_length]; omega) | (simp only [setL_length, List.length_map]; omega)⟩ | exact ⟨by omega, by first | rfl | omega, by omega, Nat.le_of_ble_eq_true rfl, Nat.le_of_ble_eq_true rfl⟩ | exact ⟨rfl, rfl, rfl, Nat.le_of_ble_eq_true rfl, by first | rfl | omega | exact Nat.le_of_ble_eq_true rfl | (dsimp only; omega) | (simp; done) | (simp; omega), by first | rfl | omega | exact Nat.le_of_ble_eq_true rfl | (dsimp only; omega) | (simp; done) | (simp; omega), by omega, Nat.le_of_ble_eq_true rfl⟩ | exact Eq.refl true) ?_)
              | (refine Exists.intro _ (And.intro rfl ?_))
              | (refine And.intro (And.intro rfl (chk_rowI _ _ _ _)) ?_)
              | (refine br_t (by omega) ?_)
              | (refine br_f (by omega) ?_)
              | (refine bs_t (by omega) ?_)
              | (refine bs_f (by omega) ?_)
              | (refine fun (K' : K3) hK' => ?_)
              | (refine hK' _ _ _ ?_; clear hK' K')
              | (refine draw_auto tok mixed (by kernel_rfl) ?_)
              | (with_reducible refine updK_ent (by omega) ?_)
              | (with_reducible refine updO_ent (by omega) ?_)
              | (with_reducible refine rmK_ent (by omega) ?_)
              | (with_reducible refine visC_ent rfl (by omega) ?_)
              | (refine relC_ent rfl (by omega) ?_)
              | (refine And.intro (Eq.refl oo) ?_)
              | (refine bs_bt (Eq.refl true) ?_)
              | (refine bs_bf (Eq.refl false) ?_)
              | (refine br_bt (Eq.refl true) ?_)
              | (refine br_bf (Eq.refl false) ?_)
              | (refine CallK.m ?_)
              | (refine And.intro (And.intro rfl rfl) ?_))
          refine vc_ok tok ?_
          repeat ((conv => whnf); first
              | (refine And.intro (by first | omega | exact Nat.le_of_ble_eq_true rfl | (dsimp only [inK]; omega) | (simp only [mulS_eq]; omega) | (simp only [mulS_eq, setL_length]; omega) | (simp only [setL_length, List.length_map]; omega) | exact ⟨by omega, by omega, by first | exact Nat.le_of_ble_eq_true rfl | (dsimp only; omega) | (simp only [setL_length]; omega) | (simp only [setL_length, List.length_map]; omega)⟩ | exact ⟨by omega, by first | rfl | omega, by omega, Nat.le_of_ble_eq_true rfl, Nat.le_of_ble_eq_true rfl⟩ | exact ⟨rfl, rfl, rfl, Nat.le_of_ble_eq_true rfl, by first | rfl | omega | exact Nat.le_of_ble_eq_true rfl | (dsimp only; omega) | (simp; done) | (simp; omega), by first | rfl | omega | exact Nat.le_of_ble_eq_true rfl | (dsimp only; omega) | (simp; done) | (simp; omega), by omega, Nat.le_of_ble_eq_true rfl⟩ | exact Eq.refl true) ?_)
              | (with_reducible refine ld (intLz (k := q) rfl (by omega)) ?_)
              | (refine Exists.intro _ (And.intro rfl ?_))
              | (refine And.intro (And.intro rfl (chk_rowI _ _ _ _)) ?_)
              | (refine br_t (by omega) ?_)
              | (refine br_f (by omega) ?_)
              | (refine bs_t (by omega) ?_)
              | (refine bs_f (by omega) ?_)
              | (refine fun (K' : K3) hK' => ?_)
              | (refine hK' _ _ _ ?_; clear hK' K')
              | (refine draw_late 11 [32] tok mixed (by decide +kernel) ?_)
              | (refine draw_auto tok mixed (by kernel_rfl) ?_)
              | (refine br_t hiu ?_)
              | (with_reducible refine updK_ent (by omega) ?_)
              | (with_reducible refine updO_ent (by omega) ?_)
              | (with_reducible refine rmK_ent (by omega) ?_)
              | (with_reducible refine visC_ent rfl (by omega) ?_)
              | (refine relC_ent rfl (by omega) ?_)
              | (refine And.intro (Eq.refl ob) ?_)
              | (refine bs_bt (Eq.refl true) ?_)
              | (refine bs_bf (Eq.refl false) ?_)
              | (refine br_bt (Eq.refl true) ?_)
              | (refine br_bf (Eq.refl false) ?_)
              | (refine CallK.m ?_)
              | (refine And.intro (And.intro rfl rfl) ?_))
          have hsw : setL (setL (o.map C.i) (mulS ((q : Nat) : Int).toNat 1) [C.i (o.getD i 0)]) (mulS ((o.length : Int) - 1 - m).toNat 1) [C.i (o.getD q 0)] = ((o.set q (o.getD i 0)).set i (o.getD q 0)).map C.i := by
            rw [mulS_eq, mulS_eq, show ((o.length : Int) - 1 - m).toNat = i by omega]
            simp only [setL, Int.toNat_natCast, Nat.mul_one, List.map_set]
          have hswl : ((o.set q (o.getD i 0)).set i (o.getD q 0)).length = o.length := by simp
          have hrev := fun cp => revI_spec ((o.set q (o.getD i 0)).set i (o.getD q 0)) (q + 1) (o.length - (q + 1)) cp _ (next_tail (o := o) (n := o.length) (k := (q : Nat)) hj) (by omega) (by omega)
          rw [← hsw] at hrev
          refine Or.inr (Or.inr ⟨2, ?_⟩)
          refine And.intro (Eq.refl (od (Code.exit 2))) ?_
          conv => whnf
          with_reducible refine rmK_ent (by omega) ?_
          refine hK' _ _ _ _ ?_
          repeat ((conv => whnf); first
              | (refine And.intro (by first | omega | exact Nat.le_of_ble_eq_true rfl | (dsimp only [inK]; omega) | (simp only [mulS_eq]; omega) | (simp only [mulS_eq, setL_length]; omega) | (simp only [setL_length, List.length_map]; omega) | exact ⟨by omega, by omega, by first | exact Nat.le_of_ble_eq_true rfl | (dsimp only; omega) | (simp only [setL_length]; omega) | (simp only [setL_length, List.length_map]; omega)⟩ | exact ⟨by omega, by first | rfl | omega, by omega, Nat.le_of_ble_eq_true rfl, Nat.le_of_ble_eq_true rfl⟩ | exact ⟨rfl, rfl, rfl, Nat.le_of_ble_eq_true rfl, by first | rfl | omega | exact Nat.le_of_ble_eq_true rfl | (dsimp only; omega) | (simp; done) | (simp; omega), by first | rfl | omega | exact Nat.le_of_ble_eq_true rfl | (dsimp only; omega) | (simp; done) | (simp; omega), by omega, Nat.le_of_ble_eq_true rfl⟩ | exact Eq.refl true) ?_)
              | (refine Exists.intro _ (And.intro rfl ?_))
              | (refine And.intro (And.intro rfl (chk_rowI _ _ _ _)) ?_)
              | (refine br_t (by omega) ?_)
              | (refine br_f (by omega) ?_)
              | (refine bs_t (by omega) ?_)
              | (refine bs_f (by omega) ?_)
              | (refine fun (K' : K3) hK' => ?_)
              | (refine hK' _ _ _ ?_; clear hK' K')
              | (refine CallM.eq (by kernel_rfl) (hrev _) ?_)
              | (refine draw_auto tok mixed (by kernel_rfl) ?_)
              | (refine And.intro (by dsimp only; simp only [setL_length, List.length_map]; omega) ?_)
              | (refine And.intro (by refine ⟨rfl, by omega, by omega, by omega, ?_⟩; dsimp only; simp only [setL_length, List.length_map]; omega) ?_)
              | (refine bs_bt (Eq.refl true) ?_)
              | (refine bs_bf (Eq.refl false) ?_)
              | (refine br_bt (Eq.refl true) ?_)
              | (refine br_bf (Eq.refl false) ?_)
              | (refine CallK.m ?_)
              | (refine And.intro (And.intro rfl rfl) ?_))
          exact .inr ⟨32, congrArg (C.sl 32) nextR_len.symm, rfl⟩
        · have hno := hla.rest (o.length - 1 - m) (by omega) (by omega)
          repeat ((conv => whnf); first
              | (refine And.intro (by first | omega | exact Nat.le_of_ble_eq_true rfl | (dsimp only [inK]; omega) | (simp only [mulS_eq]; omega) | (simp only [mulS_eq, setL_length]; omega) | (simp only [setL_length, List.length_map]; omega) | exact ⟨by omega, by omega, by first | exact Nat.le_of_ble_eq_true rfl | (dsimp only; omega) | (simp only [setL_length]; omega) | (simp only [setL_length, List.length_map]; omega)⟩ | exact ⟨by omega, by first | rfl | omega, by omega, Nat.le_of_ble_eq_true rfl, Nat.le_of_ble_eq_true rfl⟩ | exact ⟨rfl, rfl, rfl, Nat.le_of_ble_eq_true rfl, by first | rfl | omega | exact Nat.le_of_ble_eq_true rfl | (dsimp only; omega) | (simp; done) | (simp; omega), by first | rfl | omega | exact Nat.le_of_ble_eq_true rfl | (dsimp only; omega) | (simp; done) | (simp; omega), by omega, Nat.le_of_ble_eq_true rfl⟩ | exact Eq.refl true) ?_)
              | (with_reducible refine ld (intLz (k := o.length - 1 - m) (by omega) (by omega)) ?_)
              | (refine Exists.intro _ (And.intro rfl ?_))
              | (refine And.intro (And.intro rfl (chk_rowI _ _ _ _)) ?_)
              | (refine br_t (by omega) ?_)
              | (refine br_f (by omega) ?_)
              | (refine bs_t (by omega) ?_)
              | (refine bs_f (by omega) ?_)
              | (refine fun (K' : K3) hK' => ?_)
              | (refine hK' _ _ _ ?_; clear hK' K')
              | (refine draw_auto tok mixed (by kernel_rfl) ?_)
              | (refine bs_bt (Eq.refl true) ?_)
              | (refine bs_bf (Eq.refl false) ?_)
              | (refine br_bt (Eq.refl true) ?_)
              | (refine br_bf (Eq.refl false) ?_)
              | (refine CallK.m ?_)
              | (refine And.intro (And.intro rfl rfl) ?_))
          refine hY _ _ _ _ (Nat.le_of_ble_eq_true rfl) rfl ⟨rfl, trivial⟩ ?_
          intro cxb hcx
          refine vc_ok tok ?_
          repeat ((conv => whnf); first
              | (refine And.intro (by first | omega | exact Nat.le_of_ble_eq_true rfl | (dsimp only [inK]; omega) | (simp only [mulS_eq]; omega) | (simp only [mulS_eq, setL_length]; omega) | (simp only [setL_length, List.length_map]; omega) | exact ⟨by omega, by omega, by first | exact Nat.le_of_ble_eq_true rfl | (dsimp only; omega) | (simp only [setL_length]; omega) | (simp only [setL_length, List.length_map]; omega)⟩ | exact ⟨by omega, by first | rfl | omega, by omega, Nat.le_of_ble_eq_true rfl, Nat.le_of_ble_eq_true rfl⟩ | exact ⟨rfl, rfl, rfl, Nat.le_of_ble_eq_true rfl, by first | rfl | omega | exact Nat.le_of_ble_eq_true rfl | (dsimp only; omega) | (simp; done) | (simp; omega), by first | rfl | omega | exact Nat.le_of_ble_eq_true rfl | (dsimp only; omega) | (simp; done) | (simp; omega), by omega, Nat.le_of_ble_eq_true rfl⟩ | exact Eq.refl true) ?_)
              | (refine Exists.intro _ (And.intro rfl ?_))
              | (refine And.intro (And.intro rfl (chk_rowI _ _ _ _)) ?_)
              | (refine br_t (by omega) ?_)
              | (refine br_f (by omega) ?_)
              | (refine bs_t (by omega) ?_)
              | (refine bs_f (by omega) ?_)
              | (refine fun (K' : K3) hK' => ?_)
              | (refine hK' _ _ _ ?_; clear hK' K')
              | (refine draw_auto tok mixed (by kernel_rfl) ?_)
              | (with_reducible refine updK_ent (by omega) ?_)
              | (with_reducible refine updO_ent (by omega) ?_)
              | (with_reducible refine rmK_ent (by omega) ?_)
              | (with_reducible refine visC_ent rfl (by omega) ?_)
              | (refine relC_ent rfl (by omega) ?_)
              | (refine And.intro (Eq.refl oo) ?_)
              | (refine bs_bt (Eq.refl true) ?_)
              | (refine bs_bf (Eq.refl false) ?_)
              | (refine br_bt (Eq.refl true) ?_)
              | (refine br_bf (Eq.refl false) ?_)
              | (refine CallK.m ?_)
              | (refine And.intro (And.intro rfl rfl) ?_))
          refine vc_ok tok ?_
          repeat ((conv => whnf); first
              | (refine And.intro (by first | omega | exact Nat.le_of_ble_eq_true rfl | (dsimp only [inK]; omega) | (simp only [mulS_eq]; omega) | (simp only [mulS_eq, setL_length]; omega) | (simp only [setL_length, List.length_map]; omega) | exact ⟨by omega, by omega, by first | exact Nat.le_of_ble_eq_true rfl | (dsimp only; omega) | (simp only [setL_length]; omega) | (simp only [setL_length, List.length_map]; omega)⟩ | exact ⟨by omega, by first | rfl | omega, by omega, Nat.le_of_ble_eq_true rfl, Nat.le_of_ble_eq_true rfl⟩ | exact ⟨rfl, rfl, rfl, Nat.le_of_ble_eq_true rfl, by first | rfl | omega | exact Nat.le_of_ble_eq_true rfl | (dsimp only; omega) | (simp; done) | (simp; omega), by first | rfl | omega | exact Nat.le_of_ble_eq_true rfl | (dsimp only; omega) | (simp; done) | (simp; omega), by omega, Nat.le_of_ble_eq_true rfl⟩ | exact Eq.refl true) ?_)
              | (with_reducible refine ld (intLz (k := q) rfl (by omega)) ?_)
              | (refine Exists.intro _ (And.intro rfl ?_))
              | (refine And.intro (And.intro rfl (chk_rowI _ _ _ _)) ?_)
              | (refine br_t (by omega) ?_)
              | (refine br_f (by omega) ?_)
              | (refine bs_t (by omega) ?_)
              | (refine bs_f (by omega) ?_)
              | (refine fun (K' : K3) hK' => ?_)
              | (refine hK' _ _ _ ?_; clear hK' K')
              | (refine draw_auto tok mixed (by kernel_rfl) ?_)
              | (refine br_f hno ?_)
              | (with_reducible refine updK_ent (by omega) ?_)
              | (with_reducible refine updO_ent (by omega) ?_)
              | (with_reducible refine rmK_ent (by omega) ?_)
              | (with_reducible refine visC_ent rfl (by omega) ?_)
              | (refine relC_ent rfl (by omega) ?_)
              | (refine And.intro (Eq.refl ob) ?_)
              | (refine bs_bt (Eq.refl true) ?_)
              | (refine bs_bf (Eq.refl false) ?_)
              | (refine br_bt (Eq.refl true) ?_)
              | (refine br_bf (Eq.refl false) ?_)
              | (refine CallK.m ?_)
              | (refine And.intro (And.intro rfl rfl) ?_))
          refine ⟨m + 1, [], by omega, by omega, ?_⟩
          refine ⟨?_, ?_, injB_ent (p := [_, _, _, _, _, _, _]) (by omega) rfl rfl, rfl, by first | exact Nat.le_of_ble_eq_true rfl | exact Nat.le_refl _ | omega⟩
          · repeat (first | exact trivial | refine And.intro (covS_syn (by first | rfl | (refine congrArg some (congrArg V.i ?_); omega)) rfl (by first | exact trivial | exact Nat.le_of_ble_eq_true rfl | exact hy | exact (fun p hp => nomatch hp) | (show (_ : Nat) < _; omega))) ?_ | refine And.intro (covS_bool rfl rfl (by first | rfl)) ?_)
          · repeat (first | exact trivial | (exact covL_ent (by omega) (fun k hk => by (try simp only [flatN]); (repeat (first | rw [find_skip (by omega)] | rw [find_hi (by omega) (by rfl)])))) | refine And.intro (covE_id (Nat.le_of_ble_eq_true rfl) (by first | exact wf_ints _ _ | exact wf_bools _ _ | first | exact wf_sls _ _ _ (by omega) | exact wf_jobs _ _ | simp [C.wf]) rfl (by first | rfl)) ?_)
    · have hge := hp.rest q (by omega) hq2
      repeat ((conv => whnf); first
          | (refine And.intro (by first | omega | exact Nat.le_of_ble_eq_true rfl | (dsimp only [inK]; omega) | (simp only [mulS_eq]; omega) | (simp only [mulS_eq, setL_length]; omega) | (simp only [setL_length, List.length_map]; omega) | exact ⟨by omega, by omega, by first | exact Nat.le_of_ble_eq_true rfl | (dsimp only; omega) | (simp only [setL_length]; omega) | (simp only [setL_length, List.length_map]; omega)⟩ | exact ⟨by omega, by first | rfl | omega, by omega, Nat.le_of_ble_eq_true rfl, Nat.le_of_ble_eq_true rfl⟩ | exact ⟨rfl, rfl, rfl, Nat.le_of_ble_eq_true rfl, by first | rfl | omega | exact Nat.le_of_ble_eq_true rfl | (dsimp only; omega) | (simp; done) | (simp; omega), by first | rfl | omega | exact Nat.le_of_ble_eq_true rfl | (dsimp only; omega) | (simp; done) | (simp; omega), by omega, Nat.le_of_ble_eq_true rfl⟩ | exact Eq.refl true) ?_)
          | (with_reducible refine ld (intLz (k := q) rfl (by omega)) ?_)
          | (with_reducible refine ld (intLz (k := q + 1) (by omega) (by omega)) ?_)
          | (refine Exists.intro _ (And.intro rfl ?_))
          | (refine And.intro (And.intro rfl (chk_rowI _ _ _ _)) ?_)
          | (refine br_t (by omega) ?_)
          | (refine br_f (by omega) ?_)
          | (refine bs_t (by omega) ?_)
          | (refine bs_f (by omega) ?_)
          | (refine fun (K' : K3) hK' => ?_)
          | (refine hK' _ _ _ ?_; clear hK' K')
          | (refine draw_auto tok mixed (by kernel_rfl) ?_)
          | (with_reducible refine updK_ent (by omega) ?_)
          | (refine bs_bt (Eq.refl true) ?_)
          | (refine bs_bf (Eq.refl false) ?_)
          | (refine br_bt (Eq.refl true) ?_)
          | (refine br_bf (Eq.refl false) ?_)
          | (refine CallK.m ?_)
          | (refine And.intro (And.intro rfl rfl) ?_))
      refine ⟨q - 1, [], ⟨by omega, by omega⟩, by omega, ?_⟩
      refine ⟨?_, ?_, injB_ent (p := [_, _, _, _, _]) (by omega) rfl rfl, rfl, by first | exact Nat.le_of_ble_eq_true rfl | exact Nat.le_refl _ | omega⟩
      · repeat (first | exact trivial | refine And.intro (covS_syn (by first | rfl | (refine congrArg some (congrArg V.i ?_); omega)) rfl (by first | exact trivial | exact Nat.le_of_ble_eq_true rfl | exact hy | exact (fun p hp => nomatch hp) | (show (_ : Nat) < _; omega))) ?_ | refine And.intro (covS_bool rfl rfl (by first | rfl)) ?_)
      · repeat (first | exact trivial | (exact covL_ent (by omega) (fun k hk => by (try simp only [flatN]); (repeat (first | rw [find_skip (by omega)] | rw [find_hi (by omega) (by rfl)])))) | refine And.intro (covE_id (Nat.le_of_ble_eq_true rfl) (by first | exact wf_ints _ _ | exact wf_bools _ _ | first | exact wf_sls _ _ _ (by omega) | exact wf_jobs _ _ | simp [C.wf]) rfl (by first | rfl | ((refine congrArg (fun z => [C.i z]) ?_; omega)))) ?_)
end Go.Proofs.Ytjijjncddjkdlaa

/- Shore: Next where there is no next order, and its errors. -/
namespace Go.Proofs.Ytjijjncddjkdlaa
open Go.RowKit
set_option linter.unusedVariables false
set_option linter.unusedSimpArgs false
theorem next_bad (j : Coast) (o : List Int) (hj : Sized j) (ho : o.length ≤ 200) (hb : (validL j && isOrdB j o) = false) :
    Spec Try.prog 47 [V.c (.sl 0 j.length), V.c (.sl 21 o.length)] (⟨0, .ro 1, slsC 1 j⟩ :: ⟨21, .ro 0, o.map C.i⟩ :: entC 1 j) 32 (fun v L' _ => intsX [] (if validL j then 61 else 60) v L') := by
  have hj20 := hj.len
  have hO := hasO0 (o := o) hj
  cases hv : validL j with
  | false =>
    refine Spec.of tok Try.func47 rfl rfl rfl fun n0 cx => vc_ok tok ?_
    repeat ((conv => whnf); first
        | (refine And.intro (by first | omega | exact Nat.le_of_ble_eq_true rfl | (dsimp only [inK]; omega) | (simp only [mulS_eq]; omega) | (simp only [mulS_eq, setL_length]; omega) | (simp only [setL_length, List.length_map]; omega) | exact ⟨by omega, by omega, by first | exact Nat.le_of_ble_eq_true rfl | (dsimp only; omega) | (simp only [setL_length]; omega) | (simp only [setL_length, List.length_map]; omega)⟩ | exact ⟨by omega, by first | rfl | omega, by omega, Nat.le_of_ble_eq_true rfl, Nat.le_of_ble_eq_true rfl⟩ | exact ⟨rfl, rfl, rfl, Nat.le_of_ble_eq_true rfl, by first | rfl | omega | exact Nat.le_of_ble_eq_true rfl | (dsimp only; omega) | (simp; done) | (simp; omega), by first | rfl | omega | exact Nat.le_of_ble_eq_true rfl | (dsimp only; omega) | (simp; done) | (simp; omega), by omega, Nat.le_of_ble_eq_true rfl⟩ | exact Eq.refl true) ?_)
        | (refine Exists.intro _ (And.intro rfl ?_))
        | (refine And.intro (And.intro rfl (chk_rowI _ _ _ _)) ?_)
        | (refine br_t (by omega) ?_)
        | (refine br_f (by omega) ?_)
        | (refine bs_t (by omega) ?_)
        | (refine bs_f (by omega) ?_)
        | (refine fun (K' : K3) hK' => ?_)
        | (refine hK' _ _ _ ?_; clear hK' K')
        | (refine CallM.eq (by kernel_rfl) (ordered_spec j o hj ho _ _ hO) ?_)
        | (refine draw_auto tok mixed (by kernel_rfl) ?_)
        | (rw [hv])
        | (refine bs_bt (Eq.refl true) ?_)
        | (refine bs_bf (Eq.refl false) ?_)
        | (refine br_bt (Eq.refl true) ?_)
        | (refine br_bf (Eq.refl false) ?_)
        | (refine CallK.m ?_)
        | (refine And.intro (And.intro rfl rfl) ?_))
    exact .inl ⟨rfl, rfl⟩
  | true =>
    have hi : isOrdB j o = false := by rw [hv] at hb; exact hb
    refine Spec.of tok Try.func47 rfl rfl rfl fun n0 cx => vc_ok tok ?_
    repeat ((conv => whnf); first
        | (refine And.intro (by first | omega | exact Nat.le_of_ble_eq_true rfl | (dsimp only [inK]; omega) | (simp only [mulS_eq]; omega) | (simp only [mulS_eq, setL_length]; omega) | (simp only [setL_length, List.length_map]; omega) | exact ⟨by omega, by omega, by first | exact Nat.le_of_ble_eq_true rfl | (dsimp only; omega) | (simp only [setL_length]; omega) | (simp only [setL_length, List.length_map]; omega)⟩ | exact ⟨by omega, by first | rfl | omega, by omega, Nat.le_of_ble_eq_true rfl, Nat.le_of_ble_eq_true rfl⟩ | exact ⟨rfl, rfl, rfl, Nat.le_of_ble_eq_true rfl, by first | rfl | omega | exact Nat.le_of_ble_eq_true rfl | (dsimp only; omega) | (simp; done) | (simp; omega), by first | rfl | omega | exact Nat.le_of_ble_eq_true rfl | (dsimp only; omega) | (simp; done) | (simp; omega), by omega, Nat.le_of_ble_eq_true rfl⟩ | exact Eq.refl true) ?_)
        | (refine Exists.intro _ (And.intro rfl ?_))
        | (refine And.intro (And.intro rfl (chk_rowI _ _ _ _)) ?_)
        | (refine br_t (by omega) ?_)
        | (refine br_f (by omega) ?_)
        | (refine bs_t (by omega) ?_)
        | (refine bs_f (by omega) ?_)
        | (refine fun (K' : K3) hK' => ?_)
        | (refine hK' _ _ _ ?_; clear hK' K')
        | (refine CallM.eq (by kernel_rfl) (ordered_spec j o hj ho _ _ hO) ?_)
        | (refine draw_auto tok mixed (by kernel_rfl) ?_)
        | (rw [hv])
        | (rw [hi])
        | (refine bs_bt (Eq.refl true) ?_)
        | (refine bs_bf (Eq.refl false) ?_)
        | (refine br_bt (Eq.refl true) ?_)
        | (refine br_bf (Eq.refl false) ?_)
        | (refine CallK.m ?_)
        | (refine And.intro (And.intro rfl rfl) ?_))
    exact .inl ⟨rfl, rfl⟩
set_option maxHeartbeats 1000000 in
set_option maxRecDepth 100000 in
theorem next_none (j : Coast) (o : List Int) (hj : Sized j) (ho : o.length ≤ 200) (hv : validL j = true) (hi : isOrdB j o = true) (hp : NoPiv o) :
    Spec Try.prog 47 [V.c (.sl 0 j.length), V.c (.sl 21 o.length)] (⟨0, .ro 1, slsC 1 j⟩ :: ⟨21, .ro 0, o.map C.i⟩ :: entC 1 j) 32 (fun v L' _ => intsX [] 5 v L') := by
  have hj20 := hj.len
  have hlen := slsC_len (b := 1) (j := j)
  have hO := hasO0 (o := o) hj
  have hom : (o.map C.i).length = o.length := by simp
  refine Spec.of tok Try.func47 rfl rfl rfl fun n0 cx => vc_ok tok ?_
  repeat ((conv => whnf); first
      | (refine And.intro (by first | omega | exact Nat.le_of_ble_eq_true rfl | (dsimp only [inK]; omega) | (simp only [mulS_eq]; omega) | (simp only [mulS_eq, setL_length]; omega) | (simp only [setL_length, List.length_map]; omega) | exact ⟨by omega, by omega, by first | exact Nat.le_of_ble_eq_true rfl | (dsimp only; omega) | (simp only [setL_length]; omega) | (simp only [setL_length, List.length_map]; omega)⟩ | exact ⟨by omega, by first | rfl | omega, by omega, Nat.le_of_ble_eq_true rfl, Nat.le_of_ble_eq_true rfl⟩ | exact ⟨rfl, rfl, rfl, Nat.le_of_ble_eq_true rfl, by first | rfl | omega | exact Nat.le_of_ble_eq_true rfl | (dsimp only; omega) | (simp; done) | (simp; omega), by first | rfl | omega | exact Nat.le_of_ble_eq_true rfl | (dsimp only; omega) | (simp; done) | (simp; omega), by omega, Nat.le_of_ble_eq_true rfl⟩ | exact Eq.refl true) ?_)
      | (refine Exists.intro _ (And.intro rfl ?_))
      | (refine And.intro (And.intro rfl (chk_rowI _ _ _ _)) ?_)
      | (refine br_t (by omega) ?_)
      | (refine br_f (by omega) ?_)
      | (refine bs_t (by omega) ?_)
      | (refine bs_f (by omega) ?_)
      | (refine fun (K' : K3) hK' => ?_)
      | (refine hK' _ _ _ ?_; clear hK' K')
      | (refine CallM.eq (by kernel_rfl) (ordered_spec j o hj ho _ _ hO) ?_)
      | (refine draw_auto tok mixed (by kernel_rfl) ?_)
      | (rw [hv])
      | (rw [hi])
      | (refine clone_k (by omega) rfl ?_)
      | (with_reducible refine updK_ent (by omega) ?_)
      | (refine bs_bt (Eq.refl true) ?_)
      | (refine bs_bf (Eq.refl false) ?_)
      | (refine br_bt (Eq.refl true) ?_)
      | (refine br_bf (Eq.refl false) ?_)
      | (refine CallK.m ?_)
      | (refine And.intro (And.intro rfl rfl) ?_))
  refine Tri.loop (γ := Nat) (fun q => q ≤ o.length) (fun _ => [(8, V.c (.ptr 33 0)), (9, V.c (.ptr 34 0))])
    (fun q => ⟨34, .own 3, [C.i ((q : Int) - 2)]⟩ :: ⟨33, .own 35, [.sl 32 o.length]⟩ :: ⟨32, .vec 3 1, o.map C.i⟩ :: ⟨0, .ro 1, slsC 1 j⟩ :: ⟨21, .ro 0, o.map C.i⟩ :: entC 1 j) 35 (fun q => q) o.length (R0 := []) ?_ ?_ ?_
  · exact Nat.le_refl _
  · skip
    refine ⟨?_, ?_, injB_ent (p := [_, _, _, _, _]) (by omega) rfl rfl, rfl, by first | exact Nat.le_of_ble_eq_true rfl | exact Nat.le_refl _ | omega⟩
    · repeat (first | exact trivial | refine And.intro (covS_syn (by first | rfl | (refine congrArg some (congrArg V.i ?_); omega)) rfl (by first | exact trivial | exact Nat.le_of_ble_eq_true rfl | exact hy | exact (fun p hp => nomatch hp) | (show (_ : Nat) < _; omega))) ?_ | refine And.intro (covS_bool rfl rfl (by first | rfl)) ?_)
    · repeat (first | exact trivial | (exact covL_ent (by omega) (fun k hk => by (try simp only [flatN]); (repeat (first | rw [find_skip (by omega)] | rw [find_hi (by omega) (by rfl)])))) | refine And.intro (covE_id (Nat.le_of_ble_eq_true rfl) (by first | exact wf_ints _ _ | exact wf_bools _ _ | first | exact wf_sls _ _ _ (by omega) | exact wf_jobs _ _ | simp [C.wf]) rfl (by first | rfl | ((refine congrArg (fun z => [C.i z]) ?_; omega)))) ?_)
  · intro q hq
    refine vc_ok tok ?_
    by_cases hq2 : q < 2
    · repeat ((conv => whnf); first
          | (refine And.intro (by first | omega | exact Nat.le_of_ble_eq_true rfl | (dsimp only [inK]; omega) | (simp only [mulS_eq]; omega) | (simp only [mulS_eq, setL_length]; omega) | (simp only [setL_length, List.length_map]; omega) | exact ⟨by omega, by omega, by first | exact Nat.le_of_ble_eq_true rfl | (dsimp only; omega) | (simp only [setL_length]; omega) | (simp only [setL_length, List.length_map]; omega)⟩ | exact ⟨by omega, by first | rfl | omega, by omega, Nat.le_of_ble_eq_true rfl, Nat.le_of_ble_eq_true rfl⟩ | exact ⟨rfl, rfl, rfl, Nat.le_of_ble_eq_true rfl, by first | rfl | omega | exact Nat.le_of_ble_eq_true rfl | (dsimp only; omega) | (simp; done) | (simp; omega), by first | rfl | omega | exact Nat.le_of_ble_eq_true rfl | (dsimp only; omega) | (simp; done) | (simp; omega), by omega, Nat.le_of_ble_eq_true rfl⟩ | exact Eq.refl true) ?_)
          | (refine Exists.intro _ (And.intro rfl ?_))
          | (refine And.intro (And.intro rfl (chk_rowI _ _ _ _)) ?_)
          | (refine br_t (by omega) ?_)
          | (refine br_f (by omega) ?_)
          | (refine bs_t (by omega) ?_)
          | (refine bs_f (by omega) ?_)
          | (refine fun (K' : K3) hK' => ?_)
          | (refine hK' _ _ _ ?_; clear hK' K')
          | (refine draw_auto tok mixed (by kernel_rfl) ?_)
          | (refine bs_f (show ¬ (0 ≤ (q : Int) - 2) by omega) ?_)
          | (refine br_t (show (q : Int) - 2 < 0 by omega) ?_)
          | (refine bs_bt (Eq.refl true) ?_)
          | (refine bs_bf (Eq.refl false) ?_)
          | (refine br_bt (Eq.refl true) ?_)
          | (refine br_bf (Eq.refl false) ?_)
          | (refine CallK.m ?_)
          | (refine And.intro (And.intro rfl rfl) ?_))
      exact .inl ⟨rfl, rfl⟩
    · have hge := hp (q - 2) (by omega)
      repeat ((conv => whnf); first
          | (refine And.intro (by first | omega | exact Nat.le_of_ble_eq_true rfl | (dsimp only [inK]; omega) | (simp only [mulS_eq]; omega) | (simp only [mulS_eq, setL_length]; omega) | (simp only [setL_length, List.length_map]; omega) | exact ⟨by omega, by omega, by first | exact Nat.le_of_ble_eq_true rfl | (dsimp only; omega) | (simp only [setL_length]; omega) | (simp only [setL_length, List.length_map]; omega)⟩ | exact ⟨by omega, by first | rfl | omega, by omega, Nat.le_of_ble_eq_true rfl, Nat.le_of_ble_eq_true rfl⟩ | exact ⟨rfl, rfl, rfl, Nat.le_of_ble_eq_true rfl, by first | rfl | omega | exact Nat.le_of_ble_eq_true rfl | (dsimp only; omega) | (simp; done) | (simp; omega), by first | rfl | omega | exact Nat.le_of_ble_eq_true rfl | (dsimp only; omega) | (simp; done) | (simp; omega), by omega, Nat.le_of_ble_eq_true rfl⟩ | exact Eq.refl true) ?_)
          | (with_reducible refine ld (intLz (k := q - 2) (by omega) (by omega)) ?_)
          | (with_reducible refine ld (intLz (k := q - 2 + 1) (by omega) (by omega)) ?_)
          | (refine Exists.intro _ (And.intro rfl ?_))
          | (refine And.intro (And.intro rfl (chk_rowI _ _ _ _)) ?_)
          | (refine br_t (by omega) ?_)
          | (refine br_f (by omega) ?_)
          | (refine bs_t (by omega) ?_)
          | (refine bs_f (by omega) ?_)
          | (refine fun (K' : K3) hK' => ?_)
          | (refine hK' _ _ _ ?_; clear hK' K')
          | (refine draw_auto tok mixed (by kernel_rfl) ?_)
          | (with_reducible refine updK_ent (by omega) ?_)
          | (refine bs_bt (Eq.refl true) ?_)
          | (refine bs_bf (Eq.refl false) ?_)
          | (refine br_bt (Eq.refl true) ?_)
          | (refine br_bf (Eq.refl false) ?_)
          | (refine CallK.m ?_)
          | (refine And.intro (And.intro rfl rfl) ?_))
      refine ⟨q - 1, [], by omega, by omega, ?_⟩
      refine ⟨?_, ?_, injB_ent (p := [_, _, _, _, _]) (by omega) rfl rfl, rfl, by first | exact Nat.le_of_ble_eq_true rfl | exact Nat.le_refl _ | omega⟩
      · repeat (first | exact trivial | refine And.intro (covS_syn (by first | rfl | (refine congrArg some (congrArg V.i ?_); omega)) rfl (by first | exact trivial | exact Nat.le_of_ble_eq_true rfl | exact hy | exact (fun p hp => nomatch hp) | (show (_ : Nat) < _; omega))) ?_ | refine And.intro (covS_bool rfl rfl (by first | rfl)) ?_)
      · repeat (first | exact trivial | (exact covL_ent (by omega) (fun k hk => by (try simp only [flatN]); (repeat (first | rw [find_skip (by omega)] | rw [find_hi (by omega) (by rfl)])))) | refine And.intro (covE_id (Nat.le_of_ble_eq_true rfl) (by first | exact wf_ints _ _ | exact wf_bools _ _ | first | exact wf_sls _ _ _ (by omega) | exact wf_jobs _ _ | simp [C.wf]) rfl (by first | rfl | ((refine congrArg (fun z => [C.i z]) ?_; omega)))) ?_)
end Go.Proofs.Ytjijjncddjkdlaa

/- Shore: the reference's sorted. -/
namespace Go.Proofs.Ytjijjncddjkdlaa
open Go.RowKit
set_option linter.unusedVariables false
set_option linter.unusedSimpArgs false
/-- The numbers v among the first i of a part. -/
def cntI (ls : List Int) (o : Nat) (v : Nat) : Nat → List Int
  | 0 => []
  | i + 1 => cntI ls o v i ++ (if ls.getD (o + i) 0 = v then [(v : Int)] else [])
/-- A part's numbers below v, in order. -/
def srtV (ls : List Int) (o n : Nat) : Nat → List Int
  | 0 => []
  | v + 1 => srtV ls o n v ++ cntI ls o v n
theorem cntI_len {ls : List Int} {o v i : Nat} : (cntI ls o v i).length ≤ i := by
  induction i with
  | zero => exact Nat.le_refl _
  | succ i ih =>
    simp only [cntI, List.length_append]
    split <;> simp <;> omega
theorem srtV_len {ls : List Int} {o n v : Nat} : (srtV ls o n v).length ≤ v * n := by
  induction v with
  | zero => exact Nat.zero_le _
  | succ v ih =>
    simp only [srtV, List.length_append, Nat.add_mul, Nat.one_mul]
    have := cntI_len (ls := ls) (o := o) (v := v) (i := n)
    omega
theorem cntI_yes {ls : List Int} {o v i : Nat} (h : ls.getD (o + i) 0 = (v : Int)) : cntI ls o v (i + 1) = cntI ls o v i ++ [(v : Int)] := by
  simp only [cntI]; rw [if_pos h]
theorem cntI_no {ls : List Int} {o v i : Nat} (h : ¬ ls.getD (o + i) 0 = (v : Int)) : cntI ls o v (i + 1) = cntI ls o v i := by
  simp only [cntI]; rw [if_neg h, List.append_nil]
theorem srt_row {a b : List Int} {z : Int} : (a ++ (b ++ [z])).map C.i = (a ++ b).map C.i ++ [C.i z] := by
  simp
theorem srt_len {a b : List Int} {z : Int} : (a ++ (b ++ [z])).length = (a ++ b).length + 1 := by
  simp only [List.length_append, List.length_cons, List.length_nil]; omega
set_option maxHeartbeats 1000000 in
set_option maxRecDepth 100000 in
theorem sorted_spec (ls : List Int) (o n k : Nat) (hl : o + n ≤ ls.length) (hn : n ≤ 200) :
    Spec Try.prog 78 [V.c (.sub 21 o n k)] [⟨21, .ro 1, ls.map C.i⟩] 32 (fun v L' _ => intsR (srtV ls o n 6) v L') := by
  refine Spec.of tok Try.func78 rfl rfl rfl fun n0 cx => vc_ok tok ?_
  repeat ((conv => whnf); first
      | (refine And.intro (by first | omega | exact Nat.le_of_ble_eq_true rfl | (dsimp only [inK]; omega) | (simp only [mulS_eq]; omega) | (simp only [mulS_eq, setL_length]; omega) | (simp only [setL_length, List.length_map]; omega) | exact ⟨by omega, by omega, by first | exact Nat.le_of_ble_eq_true rfl | (dsimp only; omega) | (simp only [setL_length]; omega) | (simp only [setL_length, List.length_map]; omega)⟩ | exact ⟨by omega, by first | rfl | omega, by omega, Nat.le_of_ble_eq_true rfl, Nat.le_of_ble_eq_true rfl⟩ | exact ⟨rfl, rfl, rfl, Nat.le_of_ble_eq_true rfl, by first | rfl | omega | exact Nat.le_of_ble_eq_true rfl | (dsimp only; omega) | (simp; done) | (simp; omega), by first | rfl | omega | exact Nat.le_of_ble_eq_true rfl | (dsimp only; omega) | (simp; done) | (simp; omega), by omega, Nat.le_of_ble_eq_true rfl⟩ | exact Eq.refl true) ?_)
      | (refine Exists.intro _ (And.intro rfl ?_))
      | (refine And.intro (And.intro rfl (chk_rowI _ _ _ _)) ?_)
      | (refine br_t (by omega) ?_)
      | (refine br_f (by omega) ?_)
      | (refine bs_t (by omega) ?_)
      | (refine bs_f (by omega) ?_)
      | (refine fun (K' : K3) hK' => ?_)
      | (refine hK' _ _ _ ?_; clear hK' K')
      | (refine draw_auto tok mixed (by kernel_rfl) ?_)
      | (refine bs_bt (Eq.refl true) ?_)
      | (refine bs_bf (Eq.refl false) ?_)
      | (refine br_bt (Eq.refl true) ?_)
      | (refine br_bf (Eq.refl false) ?_)
      | (refine CallK.m ?_)
      | (refine And.intro (And.intro rfl rfl) ?_))
  refine Tri.loop (γ := Nat) (fun v => v ≤ 6) (fun v => [(0, V.c (.sub 21 o n k)), (3, V.c (.sl 32 (srtV ls o n v).length)), (4, V.i (v : Nat))])
    (fun v => [⟨32, .vec 3 1, (srtV ls o n v).map C.i⟩, ⟨21, .ro 1, ls.map C.i⟩]) 33 (fun v => 6 - v) 0 (R0 := [(32, none)]) ?_ ?_ ?_
  · omega
  · skip
    refine ⟨?_, ?_, rfl, rfl, by first | exact Nat.le_of_ble_eq_true rfl | exact Nat.le_refl _ | omega⟩
    · repeat (first | exact trivial | refine And.intro (covS_syn (by first | rfl) rfl (by first | exact trivial | exact Nat.le_of_ble_eq_true rfl | exact hy | exact (fun p hp => nomatch hp) | (show (_ : Nat) < _; omega))) ?_ | refine And.intro (covS_bool rfl rfl (by first | rfl)) ?_)
    · repeat (first | exact trivial | refine And.intro (covE_nil rfl (Nat.le_of_ble_eq_true rfl) rfl rfl) ?_ | refine And.intro (covE_some rfl (Nat.le_of_ble_eq_true rfl) (by first | exact wf_ints _ _ | exact wf_bools _ _ | fail | simp [C.wf]) rfl (by first | exact ren_ints _ _ | exact ren_bools _ _ | exact ren_shares _ _ | (refine (ren_ints _ _).trans (congrArg some ?_); fail) | rfl)) ?_)
  · rintro v hv
    refine vc_ok tok ?_
    have hsv := srtV_len (ls := ls) (o := o) (n := n) (v := v)
    have hsv2 : v * n ≤ 6 * n := Nat.mul_le_mul_right _ hv
    by_cases hv6 : v < 6
    · repeat ((conv => whnf); first
          | (refine And.intro (by first | omega | exact Nat.le_of_ble_eq_true rfl | (dsimp only [inK]; omega) | (simp only [mulS_eq]; omega) | (simp only [mulS_eq, setL_length]; omega) | (simp only [setL_length, List.length_map]; omega) | exact ⟨by omega, by omega, by first | exact Nat.le_of_ble_eq_true rfl | (dsimp only; omega) | (simp only [setL_length]; omega) | (simp only [setL_length, List.length_map]; omega)⟩ | exact ⟨by omega, by first | rfl | omega, by omega, Nat.le_of_ble_eq_true rfl, Nat.le_of_ble_eq_true rfl⟩ | exact ⟨rfl, rfl, rfl, Nat.le_of_ble_eq_true rfl, by first | rfl | omega | exact Nat.le_of_ble_eq_true rfl | (dsimp only; omega) | (simp; done) | (simp; omega), by first | rfl | omega | exact Nat.le_of_ble_eq_true rfl | (dsimp only; omega) | (simp; done) | (simp; omega), by omega, Nat.le_of_ble_eq_true rfl⟩ | exact Eq.refl true) ?_)
          | (refine Exists.intro _ (And.intro rfl ?_))
          | (refine And.intro (And.intro rfl (chk_rowI _ _ _ _)) ?_)
          | (refine br_t (by omega) ?_)
          | (refine br_f (by omega) ?_)
          | (refine bs_t (by omega) ?_)
          | (refine bs_f (by omega) ?_)
          | (refine fun (K' : K3) hK' => ?_)
          | (refine hK' _ _ _ ?_; clear hK' K')
          | (refine draw_auto tok mixed (by kernel_rfl) ?_)
          | (refine bs_bt (Eq.refl true) ?_)
          | (refine bs_bf (Eq.refl false) ?_)
          | (refine br_bt (Eq.refl true) ?_)
          | (refine br_bf (Eq.refl false) ?_)
          | (refine CallK.m ?_)
          | (refine And.intro (And.intro rfl rfl) ?_))
      refine Tri.loop (γ := Nat) (fun i => i ≤ n) (fun i => [(0, V.c (.sub 21 o n k)), (3, V.c (.sl 32 (srtV ls o n v ++ cntI ls o v i).length)), (4, V.i (v : Nat)), (5, V.i (i : Nat))])
        (fun i => [⟨32, .vec 3 1, (srtV ls o n v ++ cntI ls o v i).map C.i⟩, ⟨21, .ro 1, ls.map C.i⟩]) 33 (fun i => n - i) 0 (R0 := []) ?_ ?_ ?_
      · omega
      · rw [show cntI ls o v 0 = [] from rfl, List.append_nil]
        refine ⟨?_, ?_, rfl, rfl, by first | exact Nat.le_of_ble_eq_true rfl | exact Nat.le_refl _ | omega⟩
        · repeat (first | exact trivial | refine And.intro (covS_syn (by first | rfl) rfl (by first | exact trivial | exact Nat.le_of_ble_eq_true rfl | exact hy | exact (fun p hp => nomatch hp) | (show (_ : Nat) < _; omega))) ?_ | refine And.intro (covS_bool rfl rfl (by first | rfl)) ?_)
        · repeat (first | exact trivial | refine And.intro (covE_id (Nat.le_of_ble_eq_true rfl) (by first | exact wf_ints _ _ | exact wf_bools _ _ | fail | simp [C.wf]) rfl (by first | rfl | (fail))) ?_)
      · rintro i hi
        refine vc_ok tok ?_
        have hcl := cntI_len (ls := ls) (o := o) (v := v) (i := i)
        have hal : (srtV ls o n v ++ cntI ls o v i).length = (srtV ls o n v).length + (cntI ls o v i).length := List.length_append
        by_cases hin : i < n
        · by_cases he : ls.getD (o + i) 0 = (v : Int)
          · repeat ((conv => whnf); first
                | (refine And.intro (by first | omega | exact Nat.le_of_ble_eq_true rfl | (dsimp only [inK]; omega) | (simp only [mulS_eq]; omega) | (simp only [mulS_eq, setL_length]; omega) | (simp only [setL_length, List.length_map]; omega) | exact ⟨by omega, by omega, by first | exact Nat.le_of_ble_eq_true rfl | (dsimp only; omega) | (simp only [setL_length]; omega) | (simp only [setL_length, List.length_map]; omega)⟩ | exact ⟨by omega, by first | rfl | omega, by omega, Nat.le_of_ble_eq_true rfl, Nat.le_of_ble_eq_true rfl⟩ | exact ⟨rfl, rfl, rfl, Nat.le_of_ble_eq_true rfl, by first | rfl | omega | exact Nat.le_of_ble_eq_true rfl | (dsimp only; omega) | (simp; done) | (simp; omega), by first | rfl | omega | exact Nat.le_of_ble_eq_true rfl | (dsimp only; omega) | (simp; done) | (simp; omega), by omega, Nat.le_of_ble_eq_true rfl⟩ | exact Eq.refl true) ?_)
                | (with_reducible refine ld (intSub (k := i) rfl (by omega)) ?_)
                | (refine Exists.intro _ (And.intro rfl ?_))
                | (refine And.intro (And.intro rfl (chk_rowI _ _ _ _)) ?_)
                | (refine br_t (by omega) ?_)
                | (refine br_f (by omega) ?_)
                | (refine bs_t (by omega) ?_)
                | (refine bs_f (by omega) ?_)
                | (refine fun (K' : K3) hK' => ?_)
                | (refine hK' _ _ _ ?_; clear hK' K')
                | (refine draw_auto tok mixed (by kernel_rfl) ?_)
                | (refine br_t he ?_)
                | (refine bs_t he ?_)
                | (refine bs_bt (Eq.refl true) ?_)
                | (refine bs_bf (Eq.refl false) ?_)
                | (refine br_bt (Eq.refl true) ?_)
                | (refine br_bf (Eq.refl false) ?_)
                | (refine CallK.m ?_)
                | (refine And.intro (And.intro rfl rfl) ?_))
            refine ⟨i + 1, [(32, some 34)], by omega, by omega, ?_⟩
            rw [cntI_yes he, srt_len]
            refine ⟨?_, ?_, rfl, rfl, by first | exact Nat.le_of_ble_eq_true rfl | exact Nat.le_refl _ | omega⟩
            · repeat (first | exact trivial | refine And.intro (covS_syn (by first | rfl | (refine congrArg some (congrArg V.i ?_); omega)) rfl (by first | exact trivial | exact Nat.le_of_ble_eq_true rfl | exact hy | exact (fun p hp => nomatch hp) | (show (_ : Nat) < _; omega))) ?_ | refine And.intro (covS_bool rfl rfl (by first | rfl)) ?_)
            · repeat (first | exact trivial | refine And.intro (covE_nil rfl (Nat.le_of_ble_eq_true rfl) rfl rfl) ?_ | refine And.intro (covE_some rfl (Nat.le_of_ble_eq_true rfl) (by first | exact wf_ints _ _ | exact wf_bools _ _ | fail | simp [C.wf]) rfl (by first | exact ren_ints _ _ | exact ren_bools _ _ | exact ren_shares _ _ | (refine (ren_ints _ _).trans (congrArg some ?_); exact srt_row) | rfl)) ?_)
          · repeat ((conv => whnf); first
                | (refine And.intro (by first | omega | exact Nat.le_of_ble_eq_true rfl | (dsimp only [inK]; omega) | (simp only [mulS_eq]; omega) | (simp only [mulS_eq, setL_length]; omega) | (simp only [setL_length, List.length_map]; omega) | exact ⟨by omega, by omega, by first | exact Nat.le_of_ble_eq_true rfl | (dsimp only; omega) | (simp only [setL_length]; omega) | (simp only [setL_length, List.length_map]; omega)⟩ | exact ⟨by omega, by first | rfl | omega, by omega, Nat.le_of_ble_eq_true rfl, Nat.le_of_ble_eq_true rfl⟩ | exact ⟨rfl, rfl, rfl, Nat.le_of_ble_eq_true rfl, by first | rfl | omega | exact Nat.le_of_ble_eq_true rfl | (dsimp only; omega) | (simp; done) | (simp; omega), by first | rfl | omega | exact Nat.le_of_ble_eq_true rfl | (dsimp only; omega) | (simp; done) | (simp; omega), by omega, Nat.le_of_ble_eq_true rfl⟩ | exact Eq.refl true) ?_)
                | (with_reducible refine ld (intSub (k := i) rfl (by omega)) ?_)
                | (refine Exists.intro _ (And.intro rfl ?_))
                | (refine And.intro (And.intro rfl (chk_rowI _ _ _ _)) ?_)
                | (refine br_t (by omega) ?_)
                | (refine br_f (by omega) ?_)
                | (refine bs_t (by omega) ?_)
                | (refine bs_f (by omega) ?_)
                | (refine fun (K' : K3) hK' => ?_)
                | (refine hK' _ _ _ ?_; clear hK' K')
                | (refine draw_auto tok mixed (by kernel_rfl) ?_)
                | (refine br_f he ?_)
                | (refine bs_f he ?_)
                | (refine bs_bt (Eq.refl true) ?_)
                | (refine bs_bf (Eq.refl false) ?_)
                | (refine br_bt (Eq.refl true) ?_)
                | (refine br_bf (Eq.refl false) ?_)
                | (refine CallK.m ?_)
                | (refine And.intro (And.intro rfl rfl) ?_))
            refine ⟨i + 1, [], by omega, by omega, ?_⟩
            rw [cntI_no he]
            refine ⟨?_, ?_, rfl, rfl, by first | exact Nat.le_of_ble_eq_true rfl | exact Nat.le_refl _ | omega⟩
            · repeat (first | exact trivial | refine And.intro (covS_syn (by first | rfl | (refine congrArg some (congrArg V.i ?_); omega)) rfl (by first | exact trivial | exact Nat.le_of_ble_eq_true rfl | exact hy | exact (fun p hp => nomatch hp) | (show (_ : Nat) < _; omega))) ?_ | refine And.intro (covS_bool rfl rfl (by first | rfl)) ?_)
            · repeat (first | exact trivial | refine And.intro (covE_id (Nat.le_of_ble_eq_true rfl) (by first | exact wf_ints _ _ | exact wf_bools _ _ | fail | simp [C.wf]) rfl (by first | rfl | (fail))) ?_)
        · have hie : i = n := by omega
          subst hie
          repeat ((conv => whnf); first
              | (refine And.intro (by first | omega | exact Nat.le_of_ble_eq_true rfl | (dsimp only [inK]; omega) | (simp only [mulS_eq]; omega) | (simp only [mulS_eq, setL_length]; omega) | (simp only [setL_length, List.length_map]; omega) | exact ⟨by omega, by omega, by first | exact Nat.le_of_ble_eq_true rfl | (dsimp only; omega) | (simp only [setL_length]; omega) | (simp only [setL_length, List.length_map]; omega)⟩ | exact ⟨by omega, by first | rfl | omega, by omega, Nat.le_of_ble_eq_true rfl, Nat.le_of_ble_eq_true rfl⟩ | exact ⟨rfl, rfl, rfl, Nat.le_of_ble_eq_true rfl, by first | rfl | omega | exact Nat.le_of_ble_eq_true rfl | (dsimp only; omega) | (simp; done) | (simp; omega), by first | rfl | omega | exact Nat.le_of_ble_eq_true rfl | (dsimp only; omega) | (simp; done) | (simp; omega), by omega, Nat.le_of_ble_eq_true rfl⟩ | exact Eq.refl true) ?_)
              | (refine Exists.intro _ (And.intro rfl ?_))
              | (refine And.intro (And.intro rfl (chk_rowI _ _ _ _)) ?_)
              | (refine br_t (by omega) ?_)
              | (refine br_f (by omega) ?_)
              | (refine bs_t (by omega) ?_)
              | (refine bs_f (by omega) ?_)
              | (refine fun (K' : K3) hK' => ?_)
              | (refine hK' _ _ _ ?_; clear hK' K')
              | (refine draw_auto tok mixed (by kernel_rfl) ?_)
              | (refine bs_bt (Eq.refl true) ?_)
              | (refine bs_bf (Eq.refl false) ?_)
              | (refine br_bt (Eq.refl true) ?_)
              | (refine br_bf (Eq.refl false) ?_)
              | (refine CallK.m ?_)
              | (refine And.intro (And.intro rfl rfl) ?_))
          refine ⟨v + 1, [], by omega, by omega, ?_⟩
          rw [show srtV ls o i (v + 1) = srtV ls o i v ++ cntI ls o v i from rfl]
          refine ⟨?_, ?_, rfl, rfl, by first | exact Nat.le_of_ble_eq_true rfl | exact Nat.le_refl _ | omega⟩
          · repeat (first | exact trivial | refine And.intro (covS_syn (by first | rfl | (refine congrArg some (congrArg V.i ?_); omega)) rfl (by first | exact trivial | exact Nat.le_of_ble_eq_true rfl | exact hy | exact (fun p hp => nomatch hp) | (show (_ : Nat) < _; omega))) ?_ | refine And.intro (covS_bool rfl rfl (by first | rfl)) ?_)
          · repeat (first | exact trivial | refine And.intro (covE_id (Nat.le_of_ble_eq_true rfl) (by first | exact wf_ints _ _ | exact wf_bools _ _ | fail | simp [C.wf]) rfl (by first | rfl | (fail))) ?_)
    · have hv6' : v = 6 := by omega
      subst hv6'
      repeat ((conv => whnf); first
          | (refine And.intro (by first | omega | exact Nat.le_of_ble_eq_true rfl | (dsimp only [inK]; omega) | (simp only [mulS_eq]; omega) | (simp only [mulS_eq, setL_length]; omega) | (simp only [setL_length, List.length_map]; omega) | exact ⟨by omega, by omega, by first | exact Nat.le_of_ble_eq_true rfl | (dsimp only; omega) | (simp only [setL_length]; omega) | (simp only [setL_length, List.length_map]; omega)⟩ | exact ⟨by omega, by first | rfl | omega, by omega, Nat.le_of_ble_eq_true rfl, Nat.le_of_ble_eq_true rfl⟩ | exact ⟨rfl, rfl, rfl, Nat.le_of_ble_eq_true rfl, by first | rfl | omega | exact Nat.le_of_ble_eq_true rfl | (dsimp only; omega) | (simp; done) | (simp; omega), by first | rfl | omega | exact Nat.le_of_ble_eq_true rfl | (dsimp only; omega) | (simp; done) | (simp; omega), by omega, Nat.le_of_ble_eq_true rfl⟩ | exact Eq.refl true) ?_)
          | (refine Exists.intro _ (And.intro rfl ?_))
          | (refine And.intro (And.intro rfl (chk_rowI _ _ _ _)) ?_)
          | (refine br_t (by omega) ?_)
          | (refine br_f (by omega) ?_)
          | (refine bs_t (by omega) ?_)
          | (refine bs_f (by omega) ?_)
          | (refine fun (K' : K3) hK' => ?_)
          | (refine hK' _ _ _ ?_; clear hK' K')
          | (refine draw_auto tok mixed (by kernel_rfl) ?_)
          | (refine bs_bt (Eq.refl true) ?_)
          | (refine bs_bf (Eq.refl false) ?_)
          | (refine br_bt (Eq.refl true) ?_)
          | (refine br_bf (Eq.refl false) ?_)
          | (refine CallK.m ?_)
          | (refine And.intro (And.intro rfl rfl) ?_))
      exact .inr ⟨32, rfl, rfl⟩
end Go.Proofs.Ytjijjncddjkdlaa

/- Shore: the reference's Swap. -/
namespace Go.Proofs.Ytjijjncddjkdlaa
open Go.RowKit
set_option linter.unusedVariables false
set_option linter.unusedSimpArgs false
theorem own_cs {o : List Int} : repC 0 [C.i 0] ++ (o.map C.i).take (o.length * 1) = o.map C.i := by
  rw [show repC 0 [C.i 0] = [] from rfl, List.nil_append, Nat.mul_one, List.take_of_length_le (by simp)]
theorem ints_swapC {cs : List C} {l : List Int} {z u v : Int} {k : Nat} (hcs : cs = l.map C.i) (hz : z = k) (hu : u = l.getD (k + 1) 0) (hv : v = l.getD k 0) : setL (setL cs (mulS z.toNat 1) [C.i u]) (mulS (z + 1).toNat 1) [C.i v] = (swapL 0 l k).map C.i := by
  subst hcs; exact ints_swap hz hu hv
set_option maxRecDepth 100000 in
theorem rswap_spec (j : Coast) (o : List Int) (at' : Int) (hj : Sized j) (ho : o.length ≤ 200) (hat : -9223372036854775808 ≤ at' ∧ at' ≤ 9223372036854775807) :
    Spec Try.prog 46 [V.c (.sl 0 j.length), V.c (.sl 21 o.length), V.i at'] (⟨0, .ro 1, slsC 1 j⟩ :: ⟨21, .ro 0, o.map C.i⟩ :: entC 1 j) 32 (fun v L' _ => intsN (swapLs j o at') (swapNm j o at') (swapE j o at') v L') := by
  have hj20 := hj.len
  have hA := asked_spec j o hj ho
  rw [asked_val] at hA
  by_cases h0 : ordE j o = 0
  case neg =>
    have e : swapE j o at' = ordE j o := by
      unfold swapE ordE
      split
      · next hv =>
        split
        · next hi => exact absurd (by simp [ordE, hv, hi]) h0
        · rfl
      · rfl
    simp only [swapLs, swapNm, e, if_neg h0]
    refine Spec.of tok Try.func46 rfl rfl rfl fun n0 cx => vc_ok tok ?_
    repeat ((conv => whnf); first
        | (refine And.intro (by first | omega | exact Nat.le_of_ble_eq_true rfl | (dsimp only [inK]; omega) | (simp only [mulS_eq]; omega) | (simp only [mulS_eq, setL_length]; omega) | (simp only [setL_length, List.length_map]; omega) | exact ⟨by omega, by omega, by first | exact Nat.le_of_ble_eq_true rfl | (dsimp only; omega) | (simp only [setL_length]; omega) | (simp only [setL_length, List.length_map]; omega)⟩ | exact ⟨by omega, by first | rfl | omega, by omega, Nat.le_of_ble_eq_true rfl, Nat.le_of_ble_eq_true rfl⟩ | exact ⟨rfl, rfl, rfl, Nat.le_of_ble_eq_true rfl, by first | rfl | omega | exact Nat.le_of_ble_eq_true rfl | (dsimp only; omega) | (simp; done) | (simp; omega), by first | rfl | omega | exact Nat.le_of_ble_eq_true rfl | (dsimp only; omega) | (simp; done) | (simp; omega), by omega, Nat.le_of_ble_eq_true rfl⟩ | exact Eq.refl true) ?_)
        | (refine Exists.intro _ (And.intro rfl ?_))
        | (refine And.intro (And.intro rfl (chk_rowI _ _ _ _)) ?_)
        | (refine br_t (by omega) ?_)
        | (refine br_f (by omega) ?_)
        | (refine bs_t (by omega) ?_)
        | (refine bs_f (by omega) ?_)
        | (refine fun (K' : K3) hK' => ?_)
        | (refine hK' _ _ _ ?_; clear hK' K')
        | (refine draw_auto tok mixed (by kernel_rfl) ?_)
        | (refine CallK.val (R := []) hA (by kernel_rfl) rfl (by simp [V.wf, A.wf, C.wf]) (HasO.ro ⟨⟨rfl, fun k hk => by (repeat (first | rw [find_skip (by omega)] | rw [find_hi (by omega) (by rfl)])); exact entC_find hk⟩, rfl⟩ hj) (injO hj) rfl trivial ?_)
        | (refine br_t h0 ?_)
        | (refine bs_bt (Eq.refl true) ?_)
        | (refine bs_bf (Eq.refl false) ?_)
        | (refine br_bt (Eq.refl true) ?_)
        | (refine br_bf (Eq.refl false) ?_)
        | (refine CallK.m ?_)
        | (refine And.intro (And.intro rfl rfl) ?_))
    exact .inl ⟨rfl, rfl⟩
  obtain ⟨hv, hi⟩ := ordE_zero h0
  have hm := validL_many hv
  have hc := validL_coast hj hv
  by_cases hr : 0 ≤ at' ∧ at' ≤ (o.length : Int) - 2
  case neg =>
    have e : swapE j o at' = 2 := by simp only [swapE, hv, hi, if_true]; rw [if_neg hr]
    simp only [swapLs, swapNm, e]
    by_cases hn : at' < 0
    · refine Spec.of tok Try.func46 rfl rfl rfl fun n0 cx => vc_ok tok ?_
      repeat ((conv => whnf); first
          | (refine And.intro (by first | omega | exact Nat.le_of_ble_eq_true rfl | (dsimp only [inK]; omega) | (simp only [mulS_eq]; omega) | (simp only [mulS_eq, setL_length]; omega) | (simp only [setL_length, List.length_map]; omega) | exact ⟨by omega, by omega, by first | exact Nat.le_of_ble_eq_true rfl | (dsimp only; omega) | (simp only [setL_length]; omega) | (simp only [setL_length, List.length_map]; omega)⟩ | exact ⟨by omega, by first | rfl | omega, by omega, Nat.le_of_ble_eq_true rfl, Nat.le_of_ble_eq_true rfl⟩ | exact ⟨rfl, rfl, rfl, Nat.le_of_ble_eq_true rfl, by first | rfl | omega | exact Nat.le_of_ble_eq_true rfl | (dsimp only; omega) | (simp; done) | (simp; omega), by first | rfl | omega | exact Nat.le_of_ble_eq_true rfl | (dsimp only; omega) | (simp; done) | (simp; omega), by omega, Nat.le_of_ble_eq_true rfl⟩ | exact Eq.refl true) ?_)
          | (refine Exists.intro _ (And.intro rfl ?_))
          | (refine And.intro (And.intro rfl (chk_rowI _ _ _ _)) ?_)
          | (refine br_t (by omega) ?_)
          | (refine br_f (by omega) ?_)
          | (refine bs_t (by omega) ?_)
          | (refine bs_f (by omega) ?_)
          | (refine fun (K' : K3) hK' => ?_)
          | (refine hK' _ _ _ ?_; clear hK' K')
          | (refine draw_auto tok mixed (by kernel_rfl) ?_)
          | (refine CallK.val (R := []) hA (by kernel_rfl) rfl (by simp [V.wf, A.wf, C.wf]) (HasO.ro ⟨⟨rfl, fun k hk => by (repeat (first | rw [find_skip (by omega)] | rw [find_hi (by omega) (by rfl)])); exact entC_find hk⟩, rfl⟩ hj) (injO hj) rfl trivial ?_)
          | (refine br_f (show ¬ (ordE j o ≠ 0) by omega) ?_)
          | (refine bs_t hn ?_)
          | (refine br_t hn ?_)
          | (refine bs_bt (Eq.refl true) ?_)
          | (refine bs_bf (Eq.refl false) ?_)
          | (refine br_bt (Eq.refl true) ?_)
          | (refine br_bf (Eq.refl false) ?_)
          | (refine CallK.m ?_)
          | (refine And.intro (And.intro rfl rfl) ?_))
      exact .inl ⟨rfl, rfl⟩
    · refine Spec.of tok Try.func46 rfl rfl rfl fun n0 cx => vc_ok tok ?_
      repeat ((conv => whnf); first
          | (refine And.intro (by first | omega | exact Nat.le_of_ble_eq_true rfl | (dsimp only [inK]; omega) | (simp only [mulS_eq]; omega) | (simp only [mulS_eq, setL_length]; omega) | (simp only [setL_length, List.length_map]; omega) | exact ⟨by omega, by omega, by first | exact Nat.le_of_ble_eq_true rfl | (dsimp only; omega) | (simp only [setL_length]; omega) | (simp only [setL_length, List.length_map]; omega)⟩ | exact ⟨by omega, by first | rfl | omega, by omega, Nat.le_of_ble_eq_true rfl, Nat.le_of_ble_eq_true rfl⟩ | exact ⟨rfl, rfl, rfl, Nat.le_of_ble_eq_true rfl, by first | rfl | omega | exact Nat.le_of_ble_eq_true rfl | (dsimp only; omega) | (simp; done) | (simp; omega), by first | rfl | omega | exact Nat.le_of_ble_eq_true rfl | (dsimp only; omega) | (simp; done) | (simp; omega), by omega, Nat.le_of_ble_eq_true rfl⟩ | exact Eq.refl true) ?_)
          | (refine Exists.intro _ (And.intro rfl ?_))
          | (refine And.intro (And.intro rfl (chk_rowI _ _ _ _)) ?_)
          | (refine br_t (by omega) ?_)
          | (refine br_f (by omega) ?_)
          | (refine bs_t (by omega) ?_)
          | (refine bs_f (by omega) ?_)
          | (refine fun (K' : K3) hK' => ?_)
          | (refine hK' _ _ _ ?_; clear hK' K')
          | (refine draw_auto tok mixed (by kernel_rfl) ?_)
          | (refine CallK.val (R := []) hA (by kernel_rfl) rfl (by simp [V.wf, A.wf, C.wf]) (HasO.ro ⟨⟨rfl, fun k hk => by (repeat (first | rw [find_skip (by omega)] | rw [find_hi (by omega) (by rfl)])); exact entC_find hk⟩, rfl⟩ hj) (injO hj) rfl trivial ?_)
          | (refine br_f (show ¬ (ordE j o ≠ 0) by omega) ?_)
          | (refine bs_f hn ?_)
          | (refine br_f hn ?_)
          | (refine br_t (show at' ≥ (o.length : Int) - 1 by omega) ?_)
          | (refine bs_bt (Eq.refl true) ?_)
          | (refine bs_bf (Eq.refl false) ?_)
          | (refine br_bt (Eq.refl true) ?_)
          | (refine br_bf (Eq.refl false) ?_)
          | (refine CallK.m ?_)
          | (refine And.intro (And.intro rfl rfl) ?_))
      exact .inl ⟨rfl, rfl⟩
  obtain ⟨k, rfl⟩ : ∃ n : Nat, at' = n := ⟨at'.toNat, by omega⟩
  have hk : k + 1 < o.length := by omega
  have hn : ¬ (k : Int) < 0 := by omega
  have hge : ¬ (k : Int) ≥ (o.length : Int) - 1 := by omega
  have hom : (o.map C.i).length = o.length := by simp
  by_cases hq : o.getD k 0 = o.getD (k + 1) 0
  case pos =>
    have e : swapE j o k = 5 := by simp only [swapE, hv, hi, if_true]; rw [if_pos hr, Int.toNat_natCast, if_pos hq]
    simp only [swapLs, swapNm, e]
    refine Spec.of tok Try.func46 rfl rfl rfl fun n0 cx => vc_ok tok ?_
    repeat ((conv => whnf); first
        | (refine And.intro (by first | omega | exact Nat.le_of_ble_eq_true rfl | (dsimp only [inK]; omega) | (simp only [mulS_eq]; omega) | (simp only [mulS_eq, setL_length]; omega) | (simp only [setL_length, List.length_map]; omega) | exact ⟨by omega, by omega, by first | exact Nat.le_of_ble_eq_true rfl | (dsimp only; omega) | (simp only [setL_length]; omega) | (simp only [setL_length, List.length_map]; omega)⟩ | exact ⟨by omega, by first | rfl | omega, by omega, Nat.le_of_ble_eq_true rfl, Nat.le_of_ble_eq_true rfl⟩ | exact ⟨rfl, rfl, rfl, Nat.le_of_ble_eq_true rfl, by first | rfl | omega | exact Nat.le_of_ble_eq_true rfl | (dsimp only; omega) | (simp; done) | (simp; omega), by first | rfl | omega | exact Nat.le_of_ble_eq_true rfl | (dsimp only; omega) | (simp; done) | (simp; omega), by omega, Nat.le_of_ble_eq_true rfl⟩ | exact Eq.refl true) ?_)
        | (with_reducible refine ld (intL (show k < o.length by omega)) ?_)
        | (with_reducible refine ld (ints_get2 rfl hk) ?_)
        | (refine Exists.intro _ (And.intro rfl ?_))
        | (refine And.intro (And.intro rfl (chk_rowI _ _ _ _)) ?_)
        | (refine br_t (by omega) ?_)
        | (refine br_f (by omega) ?_)
        | (refine bs_t (by omega) ?_)
        | (refine bs_f (by omega) ?_)
        | (refine fun (K' : K3) hK' => ?_)
        | (refine hK' _ _ _ ?_; clear hK' K')
        | (refine draw_auto tok mixed (by kernel_rfl) ?_)
        | (refine CallK.val (R := []) hA (by kernel_rfl) rfl (by simp [V.wf, A.wf, C.wf]) (HasO.ro ⟨⟨rfl, fun k hk => by (repeat (first | rw [find_skip (by omega)] | rw [find_hi (by omega) (by rfl)])); exact entC_find hk⟩, rfl⟩ hj) (injO hj) rfl trivial ?_)
        | (refine br_f (show ¬ (ordE j o ≠ 0) by omega) ?_)
        | (refine bs_f hn ?_)
        | (refine br_f hge ?_)
        | (refine br_t hq ?_)
        | (refine bs_bt (Eq.refl true) ?_)
        | (refine bs_bf (Eq.refl false) ?_)
        | (refine br_bt (Eq.refl true) ?_)
        | (refine br_bf (Eq.refl false) ?_)
        | (refine CallK.m ?_)
        | (refine And.intro (And.intro rfl rfl) ?_))
    exact .inl ⟨rfl, rfl⟩
  have e : swapE j o k = 0 := by simp only [swapE, hv, hi, if_true]; rw [if_pos hr, Int.toNat_natCast, if_neg hq]
  have hi2 := swapI_ord (by omega) hi hk
  have hl2 : (swapL 0 o k).length = o.length := swapL_len
  have h1 := harmO_bd hc (isOrd_ok hi) o.length (Nat.le_refl _)
  have h2 := harmO_bd hc (isOrd_ok hi2) (swapL 0 o k).length (Nat.le_refl _)
  simp only [swapLs, swapNm, e, if_true, Int.toNat_natCast]
  rw [hl2] at h2
  have hHx := rharm_spec j (swapL 0 o k) hj (by omega) hv hi2
  rw [hl2] at hHx
  refine Spec.of tok Try.func46 rfl rfl rfl fun n0 cx => vc_ok tok ?_
  repeat ((conv => whnf); first
      | (refine And.intro (by first | omega | exact Nat.le_of_ble_eq_true rfl | (dsimp only [inK]; omega) | (simp only [mulS_eq]; omega) | (simp only [mulS_eq, setL_length]; omega) | (simp only [setL_length, List.length_map]; omega) | exact ⟨by omega, by omega, by first | exact Nat.le_of_ble_eq_true rfl | (dsimp only; omega) | (simp only [setL_length]; omega) | (simp only [setL_length, List.length_map]; omega)⟩ | exact ⟨by omega, by first | rfl | omega, by omega, Nat.le_of_ble_eq_true rfl, Nat.le_of_ble_eq_true rfl⟩ | exact ⟨rfl, rfl, rfl, Nat.le_of_ble_eq_true rfl, by first | rfl | omega | exact Nat.le_of_ble_eq_true rfl | (dsimp only; omega) | (simp; done) | (simp; omega), by first | rfl | omega | exact Nat.le_of_ble_eq_true rfl | (dsimp only; omega) | (simp; done) | (simp; omega), by omega, Nat.le_of_ble_eq_true rfl⟩ | exact Eq.refl true) ?_)
      | (with_reducible refine ld (intL (show k < o.length by omega)) ?_)
      | (with_reducible refine ld (ints_get2 rfl hk) ?_)
      | (refine Exists.intro _ (And.intro rfl ?_))
      | (refine And.intro (And.intro rfl (chk_rowI _ _ _ _)) ?_)
      | (refine br_t (by omega) ?_)
      | (refine br_f (by omega) ?_)
      | (refine bs_t (by omega) ?_)
      | (refine bs_f (by omega) ?_)
      | (refine fun (K' : K3) hK' => ?_)
      | (refine hK' _ _ _ ?_; clear hK' K')
      | (refine draw_late 17 [33] tok mixed (by decide +kernel) ?_)
      | (refine draw_auto tok mixed (by kernel_rfl) ?_)
      | (refine CallK.val (R := []) hA (by kernel_rfl) rfl (by simp [V.wf, A.wf, C.wf]) (HasO.ro ⟨⟨rfl, fun k hk => by (repeat (first | rw [find_skip (by omega)] | rw [find_hi (by omega) (by rfl)])); exact entC_find hk⟩, rfl⟩ hj) (injO hj) rfl trivial ?_)
      | (refine br_f (show ¬ (ordE j o ≠ 0) by omega) ?_)
      | (refine bs_f hn ?_)
      | (refine br_f hge ?_)
      | (refine br_f hq ?_)
      | (with_reducible refine updK_ent (by omega) ?_)
      | (with_reducible refine rmK_ent (by omega) ?_)
      | (with_reducible refine visC_ent rfl (by omega) ?_)
      | (with_reducible refine relC_ent rfl (by omega) ?_)
      | (refine And.intro (by refine ⟨by omega, by omega, ?_⟩; first | (show 0 < (repC 0 [C.i 0] ++ (o.map C.i).take (o.length * 1)).length; rw [own_cs]; omega) | (show 0 < (setL (repC 0 [C.i 0] ++ (o.map C.i).take (o.length * 1)) _ _).length; rw [setL_length, own_cs]; omega)) ?_)
      | (refine And.intro (by first | (show mulS ((k : Nat) : Int).toNat 1 + 1 ≤ (repC 0 [C.i 0] ++ (o.map C.i).take (o.length * 1)).length; rw [own_cs, mulS_eq]; omega) | (show mulS (((k : Nat) : Int) + 1).toNat 1 + 1 ≤ (setL (repC 0 [C.i 0] ++ (o.map C.i).take (o.length * 1)) _ _).length; rw [setL_length, own_cs, mulS_eq]; omega)) ?_)
      | (refine CallK.val (R := [(21, some 33)]) hHx (by kernel_rfl) (congrArg (fun m => some [V.c (.sl 0 j.length), V.c (.sl 33 m)]) (show o.length = 0 + o.length by omega)) (by simp [V.wf, A.wf, C.wf]) (HasC.roO ⟨rfl, fun k hk => by (repeat (first | rw [find_skip (by omega)] | rw [find_hi (by omega) (by rfl)])); exact entC_find hk⟩ hj (congrArg (fun m => some (E.mk 33 (.vec 3 1) m)) (ints_swapC own_cs rfl rfl rfl))) (injO hj) rfl trivial ?_)
      | (refine CallK.val (R := []) (rharm_spec j o hj ho hv hi) (by kernel_rfl) rfl (by simp [V.wf, A.wf, C.wf]) (HasO.ro ⟨⟨rfl, fun k hk => by (repeat (first | rw [find_skip (by omega)] | rw [find_hi (by omega) (by rfl)])); exact entC_find hk⟩, rfl⟩ hj) (injO hj) rfl trivial ?_)
      | (refine bs_bt (Eq.refl true) ?_)
      | (refine bs_bf (Eq.refl false) ?_)
      | (refine br_bt (Eq.refl true) ?_)
      | (refine br_bf (Eq.refl false) ?_)
      | (refine CallK.m ?_)
      | (refine And.intro (And.intro rfl rfl) ?_))
  refine .inr ⟨33, congrArg (C.sl 33) (show 0 + o.length = (swapL 0 o k).length by omega), congrArg (fun m => some (E.mk 33 (.vec 3 1) m)) (ints_swapC own_cs rfl rfl rfl)⟩
end Go.Proofs.Ytjijjncddjkdlaa

/- The order that comes next. Plain law. -/
namespace Go.Proofs.Ytjijjncddjkdlaa
open Go.RowKit
set_option linter.unusedVariables false
set_option linter.unusedSimpArgs false
theorem piv_or (o : List Int) : NoPiv o ∨ ∃ k, PivAt o k := by
  have key : ∀ n, (∀ m, n ≤ m → m + 1 < o.length → o.getD m 0 ≥ o.getD (m + 1) 0) → NoPiv o ∨ ∃ k, PivAt o k := by
    intro n
    induction n with
    | zero => intro h; exact .inl fun m hm => h m (by omega) hm
    | succ n ih =>
      intro h
      by_cases hn : n + 1 < o.length ∧ o.getD n 0 < o.getD (n + 1) 0
      · exact .inr ⟨n, hn.1, hn.2, fun m hm h2 => h m (by omega) h2⟩
      · refine ih fun m hm h2 => ?_
        by_cases hmn : m = n
        · subst hmn; omega
        · exact h m (by omega) h2
  exact key o.length fun m hm h => by omega
theorem last_ex {o : List Int} {k : Nat} (hp : PivAt o k) : ∃ i, LastAt o k i := by
  have key : ∀ n, k + 1 ≤ n → n ≤ o.length → (∀ m, n ≤ m → m < o.length → ¬ o.getD k 0 < o.getD m 0) → ∃ i, LastAt o k i := by
    intro n
    induction n with
    | zero => intro h; omega
    | succ n ih =>
      intro h1 h2 h3
      by_cases hn : o.getD k 0 < o.getD n 0
      · by_cases hkn : k < n
        · exact ⟨n, hkn, by omega, hn, fun m hm h => h3 m (by omega) h⟩
        · have : n = k := by omega
          subst this; omega
      · by_cases hkn : n = k
        · exact absurd hp.up (h3 (k + 1) (by omega) hp.lt)
        · refine ih (by omega) (by omega) fun m hm h => ?_
          by_cases hmn : m = n
          · subst hmn; exact hn
          · exact h3 m (by omega) h
  exact key o.length (by have := hp.lt; omega) (Nat.le_refl _) (fun m hm h => by omega)
/-- Behind the place, the numbers never rise. -/
theorem piv_desc {o : List Int} {k : Nat} (hp : PivAt o k) {a : Nat} (ha : k < a) : ∀ {b : Nat}, a ≤ b → b < o.length → o.getD b 0 ≤ o.getD a 0 := by
  intro b
  induction b with
  | zero => intro h; omega
  | succ b ih =>
    intro h1 h2
    by_cases hab : a = b + 1
    · subst hab; exact Int.le_refl _
    · have := ih (by omega) (by omega)
      have := hp.rest b (by omega) h2
      omega
theorem getD_drop {α : Type} {l : List α} {a b : Nat} {d : α} : (l.drop a).getD b d = l.getD (a + b) d := by
  simp [List.getD_eq_getElem?_getD]
theorem revX_tail {α : Type} (l : List α) (d : α) (a : Nat) (ha : a ≤ l.length) : revX l d a (l.length - a) (l.length - a) = l.take a ++ (l.drop a).reverse := by
  refine ext_getD d (by rw [revX_len]; simp; omega) (fun j hj => ?_)
  rw [revX_len] at hj
  rw [revX_get hj]
  by_cases h : j < a
  · rw [if_neg (by omega)]
    simp only [List.getD_eq_getElem?_getD]
    rw [List.getElem?_append_left (by simp; omega), List.getElem?_take, if_pos h]
  · rw [if_pos (by omega)]
    simp only [List.getD_eq_getElem?_getD]
    rw [List.getElem?_append_right (by simp; omega), List.getElem?_reverse (by simp; omega), List.getElem?_drop]
    congr 2
    simp only [List.length_take, List.length_drop]
    omega
/-- The numbers behind the place, turned, with one exchanged. -/
def swK (o : List Int) (k i : Nat) : List Int := (o.set k (o.getD i 0)).set i (o.getD k 0)
theorem swK_len {o : List Int} {k i : Nat} : (swK o k i).length = o.length := by simp [swK]
theorem swK_get {o : List Int} {k i x : Nat} (hk : k < o.length) (hi : i < o.length) : (swK o k i).getD x 0 = if x = i then o.getD k 0 else if x = k then o.getD i 0 else o.getD x 0 := by
  unfold swK
  rw [getD_setX _ _ _ _ _ (by rw [List.length_set]; exact hi)]
  split
  · rfl
  · rw [getD_setX _ _ _ _ _ hk]
theorem nextR_eq {o : List Int} {k i : Nat} (hp : PivAt o k) (hl : LastAt o k i) : nextR o k i = o.take k ++ [o.getD i 0] ++ ((swK o k i).drop (k + 1)).reverse := by
  have hk := hp.lt
  have h1 := hl.gt
  have h2 := hl.lt
  unfold nextR
  have e := revX_tail (swK o k i) 0 (k + 1) (by rw [swK_len]; omega)
  rw [swK_len] at e
  show revX (swK o k i) 0 (k + 1) (o.length - (k + 1)) (o.length - (k + 1)) = _
  rw [e]
  congr 1
  rw [take_succ_getD (d := 0) (by rw [swK_len]; omega), swK_get (by omega) h2, if_neg (by omega), if_pos rfl]
  congr 1
  unfold swK
  rw [List.take_set_of_le (by omega), List.take_set_of_le (Nat.le_refl _)]
theorem swK_desc {o : List Int} {k i : Nat} (hp : PivAt o k) (hl : LastAt o k i) {a b : Nat} (ha : k < a) (hab : a ≤ b) (hb : b < o.length) : (swK o k i).getD b 0 ≤ (swK o k i).getD a 0 := by
  have hk := hp.lt
  have h1 := hl.gt
  have h2 := hl.lt
  have h3 := hl.up
  rw [swK_get (by omega) h2, swK_get (by omega) h2, if_neg (show b ≠ k by omega), if_neg (show a ≠ k by omega)]
  by_cases hbi : b = i
  · subst hbi
    rw [if_pos rfl]
    by_cases hai : a = b
    · subst hai; rw [if_pos rfl]; exact Int.le_refl _
    · rw [if_neg hai]
      have := piv_desc hp ha hab hb
      omega
  · rw [if_neg hbi]
    by_cases hai : a = i
    · subst hai
      rw [if_pos rfl]
      have := hl.rest b (by omega) hb
      omega
    · rw [if_neg hai]; exact piv_desc hp ha hab hb
theorem tail_asc {o : List Int} {k i : Nat} (hp : PivAt o k) (hl : LastAt o k i) : (((swK o k i).drop (k + 1)).reverse).Pairwise (· ≤ ·) := by
  rw [List.pairwise_reverse, List.pairwise_iff_getElem]
  intro a b ha hb hab
  rw [List.length_drop, swK_len] at ha hb
  have := swK_desc hp hl (a := k + 1 + a) (b := k + 1 + b) (by omega) (by omega) (by omega)
  rw [getD_lt (by rw [swK_len]; omega), getD_lt (by rw [swK_len]; omega)] at this
  rw [List.getElem_drop, List.getElem_drop]
  exact this
/-- What the reference answers: the place, the first of the least greater numbers behind it, and the rest in order. -/
structure LeastAt (o : List Int) (k l : Nat) : Prop where
  gt : k < l
  lt : l < o.length
  up : o.getD k 0 < o.getD l 0
  least : ∀ m, k < m → m < o.length → o.getD k 0 < o.getD m 0 → o.getD l 0 ≤ o.getD m 0
/-- Numbers below six, in order. -/
def sortL (l : List Int) : List Int := ((List.range 6).map fun (n : Nat) => List.replicate (l.count (n : Int)) (n : Int)).flatten
def nextRef (o : List Int) (k l : Nat) : List Int := o.take k ++ [o.getD l 0] ++ sortL (((o.drop k).set (l - k) (o.getD k 0)).drop 1)
theorem sortL_asc (l : List Int) : (sortL l).Pairwise (· ≤ ·) := by
  have key : ∀ n, (((List.range n).map fun (n : Nat) => List.replicate (l.count (n : Int)) (n : Int)).flatten).Pairwise (· ≤ ·) ∧ ∀ x ∈ ((List.range n).map fun (n : Nat) => List.replicate (l.count (n : Int)) (n : Int)).flatten, x < n := by
    intro n
    induction n with
    | zero => simp
    | succ n ih =>
      rw [List.range_succ, List.map_append, List.flatten_append]
      refine ⟨List.pairwise_append.2 ⟨ih.1, ?_, ?_⟩, ?_⟩
      · simp only [List.map_cons, List.map_nil, List.flatten_cons, List.flatten_nil, List.append_nil]
        exact List.pairwise_replicate.2 (.inr (Int.le_refl _))
      · intro a ha b hb
        simp only [List.map_cons, List.map_nil, List.flatten_cons, List.flatten_nil, List.append_nil, List.mem_replicate] at hb
        have := ih.2 a ha
        omega
      · intro x hx
        rcases List.mem_append.1 hx with hx | hx
        · have := ih.2 x hx; omega
        · simp only [List.map_cons, List.map_nil, List.flatten_cons, List.flatten_nil, List.append_nil, List.mem_replicate] at hx
          omega
  exact (key 6).1
theorem sortL_count {l : List Int} (h : ∀ x ∈ l, 0 ≤ x ∧ x < 6) (a : Int) : (sortL l).count a = l.count a := by
  have key : ∀ n : Nat, (((List.range n).map fun (n : Nat) => List.replicate (l.count (n : Int)) (n : Int)).flatten).count a = if 0 ≤ a ∧ a < n then l.count a else 0 := by
    intro n
    induction n with
    | zero => rw [if_neg (by omega)]; simp
    | succ n ih =>
      rw [List.range_succ, List.map_append, List.flatten_append, List.count_append, ih]
      simp only [List.map_cons, List.map_nil, List.flatten_cons, List.flatten_nil, List.append_nil]
      have hcnt : (List.replicate (l.count (n : Int)) (n : Int)).count a = if a = (n : Int) then l.count a else 0 := by
        rw [List.count_replicate]
        by_cases h : a = (n : Int)
        · subst h; simp
        · have : ((n : Int) == a) = false := by simpa using fun e => h e.symm
          rw [this, if_neg h]; rfl
      rw [hcnt]
      by_cases h1 : 0 ≤ a ∧ a < (n : Int)
      · rw [if_pos h1, if_neg (show ¬ a = (n : Int) by omega), if_pos (show 0 ≤ a ∧ a < ((n + 1 : Nat) : Int) by omega), Nat.add_zero]
      · rw [if_neg h1]
        by_cases h2 : a = (n : Int)
        · rw [if_pos h2, if_pos (show 0 ≤ a ∧ a < ((n + 1 : Nat) : Int) by omega), Nat.zero_add]
        · rw [if_neg h2, if_neg (show ¬ (0 ≤ a ∧ a < ((n + 1 : Nat) : Int)) by omega)]
  unfold sortL
  rw [key 6]
  split
  · rfl
  · next hn =>
    refine (List.count_eq_zero.2 fun hm => hn ?_).symm
    have := h a hm
    omega
theorem asc_eq {a b : List Int} (ha : a.Pairwise (· ≤ ·)) (hb : b.Pairwise (· ≤ ·)) (h : ∀ x, a.count x = b.count x) : a = b :=
  List.Perm.eq_of_pairwise (fun x y _ _ h1 h2 => Int.le_antisymm h1 h2) ha hb (List.perm_iff_count.2 h)
theorem swK_drop {o : List Int} {k i : Nat} (h1 : k < i) : (swK o k i).drop (k + 1) = (o.drop (k + 1)).set (i - (k + 1)) (o.getD k 0) := by
  unfold swK
  rw [List.drop_set, if_neg (by omega), List.drop_set_of_lt (by omega)]
theorem next_same {o : List Int} {k i l : Nat} (hr : ∀ x ∈ o, 0 ≤ x ∧ x < 6) (hp : PivAt o k) (hl : LastAt o k i) (hm : LeastAt o k l) : nextRef o k l = nextR o k i := by
  have hk := hp.lt
  have hv : o.getD l 0 = o.getD i 0 := by
    have a1 := hm.least i hl.gt hl.lt hl.up
    have a2 : o.getD i 0 ≤ o.getD l 0 := by
      by_cases h : l ≤ i
      · exact piv_desc hp hm.gt h hl.lt
      · exact absurd hm.up (hl.rest l (by omega) hm.lt)
    omega
  rw [nextR_eq hp hl]
  unfold nextRef
  rw [hv]
  congr 1
  have hd : ((o.drop k).set (l - k) (o.getD k 0)).drop 1 = (o.drop (k + 1)).set (l - (k + 1)) (o.getD k 0) := by
    have := hm.gt
    rw [List.drop_set, if_neg (by omega), List.drop_drop]
    congr 1
  rw [hd]
  have hmem : ∀ x ∈ (o.drop (k + 1)).set (l - (k + 1)) (o.getD k 0), 0 ≤ x ∧ x < 6 := by
    intro x hx
    rcases List.mem_or_eq_of_mem_set hx with hx | rfl
    · exact hr x (List.mem_of_mem_drop hx)
    · rw [getD_lt (by omega)]; exact hr _ (List.getElem_mem _)
  refine asc_eq (sortL_asc _) (tail_asc hp hl) fun x => ?_
  have g1 := hm.gt
  have g2 := hm.lt
  have g3 := hl.gt
  have g4 := hl.lt
  rw [sortL_count hmem, List.count_reverse, swK_drop hl.gt, List.count_set (by rw [List.length_drop]; omega), List.count_set (by rw [List.length_drop]; omega), List.getElem_drop, List.getElem_drop]
  have e1 : o[k + 1 + (l - (k + 1))]'(by omega) = o.getD l 0 := by rw [getD_lt g2]; congr 1; omega
  have e2 : o[k + 1 + (i - (k + 1))]'(by omega) = o.getD i 0 := by rw [getD_lt g4]; congr 1; omega
  rw [e1, e2, hv]
end Go.Proofs.Ytjijjncddjkdlaa

/- Shore: the reference's Next. -/
namespace Go.Proofs.Ytjijjncddjkdlaa
open Go.RowKit
set_option linter.unusedVariables false
set_option linter.unusedSimpArgs false
/-- The place of the least greater number among the i behind place k, or -1. -/
def lsF (o : List Int) (k : Nat) : Nat → Int
  | 0 => -1
  | i + 1 => if o.getD k 0 < o.getD (k + 1 + i) 0 ∧ (lsF o k i < 0 ∨ o.getD (k + 1 + i) 0 < o.getD (lsF o k i).toNat 0) then ((k + 1 + i : Nat) : Int) else lsF o k i
theorem lsF_or (o : List Int) (k i : Nat) : (lsF o k i = -1 ∧ ∀ m, k < m → m < k + 1 + i → ¬ o.getD k 0 < o.getD m 0) ∨
    ∃ l : Nat, lsF o k i = l ∧ k < l ∧ l < k + 1 + i ∧ o.getD k 0 < o.getD l 0 ∧ ∀ m, k < m → m < k + 1 + i → o.getD k 0 < o.getD m 0 → o.getD l 0 ≤ o.getD m 0 := by
  induction i with
  | zero => exact .inl ⟨rfl, fun m h1 h2 => by omega⟩
  | succ i ih =>
    simp only [lsF]
    by_cases hc : o.getD k 0 < o.getD (k + 1 + i) 0 ∧ (lsF o k i < 0 ∨ o.getD (k + 1 + i) 0 < o.getD (lsF o k i).toNat 0)
    · rw [if_pos hc]
      refine .inr ⟨k + 1 + i, rfl, by omega, by omega, hc.1, fun m h1 h2 h3 => ?_⟩
      by_cases hm : m = k + 1 + i
      · subst hm; exact Int.le_refl _
      · rcases ih with ⟨e, h⟩ | ⟨l, e, h4, h5, h6, h7⟩
        · exact absurd h3 (h m h1 (by omega))
        · rw [e, Int.toNat_natCast] at hc
          have := h7 m h1 (by omega) h3
          rcases hc.2 with h | h <;> omega
    · rw [if_neg hc]
      rcases ih with ⟨e, h⟩ | ⟨l, e, h4, h5, h6, h7⟩
      · refine .inl ⟨e, fun m h1 h2 h3 => ?_⟩
        by_cases hm : m = k + 1 + i
        · subst hm; exact hc ⟨h3, .inl (by omega)⟩
        · exact h m h1 (by omega) h3
      · refine .inr ⟨l, e, h4, by omega, h6, fun m h1 h2 h3 => ?_⟩
        by_cases hm : m = k + 1 + i
        · subst hm
          rw [e, Int.toNat_natCast] at hc
          exact Int.not_lt.1 fun hlt => hc ⟨h3, .inr hlt⟩
        · exact h7 m h1 (by omega) h3
theorem lsF_yes {o : List Int} {k i : Nat} (h1 : o.getD k 0 < o.getD (k + 1 + i) 0) (h2 : lsF o k i < 0 ∨ o.getD (k + 1 + i) 0 < o.getD (lsF o k i).toNat 0) : lsF o k (i + 1) = ((k + 1 + i : Nat) : Int) := by
  simp only [lsF]; rw [if_pos ⟨h1, h2⟩]
theorem lsF_no1 {o : List Int} {k i : Nat} (h1 : ¬ o.getD k 0 < o.getD (k + 1 + i) 0) : lsF o k (i + 1) = lsF o k i := by
  simp only [lsF]; rw [if_neg fun h => h1 h.1]
theorem lsF_no2 {o : List Int} {k i : Nat} (h1 : ¬ lsF o k i < 0) (h2 : ¬ o.getD (k + 1 + i) 0 < o.getD (lsF o k i).toNat 0) : lsF o k (i + 1) = lsF o k i := by
  simp only [lsF]; rw [if_neg fun h => h.2.elim h1 h2]
/-- At the place itself. -/
theorem lsF_piv {o : List Int} {k : Nat} (hp : PivAt o k) : ∃ l : Nat, lsF o k (o.length - (k + 1)) = l ∧ LeastAt o k l := by
  have hk := hp.lt
  rcases lsF_or o k (o.length - (k + 1)) with ⟨e, h⟩ | ⟨l, e, h4, h5, h6, h7⟩
  · exact absurd hp.up (h (k + 1) (by omega) (by omega))
  · exact ⟨l, e, h4, by omega, h6, fun m h1 h2 h3 => h7 m h1 (by omega) h3⟩
theorem lsF_none {o : List Int} {a : Nat} (h : ∀ m, a < m → m < o.length → ¬ o.getD a 0 < o.getD m 0) (ha : a < o.length) : lsF o a (o.length - (a + 1)) = -1 := by
  rcases lsF_or o a (o.length - (a + 1)) with ⟨e, _⟩ | ⟨l, e, h4, h5, h6, _⟩
  · exact e
  · exact absurd h6 (h l h4 (by omega))
theorem rnext_bad (j : Coast) (o : List Int) (hj : Sized j) (ho : o.length ≤ 200) (hb : ordE j o ≠ 0) :
    Spec Try.prog 48 [V.c (.sl 0 j.length), V.c (.sl 21 o.length)] (⟨0, .ro 1, slsC 1 j⟩ :: ⟨21, .ro 1, o.map C.i⟩ :: entC 1 j) 32 (fun v L' _ => intsX [] (ordE j o) v L') := by
  have hj20 := hj.len
  have hA := asked_spec j o hj ho
  rw [asked_val] at hA
  refine Spec.of tok Try.func48 rfl rfl rfl fun n0 cx => vc_ok tok ?_
  repeat ((conv => whnf); first
      | (refine And.intro (by first | omega | exact Nat.le_of_ble_eq_true rfl | (dsimp only [inK]; omega) | (simp only [mulS_eq]; omega) | (simp only [mulS_eq, setL_length]; omega) | (simp only [setL_length, List.length_map]; omega) | exact ⟨by omega, by omega, by first | exact Nat.le_of_ble_eq_true rfl | (dsimp only; omega) | (simp only [setL_length]; omega) | (simp only [setL_length, List.length_map]; omega)⟩ | exact ⟨by omega, by first | rfl | omega, by omega, Nat.le_of_ble_eq_true rfl, Nat.le_of_ble_eq_true rfl⟩ | exact ⟨rfl, rfl, rfl, Nat.le_of_ble_eq_true rfl, by first | rfl | omega | exact Nat.le_of_ble_eq_true rfl | (dsimp only; omega) | (simp; done) | (simp; omega), by first | rfl | omega | exact Nat.le_of_ble_eq_true rfl | (dsimp only; omega) | (simp; done) | (simp; omega), by omega, Nat.le_of_ble_eq_true rfl⟩ | exact Eq.refl true) ?_)
      | (refine Exists.intro _ (And.intro rfl ?_))
      | (refine And.intro (And.intro rfl (chk_rowI _ _ _ _)) ?_)
      | (refine br_t (by omega) ?_)
      | (refine br_f (by omega) ?_)
      | (refine bs_t (by omega) ?_)
      | (refine bs_f (by omega) ?_)
      | (refine fun (K' : K3) hK' => ?_)
      | (refine hK' _ _ _ ?_; clear hK' K')
      | (refine draw_auto tok mixed (by kernel_rfl) ?_)
      | (refine CallK.val (R := [(21, some 21)]) hA (by kernel_rfl) rfl (by simp [V.wf, A.wf, C.wf]) (HasC.roO ⟨rfl, fun k hk => by (repeat (first | rw [find_skip (by omega)] | rw [find_hi (by omega) (by rfl)])); exact entC_find hk⟩ hj rfl) (injO hj) rfl trivial ?_)
      | (refine br_t hb ?_)
      | (refine bs_bt (Eq.refl true) ?_)
      | (refine bs_bf (Eq.refl false) ?_)
      | (refine br_bt (Eq.refl true) ?_)
      | (refine br_bf (Eq.refl false) ?_)
      | (refine CallK.m ?_)
      | (refine And.intro (And.intro rfl rfl) ?_))
  exact .inl ⟨rfl, rfl⟩
set_option maxHeartbeats 1000000 in
set_option maxRecDepth 100000 in
theorem rnext_none (j : Coast) (o : List Int) (hj : Sized j) (ho : o.length ≤ 200) (hb : ordE j o = 0) (hp : NoPiv o) :
    Spec Try.prog 48 [V.c (.sl 0 j.length), V.c (.sl 21 o.length)] (⟨0, .ro 1, slsC 1 j⟩ :: ⟨21, .ro 1, o.map C.i⟩ :: entC 1 j) 32 (fun v L' _ => intsX [] 5 v L') := by
  have hj20 := hj.len
  have hA := asked_spec j o hj ho
  rw [asked_val] at hA
  have hdesc : ∀ a, a < o.length → ∀ m, a < m → m < o.length → ¬ o.getD a 0 < o.getD m 0 := by
    intro a ha m
    have key : ∀ d, a + d < o.length → o.getD (a + d) 0 ≤ o.getD a 0 := by
      intro d
      induction d with
      | zero => intro _; exact Int.le_refl _
      | succ d ih => intro h; have := ih (by omega); have := hp (a + d) (by omega); rw [show a + (d + 1) = a + d + 1 from rfl]; omega
    intro h1 h2
    have := key (m - a) (by omega)
    rw [show a + (m - a) = m by omega] at this
    omega
  have hom : (o.map C.i).length = o.length := by simp
  refine Spec.of tok Try.func48 rfl rfl rfl fun n0 cx => vc_ok tok ?_
  repeat ((conv => whnf); first
      | (refine And.intro (by first | omega | exact Nat.le_of_ble_eq_true rfl | (dsimp only [inK]; omega) | (simp only [mulS_eq]; omega) | (simp only [mulS_eq, setL_length]; omega) | (simp only [setL_length, List.length_map]; omega) | exact ⟨by omega, by omega, by first | exact Nat.le_of_ble_eq_true rfl | (dsimp only; omega) | (simp only [setL_length]; omega) | (simp only [setL_length, List.length_map]; omega)⟩ | exact ⟨by omega, by first | rfl | omega, by omega, Nat.le_of_ble_eq_true rfl, Nat.le_of_ble_eq_true rfl⟩ | exact ⟨rfl, rfl, rfl, Nat.le_of_ble_eq_true rfl, by first | rfl | omega | exact Nat.le_of_ble_eq_true rfl | (dsimp only; omega) | (simp; done) | (simp; omega), by first | rfl | omega | exact Nat.le_of_ble_eq_true rfl | (dsimp only; omega) | (simp; done) | (simp; omega), by omega, Nat.le_of_ble_eq_true rfl⟩ | exact Eq.refl true) ?_)
      | (refine Exists.intro _ (And.intro rfl ?_))
      | (refine And.intro (And.intro rfl (chk_rowI _ _ _ _)) ?_)
      | (refine br_t (by omega) ?_)
      | (refine br_f (by omega) ?_)
      | (refine bs_t (by omega) ?_)
      | (refine bs_f (by omega) ?_)
      | (refine fun (K' : K3) hK' => ?_)
      | (refine hK' _ _ _ ?_; clear hK' K')
      | (refine draw_auto tok mixed (by kernel_rfl) ?_)
      | (refine CallK.val (R := [(21, some 21)]) hA (by kernel_rfl) rfl (by simp [V.wf, A.wf, C.wf]) (HasC.roO ⟨rfl, fun k hk => by (repeat (first | rw [find_skip (by omega)] | rw [find_hi (by omega) (by rfl)])); exact entC_find hk⟩ hj rfl) (injO hj) rfl trivial ?_)
      | (refine br_f (show ¬ (ordE j o ≠ 0) by omega) ?_)
      | (refine bs_bt (Eq.refl true) ?_)
      | (refine bs_bf (Eq.refl false) ?_)
      | (refine br_bt (Eq.refl true) ?_)
      | (refine br_bf (Eq.refl false) ?_)
      | (refine CallK.m ?_)
      | (refine And.intro (And.intro rfl rfl) ?_))
  refine Tri.loop (γ := Nat) (fun q => q ≤ o.length) (fun q => [(1, V.c (.sl 21 o.length)), (7, V.i ((q : Int) - 1))])
    (fun _ => ⟨0, .ro 1, slsC 1 j⟩ :: ⟨21, .ro 1, o.map C.i⟩ :: entC 1 j) 32 (fun q => q) o.length (R0 := []) ?_ ?_ ?_
  · exact Nat.le_refl _
  · skip
    refine ⟨?_, ?_, injB_ent (p := [_, _]) (by omega) rfl rfl, rfl, by first | exact Nat.le_of_ble_eq_true rfl | exact Nat.le_refl _ | omega⟩
    · repeat (first | exact trivial | refine And.intro (covS_syn (by first | rfl | (refine congrArg some (congrArg V.i ?_); omega)) rfl (by first | exact trivial | exact Nat.le_of_ble_eq_true rfl | exact hy | exact (fun p hp => nomatch hp) | (show (_ : Nat) < _; omega))) ?_ | refine And.intro (covS_bool rfl rfl (by first | rfl)) ?_)
    · repeat (first | exact trivial | (exact covL_ent (by omega) (fun k hk => by (try simp only [flatN]); (repeat (first | rw [find_skip (by omega)] | rw [find_hi (by omega) (by rfl)])))) | refine And.intro (covE_id (Nat.le_of_ble_eq_true rfl) (by first | exact wf_ints _ _ | exact wf_bools _ _ | first | exact wf_sls _ _ _ (by omega) | exact wf_jobs _ _ | simp [C.wf]) rfl (by first | rfl | (fail))) ?_)
  · intro q hq
    refine vc_ok tok ?_
    by_cases hq0 : q = 0
    · subst hq0
      repeat ((conv => whnf); first
          | (refine And.intro (by first | omega | exact Nat.le_of_ble_eq_true rfl | (dsimp only [inK]; omega) | (simp only [mulS_eq]; omega) | (simp only [mulS_eq, setL_length]; omega) | (simp only [setL_length, List.length_map]; omega) | exact ⟨by omega, by omega, by first | exact Nat.le_of_ble_eq_true rfl | (dsimp only; omega) | (simp only [setL_length]; omega) | (simp only [setL_length, List.length_map]; omega)⟩ | exact ⟨by omega, by first | rfl | omega, by omega, Nat.le_of_ble_eq_true rfl, Nat.le_of_ble_eq_true rfl⟩ | exact ⟨rfl, rfl, rfl, Nat.le_of_ble_eq_true rfl, by first | rfl | omega | exact Nat.le_of_ble_eq_true rfl | (dsimp only; omega) | (simp; done) | (simp; omega), by first | rfl | omega | exact Nat.le_of_ble_eq_true rfl | (dsimp only; omega) | (simp; done) | (simp; omega), by omega, Nat.le_of_ble_eq_true rfl⟩ | exact Eq.refl true) ?_)
          | (refine Exists.intro _ (And.intro rfl ?_))
          | (refine And.intro (And.intro rfl (chk_rowI _ _ _ _)) ?_)
          | (refine br_t (by omega) ?_)
          | (refine br_f (by omega) ?_)
          | (refine bs_t (by omega) ?_)
          | (refine bs_f (by omega) ?_)
          | (refine fun (K' : K3) hK' => ?_)
          | (refine hK' _ _ _ ?_; clear hK' K')
          | (refine draw_auto tok mixed (by kernel_rfl) ?_)
          | (refine bs_bt (Eq.refl true) ?_)
          | (refine bs_bf (Eq.refl false) ?_)
          | (refine br_bt (Eq.refl true) ?_)
          | (refine br_bf (Eq.refl false) ?_)
          | (refine CallK.m ?_)
          | (refine And.intro (And.intro rfl rfl) ?_))
      exact .inl ⟨rfl, rfl⟩
    · obtain ⟨a, rfl⟩ : ∃ a, q = a + 1 := ⟨q - 1, by omega⟩
      repeat ((conv => whnf); first
          | (refine And.intro (by first | omega | exact Nat.le_of_ble_eq_true rfl | (dsimp only [inK]; omega) | (simp only [mulS_eq]; omega) | (simp only [mulS_eq, setL_length]; omega) | (simp only [setL_length, List.length_map]; omega) | exact ⟨by omega, by omega, by first | exact Nat.le_of_ble_eq_true rfl | (dsimp only; omega) | (simp only [setL_length]; omega) | (simp only [setL_length, List.length_map]; omega)⟩ | exact ⟨by omega, by first | rfl | omega, by omega, Nat.le_of_ble_eq_true rfl, Nat.le_of_ble_eq_true rfl⟩ | exact ⟨rfl, rfl, rfl, Nat.le_of_ble_eq_true rfl, by first | rfl | omega | exact Nat.le_of_ble_eq_true rfl | (dsimp only; omega) | (simp; done) | (simp; omega), by first | rfl | omega | exact Nat.le_of_ble_eq_true rfl | (dsimp only; omega) | (simp; done) | (simp; omega), by omega, Nat.le_of_ble_eq_true rfl⟩ | exact Eq.refl true) ?_)
          | (refine Exists.intro _ (And.intro rfl ?_))
          | (refine And.intro (And.intro rfl (chk_rowI _ _ _ _)) ?_)
          | (refine br_t (by omega) ?_)
          | (refine br_f (by omega) ?_)
          | (refine bs_t (by omega) ?_)
          | (refine bs_f (by omega) ?_)
          | (refine fun (K' : K3) hK' => ?_)
          | (refine hK' _ _ _ ?_; clear hK' K')
          | (refine draw_auto tok mixed (by kernel_rfl) ?_)
          | (refine bs_bt (Eq.refl true) ?_)
          | (refine bs_bf (Eq.refl false) ?_)
          | (refine br_bt (Eq.refl true) ?_)
          | (refine br_bf (Eq.refl false) ?_)
          | (refine CallK.m ?_)
          | (refine And.intro (And.intro rfl rfl) ?_))
      refine Tri.loop (γ := Nat) (fun i => a + 1 + i ≤ o.length) (fun i => [(1, V.c (.sl 21 o.length)), (7, V.i (a : Nat)), (8, V.i (lsF o a i)), (9, V.i ((a + 1 + i : Nat) : Int))])
        (fun _ => ⟨0, .ro 1, slsC 1 j⟩ :: ⟨21, .ro 1, o.map C.i⟩ :: entC 1 j) 32 (fun i => o.length - i) 0 (R0 := []) ?_ ?_ ?_
      · omega
      · skip
        refine ⟨?_, ?_, injB_ent (p := [_, _]) (by omega) rfl rfl, rfl, by first | exact Nat.le_of_ble_eq_true rfl | exact Nat.le_refl _ | omega⟩
        · repeat (first | exact trivial | refine And.intro (covS_syn (by first | rfl | (refine congrArg some (congrArg V.i ?_); omega)) rfl (by first | exact trivial | exact Nat.le_of_ble_eq_true rfl | exact hy | exact (fun p hp => nomatch hp) | (show (_ : Nat) < _; omega))) ?_ | refine And.intro (covS_bool rfl rfl (by first | rfl)) ?_)
        · repeat (first | exact trivial | (exact covL_ent (by omega) (fun k hk => by (try simp only [flatN]); (repeat (first | rw [find_skip (by omega)] | rw [find_hi (by omega) (by rfl)])))) | refine And.intro (covE_id (Nat.le_of_ble_eq_true rfl) (by first | exact wf_ints _ _ | exact wf_bools _ _ | first | exact wf_sls _ _ _ (by omega) | exact wf_jobs _ _ | simp [C.wf]) rfl (by first | rfl | (fail))) ?_)
      · intro i hi
        refine vc_ok tok ?_
        by_cases hin : a + 1 + i < o.length
        · have hno := hdesc a (by omega) (a + 1 + i) (by omega) hin
          repeat ((conv => whnf); first
              | (refine And.intro (by first | omega | exact Nat.le_of_ble_eq_true rfl | (dsimp only [inK]; omega) | (simp only [mulS_eq]; omega) | (simp only [mulS_eq, setL_length]; omega) | (simp only [setL_length, List.length_map]; omega) | exact ⟨by omega, by omega, by first | exact Nat.le_of_ble_eq_true rfl | (dsimp only; omega) | (simp only [setL_length]; omega) | (simp only [setL_length, List.length_map]; omega)⟩ | exact ⟨by omega, by first | rfl | omega, by omega, Nat.le_of_ble_eq_true rfl, Nat.le_of_ble_eq_true rfl⟩ | exact ⟨rfl, rfl, rfl, Nat.le_of_ble_eq_true rfl, by first | rfl | omega | exact Nat.le_of_ble_eq_true rfl | (dsimp only; omega) | (simp; done) | (simp; omega), by first | rfl | omega | exact Nat.le_of_ble_eq_true rfl | (dsimp only; omega) | (simp; done) | (simp; omega), by omega, Nat.le_of_ble_eq_true rfl⟩ | exact Eq.refl true) ?_)
              | (with_reducible refine ld (intLz (k := a + 1 + i) rfl hin) ?_)
              | (with_reducible refine ld (intLz (k := a) rfl (by omega)) ?_)
              | (refine Exists.intro _ (And.intro rfl ?_))
              | (refine And.intro (And.intro rfl (chk_rowI _ _ _ _)) ?_)
              | (refine br_t (by omega) ?_)
              | (refine br_f (by omega) ?_)
              | (refine bs_t (by omega) ?_)
              | (refine bs_f (by omega) ?_)
              | (refine fun (K' : K3) hK' => ?_)
              | (refine hK' _ _ _ ?_; clear hK' K')
              | (refine draw_auto tok mixed (by kernel_rfl) ?_)
              | (refine br_f hno ?_)
              | (refine bs_f hno ?_)
              | (refine bs_bt (Eq.refl true) ?_)
              | (refine bs_bf (Eq.refl false) ?_)
              | (refine br_bt (Eq.refl true) ?_)
              | (refine br_bf (Eq.refl false) ?_)
              | (refine CallK.m ?_)
              | (refine And.intro (And.intro rfl rfl) ?_))
          refine ⟨i + 1, [], by omega, by omega, ?_⟩
          rw [lsF_no1 hno]
          refine ⟨?_, ?_, injB_ent (p := [_, _]) (by omega) rfl rfl, rfl, by first | exact Nat.le_of_ble_eq_true rfl | exact Nat.le_refl _ | omega⟩
          · repeat (first | exact trivial | refine And.intro (covS_syn (by first | rfl | (refine congrArg some (congrArg V.i ?_); omega)) rfl (by first | exact trivial | exact Nat.le_of_ble_eq_true rfl | exact hy | exact (fun p hp => nomatch hp) | (show (_ : Nat) < _; omega))) ?_ | refine And.intro (covS_bool rfl rfl (by first | rfl)) ?_)
          · repeat (first | exact trivial | (exact covL_ent (by omega) (fun k hk => by (try simp only [flatN]); (repeat (first | rw [find_skip (by omega)] | rw [find_hi (by omega) (by rfl)])))) | refine And.intro (covE_id (Nat.le_of_ble_eq_true rfl) (by first | exact wf_ints _ _ | exact wf_bools _ _ | first | exact wf_sls _ _ _ (by omega) | exact wf_jobs _ _ | simp [C.wf]) rfl (by first | rfl | (fail))) ?_)
        · have hend : i = o.length - (a + 1) := by omega
          have hm1 := lsF_none (hdesc a (by omega)) (show a < o.length by omega)
          rw [← hend] at hm1
          rw [hm1]
          repeat ((conv => whnf); first
              | (refine And.intro (by first | omega | exact Nat.le_of_ble_eq_true rfl | (dsimp only [inK]; omega) | (simp only [mulS_eq]; omega) | (simp only [mulS_eq, setL_length]; omega) | (simp only [setL_length, List.length_map]; omega) | exact ⟨by omega, by omega, by first | exact Nat.le_of_ble_eq_true rfl | (dsimp only; omega) | (simp only [setL_length]; omega) | (simp only [setL_length, List.length_map]; omega)⟩ | exact ⟨by omega, by first | rfl | omega, by omega, Nat.le_of_ble_eq_true rfl, Nat.le_of_ble_eq_true rfl⟩ | exact ⟨rfl, rfl, rfl, Nat.le_of_ble_eq_true rfl, by first | rfl | omega | exact Nat.le_of_ble_eq_true rfl | (dsimp only; omega) | (simp; done) | (simp; omega), by first | rfl | omega | exact Nat.le_of_ble_eq_true rfl | (dsimp only; omega) | (simp; done) | (simp; omega), by omega, Nat.le_of_ble_eq_true rfl⟩ | exact Eq.refl true) ?_)
              | (refine Exists.intro _ (And.intro rfl ?_))
              | (refine And.intro (And.intro rfl (chk_rowI _ _ _ _)) ?_)
              | (refine br_t (by omega) ?_)
              | (refine br_f (by omega) ?_)
              | (refine bs_t (by omega) ?_)
              | (refine bs_f (by omega) ?_)
              | (refine fun (K' : K3) hK' => ?_)
              | (refine hK' _ _ _ ?_; clear hK' K')
              | (refine draw_auto tok mixed (by kernel_rfl) ?_)
              | (refine bs_bt (Eq.refl true) ?_)
              | (refine bs_bf (Eq.refl false) ?_)
              | (refine br_bt (Eq.refl true) ?_)
              | (refine br_bf (Eq.refl false) ?_)
              | (refine CallK.m ?_)
              | (refine And.intro (And.intro rfl rfl) ?_))
          refine ⟨a, [], by omega, by omega, ?_⟩
          refine ⟨?_, ?_, injB_ent (p := [_, _]) (by omega) rfl rfl, rfl, by first | exact Nat.le_of_ble_eq_true rfl | exact Nat.le_refl _ | omega⟩
          · repeat (first | exact trivial | refine And.intro (covS_syn (by first | rfl | (refine congrArg some (congrArg V.i ?_); omega)) rfl (by first | exact trivial | exact Nat.le_of_ble_eq_true rfl | exact hy | exact (fun p hp => nomatch hp) | (show (_ : Nat) < _; omega))) ?_ | refine And.intro (covS_bool rfl rfl (by first | rfl)) ?_)
          · repeat (first | exact trivial | (exact covL_ent (by omega) (fun k hk => by (try simp only [flatN]); (repeat (first | rw [find_skip (by omega)] | rw [find_hi (by omega) (by rfl)])))) | refine And.intro (covE_id (Nat.le_of_ble_eq_true rfl) (by first | exact wf_ints _ _ | exact wf_bools _ _ | first | exact wf_sls _ _ _ (by omega) | exact wf_jobs _ _ | simp [C.wf]) rfl (by first | rfl | (fail))) ?_)
end Go.Proofs.Ytjijjncddjkdlaa

/- Shore: the reference's Next where a next order is. -/
namespace Go.Proofs.Ytjijjncddjkdlaa
open Go.RowKit
set_option linter.unusedVariables false
set_option linter.unusedSimpArgs false
/-- What stays behind the place, before it is put in order. -/
def leftF (o : List Int) (k l : Nat) : List Int := (o.drop k).set (l - k) (o.getD k 0)
def rnextF (o : List Int) (k l : Nat) : List Int := o.take k ++ [o.getD l 0] ++ srtV (leftF o k l) 1 (o.length - k - 1) 6
/-- The cells of the part behind a place, copied. -/
def LC (o : List Int) (a : Nat) : List C := repC 0 [C.i 0] ++ ((((o.map C.i).drop (((a : Nat) : Int).toNat * (0 + 1))).take ((o.length - ((a : Nat) : Int).toNat) * (0 + 1))).take ((o.length - ((a : Nat) : Int).toNat) * 1))
theorem LC_eq {o : List Int} {a : Nat} : LC o a = (o.drop a).map C.i := by
  unfold LC
  rw [show repC 0 [C.i 0] = [] from rfl, List.nil_append]
  simp only [Int.toNat_natCast, Nat.zero_add, Nat.mul_one]
  rw [List.take_of_length_le (l := List.take _ _) (by simp), List.take_of_length_le (by simp), List.map_drop]
theorem LC_len {o : List Int} {a : Nat} : (LC o a).length = o.length - a := by
  rw [LC_eq]; simp
theorem LC_zero {o : List Int} {a : Nat} (h : a < o.length) : (LC o a)[mulS (0 : Int).toNat 1]? = some (C.i (o.getD a 0)) := by
  rw [LC_eq, mulS_eq]
  simp [List.getD_eq_getElem?_getD, h]
theorem LC_le {o : List Int} {a l : Nat} (h1 : a < l) (h2 : l < o.length) : mulS (((l : Nat) : Int) - ((a : Nat) : Int)).toNat 1 + 1 ≤ (LC o a).length := by
  rw [LC_len, mulS_eq]; omega
theorem chk_all {p : Nat → Bool} {lab : Nat} {kd : Kd} {cs : List C} (h : ∃ l : List Int, cs = l.map C.i) : (([⟨lab, kd, cs⟩] : List E).all fun e => e.cs.all (C.chk p)) = true := by
  obtain ⟨l, rfl⟩ := h; exact chk_rowI p l lab kd
theorem HC_eq {o : List Int} {n : Nat} : repC 0 [C.i 0] ++ (o.map C.i).take n = (o.take n).map C.i := by
  rw [show repC 0 [C.i 0] = [] from rfl, List.nil_append, List.map_take]
theorem HC_eq2 {o : List Int} {n : Nat} {z : Int} : (repC 0 [C.i 0] ++ (o.map C.i).take n) ++ [C.i z] = (o.take n ++ [z]).map C.i := by
  rw [HC_eq, List.map_append]; rfl
theorem HC_len {o : List Int} {a : Nat} (h : a ≤ o.length) : (repC 0 [C.i 0] ++ (o.map C.i).take (((a : Nat) : Int).toNat * 1)).length = (0 + ((a : Nat) : Int).toNat) * 1 := by
  rw [HC_eq]; simp; omega
theorem LC_sub {o : List Int} {a n : Nat} {x : List C} : (0 + (o.length - ((a : Nat) : Int).toNat)) * 1 ≤ (setL (LC o a) n x).length := by
  rw [setL_length, LC_len]; omega
theorem HC_len2 {o : List Int} {a : Nat} {z : Int} (h : a ≤ o.length) : ((repC 0 [C.i 0] ++ (o.map C.i).take (((a : Nat) : Int).toNat * 1)) ++ [C.i z]).length = (0 + ((a : Nat) : Int).toNat + 1) * 1 := by
  rw [HC_eq2]; simp; omega
theorem row_le (s : List Int) : s.length * 1 ≤ (s.map C.i).length := by simp
theorem rnext_row {o s : List Int} {a : Nat} {z : Int} : ((repC 0 [C.i 0] ++ (o.map C.i).take (((a : Nat) : Int).toNat * 1)) ++ [C.i z]) ++ (s.map C.i).take (s.length * 1) = (o.take a ++ [z] ++ s).map C.i := by
  rw [HC_eq2, Int.toNat_natCast, Nat.mul_one, Nat.mul_one, List.take_of_length_le (l := s.map C.i) (by simp), ← List.map_append]
theorem LC_set {o : List Int} {a l : Nat} (h : a < l) : setL (LC o a) (mulS (((l : Nat) : Int) - ((a : Nat) : Int)).toNat 1) [C.i (o.getD a 0)] = (leftF o a l).map C.i := by
  rw [LC_eq, mulS_eq, show (((l : Nat) : Int) - ((a : Nat) : Int)).toNat = l - a by omega]
  simp only [setL, leftF, Nat.mul_one, List.map_set]
set_option maxHeartbeats 1000000 in
set_option maxRecDepth 100000 in
theorem rnext_spec (j : Coast) (o : List Int) (k : Nat) (hj : Sized j) (ho : o.length ≤ 200) (hb : ordE j o = 0) (hp : PivAt o k) :
    Spec Try.prog 48 [V.c (.sl 0 j.length), V.c (.sl 21 o.length)] (⟨0, .ro 1, slsC 1 j⟩ :: ⟨21, .ro 1, o.map C.i⟩ :: entC 1 j) 32 (fun v L' _ => intsX (rnextF o k (lsF o k (o.length - (k + 1))).toNat) 0 v L') := by
  have hj20 := hj.len
  have hA := asked_spec j o hj ho
  rw [asked_val] at hA
  have hkl := hp.lt
  have hdesc : ∀ a, k < a → a < o.length → ∀ m, a < m → m < o.length → ¬ o.getD a 0 < o.getD m 0 := by
    intro a h0 ha m h1 h2
    have := piv_desc hp h0 (Nat.le_of_lt h1) h2
    omega
  have hom : (o.map C.i).length = o.length := by simp
  refine Spec.of tok Try.func48 rfl rfl rfl fun n0 cx => vc_ok tok ?_
  repeat ((conv => whnf); first
      | (refine And.intro (by first | omega | exact Nat.le_of_ble_eq_true rfl | (dsimp only [inK]; omega) | (simp only [mulS_eq]; omega) | (simp only [mulS_eq, setL_length]; omega) | (simp only [setL_length, List.length_map]; omega) | exact ⟨by omega, by omega, by first | exact Nat.le_of_ble_eq_true rfl | (dsimp only; omega) | (simp only [setL_length]; omega) | (simp only [setL_length, List.length_map]; omega)⟩ | exact ⟨by omega, by first | rfl | omega, by omega, Nat.le_of_ble_eq_true rfl, Nat.le_of_ble_eq_true rfl⟩ | exact ⟨rfl, rfl, rfl, Nat.le_of_ble_eq_true rfl, by first | rfl | omega | exact Nat.le_of_ble_eq_true rfl | (dsimp only; omega) | (simp; done) | (simp; omega), by first | rfl | omega | exact Nat.le_of_ble_eq_true rfl | (dsimp only; omega) | (simp; done) | (simp; omega), by omega, Nat.le_of_ble_eq_true rfl⟩ | exact Eq.refl true) ?_)
      | (refine Exists.intro _ (And.intro rfl ?_))
      | (refine And.intro (And.intro rfl (chk_rowI _ _ _ _)) ?_)
      | (refine br_t (by omega) ?_)
      | (refine br_f (by omega) ?_)
      | (refine bs_t (by omega) ?_)
      | (refine bs_f (by omega) ?_)
      | (refine fun (K' : K3) hK' => ?_)
      | (refine hK' _ _ _ ?_; clear hK' K')
      | (refine draw_auto tok mixed (by kernel_rfl) ?_)
      | (refine CallK.val (R := [(21, some 21)]) hA (by kernel_rfl) rfl (by simp [V.wf, A.wf, C.wf]) (HasC.roO ⟨rfl, fun k hk => by (repeat (first | rw [find_skip (by omega)] | rw [find_hi (by omega) (by rfl)])); exact entC_find hk⟩ hj rfl) (injO hj) rfl trivial ?_)
      | (refine br_f (show ¬ (ordE j o ≠ 0) by omega) ?_)
      | (refine bs_bt (Eq.refl true) ?_)
      | (refine bs_bf (Eq.refl false) ?_)
      | (refine br_bt (Eq.refl true) ?_)
      | (refine br_bf (Eq.refl false) ?_)
      | (refine CallK.m ?_)
      | (refine And.intro (And.intro rfl rfl) ?_))
  refine Tri.loop (γ := Nat) (fun q => q ≤ o.length ∧ k < q) (fun q => [(1, V.c (.sl 21 o.length)), (7, V.i ((q : Int) - 1))])
    (fun _ => ⟨0, .ro 1, slsC 1 j⟩ :: ⟨21, .ro 1, o.map C.i⟩ :: entC 1 j) 32 (fun q => q) o.length (R0 := []) ?_ ?_ ?_
  · exact ⟨Nat.le_refl _, by omega⟩
  · skip
    refine ⟨?_, ?_, injB_ent (p := [_, _]) (by omega) rfl rfl, rfl, by first | exact Nat.le_of_ble_eq_true rfl | exact Nat.le_refl _ | omega⟩
    · repeat (first | exact trivial | refine And.intro (covS_syn (by first | rfl | (refine congrArg some (congrArg V.i ?_); omega)) rfl (by first | exact trivial | exact Nat.le_of_ble_eq_true rfl | exact hy | exact (fun p hp => nomatch hp) | (show (_ : Nat) < _; omega))) ?_ | refine And.intro (covS_bool rfl rfl (by first | rfl)) ?_)
    · repeat (first | exact trivial | (exact covL_ent (by omega) (fun k hk => by (try simp only [flatN]); (repeat (first | rw [find_skip (by omega)] | rw [find_hi (by omega) (by rfl)])))) | refine And.intro (covE_id (Nat.le_of_ble_eq_true rfl) (by first | exact wf_ints _ _ | exact wf_bools _ _ | first | exact wf_sls _ _ _ (by omega) | exact wf_jobs _ _ | simp [C.wf]) rfl (by first | rfl | (fail))) ?_)
  · rintro q ⟨hq, hkq⟩
    refine vc_ok tok ?_
    obtain ⟨a, rfl⟩ : ∃ a, q = a + 1 := ⟨q - 1, by omega⟩
    repeat ((conv => whnf); first
        | (refine And.intro (by first | omega | exact Nat.le_of_ble_eq_true rfl | (dsimp only [inK]; omega) | (simp only [mulS_eq]; omega) | (simp only [mulS_eq, setL_length]; omega) | (simp only [setL_length, List.length_map]; omega) | exact ⟨by omega, by omega, by first | exact Nat.le_of_ble_eq_true rfl | (dsimp only; omega) | (simp only [setL_length]; omega) | (simp only [setL_length, List.length_map]; omega)⟩ | exact ⟨by omega, by first | rfl | omega, by omega, Nat.le_of_ble_eq_true rfl, Nat.le_of_ble_eq_true rfl⟩ | exact ⟨rfl, rfl, rfl, Nat.le_of_ble_eq_true rfl, by first | rfl | omega | exact Nat.le_of_ble_eq_true rfl | (dsimp only; omega) | (simp; done) | (simp; omega), by first | rfl | omega | exact Nat.le_of_ble_eq_true rfl | (dsimp only; omega) | (simp; done) | (simp; omega), by omega, Nat.le_of_ble_eq_true rfl⟩ | exact Eq.refl true) ?_)
        | (refine Exists.intro _ (And.intro rfl ?_))
        | (refine And.intro (And.intro rfl (chk_rowI _ _ _ _)) ?_)
        | (refine br_t (by omega) ?_)
        | (refine br_f (by omega) ?_)
        | (refine bs_t (by omega) ?_)
        | (refine bs_f (by omega) ?_)
        | (refine fun (K' : K3) hK' => ?_)
        | (refine hK' _ _ _ ?_; clear hK' K')
        | (refine draw_auto tok mixed (by kernel_rfl) ?_)
        | (refine bs_bt (Eq.refl true) ?_)
        | (refine bs_bf (Eq.refl false) ?_)
        | (refine br_bt (Eq.refl true) ?_)
        | (refine br_bf (Eq.refl false) ?_)
        | (refine CallK.m ?_)
        | (refine And.intro (And.intro rfl rfl) ?_))
    refine Tri.loop (γ := Nat) (fun i => a + 1 + i ≤ o.length) (fun i => [(1, V.c (.sl 21 o.length)), (7, V.i (a : Nat)), (8, V.i (lsF o a i)), (9, V.i ((a + 1 + i : Nat) : Int))])
      (fun _ => ⟨0, .ro 1, slsC 1 j⟩ :: ⟨21, .ro 1, o.map C.i⟩ :: entC 1 j) 32 (fun i => o.length - i) 0 (R0 := []) ?_ ?_ ?_
    · omega
    · skip
      refine ⟨?_, ?_, injB_ent (p := [_, _]) (by omega) rfl rfl, rfl, by first | exact Nat.le_of_ble_eq_true rfl | exact Nat.le_refl _ | omega⟩
      · repeat (first | exact trivial | refine And.intro (covS_syn (by first | rfl | (refine congrArg some (congrArg V.i ?_); omega)) rfl (by first | exact trivial | exact Nat.le_of_ble_eq_true rfl | exact hy | exact (fun p hp => nomatch hp) | (show (_ : Nat) < _; omega))) ?_ | refine And.intro (covS_bool rfl rfl (by first | rfl)) ?_)
      · repeat (first | exact trivial | (exact covL_ent (by omega) (fun k hk => by (try simp only [flatN]); (repeat (first | rw [find_skip (by omega)] | rw [find_hi (by omega) (by rfl)])))) | refine And.intro (covE_id (Nat.le_of_ble_eq_true rfl) (by first | exact wf_ints _ _ | exact wf_bools _ _ | first | exact wf_sls _ _ _ (by omega) | exact wf_jobs _ _ | simp [C.wf]) rfl (by first | rfl | (fail))) ?_)
    · intro i hi
      refine vc_ok tok ?_
      by_cases hin : a + 1 + i < o.length
      · by_cases hno : o.getD a 0 < o.getD (a + 1 + i) 0
        · by_cases hz : lsF o a i < 0
          · repeat ((conv => whnf); first
                | (refine And.intro (by first | omega | exact Nat.le_of_ble_eq_true rfl | (dsimp only [inK]; omega) | (simp only [mulS_eq]; omega) | (simp only [mulS_eq, setL_length]; omega) | (simp only [setL_length, List.length_map]; omega) | exact ⟨by omega, by omega, by first | exact Nat.le_of_ble_eq_true rfl | (dsimp only; omega) | (simp only [setL_length]; omega) | (simp only [setL_length, List.length_map]; omega)⟩ | exact ⟨by omega, by first | rfl | omega, by omega, Nat.le_of_ble_eq_true rfl, Nat.le_of_ble_eq_true rfl⟩ | exact ⟨rfl, rfl, rfl, Nat.le_of_ble_eq_true rfl, by first | rfl | omega | exact Nat.le_of_ble_eq_true rfl | (dsimp only; omega) | (simp; done) | (simp; omega), by first | rfl | omega | exact Nat.le_of_ble_eq_true rfl | (dsimp only; omega) | (simp; done) | (simp; omega), by omega, Nat.le_of_ble_eq_true rfl⟩ | exact Eq.refl true) ?_)
                | (with_reducible refine ld (intLz (k := a + 1 + i) rfl hin) ?_)
                | (with_reducible refine ld (intLz (k := a) rfl (by omega)) ?_)
                | (refine Exists.intro _ (And.intro rfl ?_))
                | (refine And.intro (And.intro rfl (chk_rowI _ _ _ _)) ?_)
                | (refine br_t (by omega) ?_)
                | (refine br_f (by omega) ?_)
                | (refine bs_t (by omega) ?_)
                | (refine bs_f (by omega) ?_)
                | (refine fun (K' : K3) hK' => ?_)
                | (refine hK' _ _ _ ?_; clear hK' K')
                | (refine draw_auto tok mixed (by kernel_rfl) ?_)
                | (refine br_t hno ?_)
                | (refine bs_t hno ?_)
                | (refine br_t hz ?_)
                | (refine bs_t hz ?_)
                | (refine bs_bt (Eq.refl true) ?_)
                | (refine bs_bf (Eq.refl false) ?_)
                | (refine br_bt (Eq.refl true) ?_)
                | (refine br_bf (Eq.refl false) ?_)
                | (refine CallK.m ?_)
                | (refine And.intro (And.intro rfl rfl) ?_))
            refine ⟨i + 1, [], by omega, by omega, ?_⟩
            rw [lsF_yes hno (.inl hz)]
            refine ⟨?_, ?_, injB_ent (p := [_, _]) (by omega) rfl rfl, rfl, by first | exact Nat.le_of_ble_eq_true rfl | exact Nat.le_refl _ | omega⟩
            · repeat (first | exact trivial | refine And.intro (covS_syn (by first | rfl | (refine congrArg some (congrArg V.i ?_); omega)) rfl (by first | exact trivial | exact Nat.le_of_ble_eq_true rfl | exact hy | exact (fun p hp => nomatch hp) | (show (_ : Nat) < _; omega))) ?_ | refine And.intro (covS_bool rfl rfl (by first | rfl)) ?_)
            · repeat (first | exact trivial | (exact covL_ent (by omega) (fun k hk => by (try simp only [flatN]); (repeat (first | rw [find_skip (by omega)] | rw [find_hi (by omega) (by rfl)])))) | refine And.intro (covE_id (Nat.le_of_ble_eq_true rfl) (by first | exact wf_ints _ _ | exact wf_bools _ _ | first | exact wf_sls _ _ _ (by omega) | exact wf_jobs _ _ | simp [C.wf]) rfl (by first | rfl | (fail))) ?_)
          · obtain ⟨l, hel, hl1, hl2, _⟩ := (lsF_or o a i).resolve_left fun h => hz (by omega)
            have hyz := lsF_yes (o := o) (k := a) (i := i) hno
            have hnz := lsF_no2 (o := o) (k := a) (i := i) hz
            rw [hel] at hz hyz hnz ⊢
            rw [Int.toNat_natCast] at hyz hnz
            by_cases hlw : o.getD (a + 1 + i) 0 < o.getD l 0
            · repeat ((conv => whnf); first
                  | (refine And.intro (by first | omega | exact Nat.le_of_ble_eq_true rfl | (dsimp only [inK]; omega) | (simp only [mulS_eq]; omega) | (simp only [mulS_eq, setL_length]; omega) | (simp only [setL_length, List.length_map]; omega) | exact ⟨by omega, by omega, by first | exact Nat.le_of_ble_eq_true rfl | (dsimp only; omega) | (simp only [setL_length]; omega) | (simp only [setL_length, List.length_map]; omega)⟩ | exact ⟨by omega, by first | rfl | omega, by omega, Nat.le_of_ble_eq_true rfl, Nat.le_of_ble_eq_true rfl⟩ | exact ⟨rfl, rfl, rfl, Nat.le_of_ble_eq_true rfl, by first | rfl | omega | exact Nat.le_of_ble_eq_true rfl | (dsimp only; omega) | (simp; done) | (simp; omega), by first | rfl | omega | exact Nat.le_of_ble_eq_true rfl | (dsimp only; omega) | (simp; done) | (simp; omega), by omega, Nat.le_of_ble_eq_true rfl⟩ | exact Eq.refl true) ?_)
                  | (with_reducible refine ld (intLz (k := a + 1 + i) rfl hin) ?_)
                  | (with_reducible refine ld (intLz (k := a) rfl (by omega)) ?_)
                  | (with_reducible refine ld (intLz (k := l) rfl (by omega)) ?_)
                  | (refine Exists.intro _ (And.intro rfl ?_))
                  | (refine And.intro (And.intro rfl (chk_rowI _ _ _ _)) ?_)
                  | (refine br_t (by omega) ?_)
                  | (refine br_f (by omega) ?_)
                  | (refine bs_t (by omega) ?_)
                  | (refine bs_f (by omega) ?_)
                  | (refine fun (K' : K3) hK' => ?_)
                  | (refine hK' _ _ _ ?_; clear hK' K')
                  | (refine draw_auto tok mixed (by kernel_rfl) ?_)
                  | (refine br_t hno ?_)
                  | (refine bs_t hno ?_)
                  | (refine br_f hz ?_)
                  | (refine bs_f hz ?_)
                  | (refine br_t hlw ?_)
                  | (refine bs_t hlw ?_)
                  | (refine bs_bt (Eq.refl true) ?_)
                  | (refine bs_bf (Eq.refl false) ?_)
                  | (refine br_bt (Eq.refl true) ?_)
                  | (refine br_bf (Eq.refl false) ?_)
                  | (refine CallK.m ?_)
                  | (refine And.intro (And.intro rfl rfl) ?_))
              refine ⟨i + 1, [], by omega, by omega, ?_⟩
              rw [hyz (.inr hlw)]
              refine ⟨?_, ?_, injB_ent (p := [_, _]) (by omega) rfl rfl, rfl, by first | exact Nat.le_of_ble_eq_true rfl | exact Nat.le_refl _ | omega⟩
              · repeat (first | exact trivial | refine And.intro (covS_syn (by first | rfl | (refine congrArg some (congrArg V.i ?_); omega)) rfl (by first | exact trivial | exact Nat.le_of_ble_eq_true rfl | exact hy | exact (fun p hp => nomatch hp) | (show (_ : Nat) < _; omega))) ?_ | refine And.intro (covS_bool rfl rfl (by first | rfl)) ?_)
              · repeat (first | exact trivial | (exact covL_ent (by omega) (fun k hk => by (try simp only [flatN]); (repeat (first | rw [find_skip (by omega)] | rw [find_hi (by omega) (by rfl)])))) | refine And.intro (covE_id (Nat.le_of_ble_eq_true rfl) (by first | exact wf_ints _ _ | exact wf_bools _ _ | first | exact wf_sls _ _ _ (by omega) | exact wf_jobs _ _ | simp [C.wf]) rfl (by first | rfl | (fail))) ?_)
            · repeat ((conv => whnf); first
                  | (refine And.intro (by first | omega | exact Nat.le_of_ble_eq_true rfl | (dsimp only [inK]; omega) | (simp only [mulS_eq]; omega) | (simp only [mulS_eq, setL_length]; omega) | (simp only [setL_length, List.length_map]; omega) | exact ⟨by omega, by omega, by first | exact Nat.le_of_ble_eq_true rfl | (dsimp only; omega) | (simp only [setL_length]; omega) | (simp only [setL_length, List.length_map]; omega)⟩ | exact ⟨by omega, by first | rfl | omega, by omega, Nat.le_of_ble_eq_true rfl, Nat.le_of_ble_eq_true rfl⟩ | exact ⟨rfl, rfl, rfl, Nat.le_of_ble_eq_true rfl, by first | rfl | omega | exact Nat.le_of_ble_eq_true rfl | (dsimp only; omega) | (simp; done) | (simp; omega), by first | rfl | omega | exact Nat.le_of_ble_eq_true rfl | (dsimp only; omega) | (simp; done) | (simp; omega), by omega, Nat.le_of_ble_eq_true rfl⟩ | exact Eq.refl true) ?_)
                  | (with_reducible refine ld (intLz (k := a + 1 + i) rfl hin) ?_)
                  | (with_reducible refine ld (intLz (k := a) rfl (by omega)) ?_)
                  | (with_reducible refine ld (intLz (k := l) rfl (by omega)) ?_)
                  | (refine Exists.intro _ (And.intro rfl ?_))
                  | (refine And.intro (And.intro rfl (chk_rowI _ _ _ _)) ?_)
                  | (refine br_t (by omega) ?_)
                  | (refine br_f (by omega) ?_)
                  | (refine bs_t (by omega) ?_)
                  | (refine bs_f (by omega) ?_)
                  | (refine fun (K' : K3) hK' => ?_)
                  | (refine hK' _ _ _ ?_; clear hK' K')
                  | (refine draw_auto tok mixed (by kernel_rfl) ?_)
                  | (refine br_t hno ?_)
                  | (refine bs_t hno ?_)
                  | (refine br_f hz ?_)
                  | (refine bs_f hz ?_)
                  | (refine br_f hlw ?_)
                  | (refine bs_f hlw ?_)
                  | (refine bs_bt (Eq.refl true) ?_)
                  | (refine bs_bf (Eq.refl false) ?_)
                  | (refine br_bt (Eq.refl true) ?_)
                  | (refine br_bf (Eq.refl false) ?_)
                  | (refine CallK.m ?_)
                  | (refine And.intro (And.intro rfl rfl) ?_))
              refine ⟨i + 1, [], by omega, by omega, ?_⟩
              rw [hnz hlw]
              refine ⟨?_, ?_, injB_ent (p := [_, _]) (by omega) rfl rfl, rfl, by first | exact Nat.le_of_ble_eq_true rfl | exact Nat.le_refl _ | omega⟩
              · repeat (first | exact trivial | refine And.intro (covS_syn (by first | rfl | (refine congrArg some (congrArg V.i ?_); omega)) rfl (by first | exact trivial | exact Nat.le_of_ble_eq_true rfl | exact hy | exact (fun p hp => nomatch hp) | (show (_ : Nat) < _; omega))) ?_ | refine And.intro (covS_bool rfl rfl (by first | rfl)) ?_)
              · repeat (first | exact trivial | (exact covL_ent (by omega) (fun k hk => by (try simp only [flatN]); (repeat (first | rw [find_skip (by omega)] | rw [find_hi (by omega) (by rfl)])))) | refine And.intro (covE_id (Nat.le_of_ble_eq_true rfl) (by first | exact wf_ints _ _ | exact wf_bools _ _ | first | exact wf_sls _ _ _ (by omega) | exact wf_jobs _ _ | simp [C.wf]) rfl (by first | rfl | (fail))) ?_)
        · repeat ((conv => whnf); first
              | (refine And.intro (by first | omega | exact Nat.le_of_ble_eq_true rfl | (dsimp only [inK]; omega) | (simp only [mulS_eq]; omega) | (simp only [mulS_eq, setL_length]; omega) | (simp only [setL_length, List.length_map]; omega) | exact ⟨by omega, by omega, by first | exact Nat.le_of_ble_eq_true rfl | (dsimp only; omega) | (simp only [setL_length]; omega) | (simp only [setL_length, List.length_map]; omega)⟩ | exact ⟨by omega, by first | rfl | omega, by omega, Nat.le_of_ble_eq_true rfl, Nat.le_of_ble_eq_true rfl⟩ | exact ⟨rfl, rfl, rfl, Nat.le_of_ble_eq_true rfl, by first | rfl | omega | exact Nat.le_of_ble_eq_true rfl | (dsimp only; omega) | (simp; done) | (simp; omega), by first | rfl | omega | exact Nat.le_of_ble_eq_true rfl | (dsimp only; omega) | (simp; done) | (simp; omega), by omega, Nat.le_of_ble_eq_true rfl⟩ | exact Eq.refl true) ?_)
              | (with_reducible refine ld (intLz (k := a + 1 + i) rfl hin) ?_)
              | (with_reducible refine ld (intLz (k := a) rfl (by omega)) ?_)
              | (refine Exists.intro _ (And.intro rfl ?_))
              | (refine And.intro (And.intro rfl (chk_rowI _ _ _ _)) ?_)
              | (refine br_t (by omega) ?_)
              | (refine br_f (by omega) ?_)
              | (refine bs_t (by omega) ?_)
              | (refine bs_f (by omega) ?_)
              | (refine fun (K' : K3) hK' => ?_)
              | (refine hK' _ _ _ ?_; clear hK' K')
              | (refine draw_auto tok mixed (by kernel_rfl) ?_)
              | (refine br_f hno ?_)
              | (refine bs_f hno ?_)
              | (refine bs_bt (Eq.refl true) ?_)
              | (refine bs_bf (Eq.refl false) ?_)
              | (refine br_bt (Eq.refl true) ?_)
              | (refine br_bf (Eq.refl false) ?_)
              | (refine CallK.m ?_)
              | (refine And.intro (And.intro rfl rfl) ?_))
          refine ⟨i + 1, [], by omega, by omega, ?_⟩
          rw [lsF_no1 hno]
          refine ⟨?_, ?_, injB_ent (p := [_, _]) (by omega) rfl rfl, rfl, by first | exact Nat.le_of_ble_eq_true rfl | exact Nat.le_refl _ | omega⟩
          · repeat (first | exact trivial | refine And.intro (covS_syn (by first | rfl | (refine congrArg some (congrArg V.i ?_); omega)) rfl (by first | exact trivial | exact Nat.le_of_ble_eq_true rfl | exact hy | exact (fun p hp => nomatch hp) | (show (_ : Nat) < _; omega))) ?_ | refine And.intro (covS_bool rfl rfl (by first | rfl)) ?_)
          · repeat (first | exact trivial | (exact covL_ent (by omega) (fun k hk => by (try simp only [flatN]); (repeat (first | rw [find_skip (by omega)] | rw [find_hi (by omega) (by rfl)])))) | refine And.intro (covE_id (Nat.le_of_ble_eq_true rfl) (by first | exact wf_ints _ _ | exact wf_bools _ _ | first | exact wf_sls _ _ _ (by omega) | exact wf_jobs _ _ | simp [C.wf]) rfl (by first | rfl | (fail))) ?_)
      · have hend : i = o.length - (a + 1) := by omega
        by_cases hak : a = k
        · subst hak
          obtain ⟨l, hel, hLA⟩ := lsF_piv hp
          rw [hel, Int.toNat_natCast]
          rw [← hend] at hel
          rw [hel]
          have hl1 := hLA.gt
          have hl2 := hLA.lt
          have hS := sorted_spec (leftF o a l) (mulS (1 : Int).toNat 1) (0 + (o.length - ((a : Nat) : Int).toNat) - (1 : Int).toNat) (1 : Int).toNat (by rw [mulS_eq]; simp only [leftF, List.length_set, List.length_drop]; omega) (by omega)
          have hsl := srtV_len (ls := leftF o a l) (o := mulS (1 : Int).toNat 1) (n := 0 + (o.length - ((a : Nat) : Int).toNat) - (1 : Int).toNat) (v := 6)
          have hsrt : srtV (leftF o a l) (mulS (1 : Int).toNat 1) (0 + (o.length - ((a : Nat) : Int).toNat) - (1 : Int).toNat) 6 = srtV (leftF o a l) 1 (o.length - a - 1) 6 := by
            rw [show 0 + (o.length - ((a : Nat) : Int).toNat) - (1 : Int).toNat = o.length - a - 1 by omega, mulS_eq]; rfl
          have hrow := rnext_row (o := o) (a := a) (z := o.getD l 0) (s := srtV (leftF o a l) (mulS (1 : Int).toNat 1) (0 + (o.length - ((a : Nat) : Int).toNat) - (1 : Int).toNat) 6)
          rw [show o.take a ++ [o.getD l 0] ++ srtV (leftF o a l) (mulS (1 : Int).toNat 1) (0 + (o.length - ((a : Nat) : Int).toNat) - (1 : Int).toNat) 6 = rnextF o a l by rw [hsrt]; rfl] at hrow
          have hlen : 0 + ((a : Nat) : Int).toNat + 1 + (srtV (leftF o a l) (mulS (1 : Int).toNat 1) (0 + (o.length - ((a : Nat) : Int).toNat) - (1 : Int).toNat) 6).length = (rnextF o a l).length := by
            rw [hsrt]
            simp only [rnextF, List.length_append, List.length_take, List.length_cons, List.length_nil]
            omega
          repeat ((conv => whnf); first
              | (refine And.intro (by first | omega | exact Nat.le_of_ble_eq_true rfl | (dsimp only [inK]; omega) | (simp only [mulS_eq]; omega) | (simp only [mulS_eq, setL_length]; omega) | (simp only [setL_length, List.length_map]; omega) | exact ⟨by omega, by omega, by first | exact Nat.le_of_ble_eq_true rfl | (dsimp only; omega) | (simp only [setL_length]; omega) | (simp only [setL_length, List.length_map]; omega)⟩ | exact ⟨by omega, by first | rfl | omega, by omega, Nat.le_of_ble_eq_true rfl, Nat.le_of_ble_eq_true rfl⟩ | exact ⟨rfl, rfl, rfl, Nat.le_of_ble_eq_true rfl, by first | rfl | omega | exact Nat.le_of_ble_eq_true rfl | (dsimp only; omega) | (simp; done) | (simp; omega), by first | rfl | omega | exact Nat.le_of_ble_eq_true rfl | (dsimp only; omega) | (simp; done) | (simp; omega), by omega, Nat.le_of_ble_eq_true rfl⟩ | exact Eq.refl true) ?_)
              | (with_reducible refine ld (intLz (k := l) rfl (by omega)) ?_)
              | (refine Exists.intro _ (And.intro rfl ?_))
              | (refine And.intro (And.intro rfl (chk_rowI _ _ _ _)) ?_)
              | (refine br_t (by omega) ?_)
              | (refine br_f (by omega) ?_)
              | (refine bs_t (by omega) ?_)
              | (refine bs_f (by omega) ?_)
              | (refine fun (K' : K3) hK' => ?_)
              | (refine hK' _ _ _ ?_; clear hK' K')
              | (refine draw_kill [35, 36] tok mixed (by decide +kernel) ?_)
              | (refine draw_auto tok mixed (by kernel_rfl) ?_)
              | (with_reducible refine updK_ent (by omega) ?_)
              | (with_reducible refine rmK_ent (by omega) ?_)
              | (with_reducible refine visC_ent rfl (by omega) ?_)
              | (refine relC_ent rfl (by omega) ?_)
              | (refine And.intro ⟨by omega, by omega, Nat.lt_of_lt_of_eq (show 0 < o.length - a by omega) (LC_len (o := o) (a := a)).symm⟩ ?_)
              | (refine (ld (LC_zero (o := o) (a := a) (by omega)) ?_))
              | (refine And.intro (LC_le (o := o) hl1 hl2) ?_)
              | (refine And.intro (And.intro rfl (chk_all ⟨_, HC_eq (o := o)⟩)) ?_)
              | (refine And.intro (And.intro rfl (chk_all ⟨_, HC_eq2 (o := o) (z := o.getD l 0)⟩)) ?_)
              | (refine And.intro ⟨rfl, rfl, rfl, Nat.one_pos, HC_len (o := o) (by omega), Nat.le_refl 1, by omega, Nat.le_of_ble_eq_true rfl⟩ ?_)
              | (refine And.intro ⟨rfl, Nat.one_pos, Int.one_nonneg, by omega, LC_sub (o := o)⟩ ?_)
              | (refine And.intro ⟨rfl, rfl, rfl, Nat.one_pos, HC_len2 (o := o) (z := o.getD l 0) (by omega), row_le _, by omega, Nat.le_of_ble_eq_true rfl⟩ ?_)
              | (refine CallK.ints (R := [(21, some 34)]) hS (by kernel_rfl) rfl (by simp [V.wf, A.wf, C.wf]) ⟨⟨Nat.le_of_ble_eq_true rfl, wf_ints _ _, .vec 3 1, (leftF o a l).map C.i, congrArg (fun m => some (E.mk 34 (.vec 3 1) m)) (LC_set hl1), .inr rfl, ren_ints _ _⟩, trivial⟩ rfl ?_)
              | (refine bs_bt (Eq.refl true) ?_)
              | (refine bs_bf (Eq.refl false) ?_)
              | (refine br_bt (Eq.refl true) ?_)
              | (refine br_bf (Eq.refl false) ?_)
              | (refine CallK.m ?_)
              | (refine And.intro (And.intro rfl rfl) ?_))
          exact .inr ⟨40, congrArg (C.sl 40) hlen, congrArg (fun m => some (E.mk 40 (.vec 3 1) m)) hrow⟩
        · have hm1 := lsF_none (hdesc a (by omega) (by omega)) (show a < o.length by omega)
          rw [← hend] at hm1
          rw [hm1]
          repeat ((conv => whnf); first
              | (refine And.intro (by first | omega | exact Nat.le_of_ble_eq_true rfl | (dsimp only [inK]; omega) | (simp only [mulS_eq]; omega) | (simp only [mulS_eq, setL_length]; omega) | (simp only [setL_length, List.length_map]; omega) | exact ⟨by omega, by omega, by first | exact Nat.le_of_ble_eq_true rfl | (dsimp only; omega) | (simp only [setL_length]; omega) | (simp only [setL_length, List.length_map]; omega)⟩ | exact ⟨by omega, by first | rfl | omega, by omega, Nat.le_of_ble_eq_true rfl, Nat.le_of_ble_eq_true rfl⟩ | exact ⟨rfl, rfl, rfl, Nat.le_of_ble_eq_true rfl, by first | rfl | omega | exact Nat.le_of_ble_eq_true rfl | (dsimp only; omega) | (simp; done) | (simp; omega), by first | rfl | omega | exact Nat.le_of_ble_eq_true rfl | (dsimp only; omega) | (simp; done) | (simp; omega), by omega, Nat.le_of_ble_eq_true rfl⟩ | exact Eq.refl true) ?_)
              | (refine Exists.intro _ (And.intro rfl ?_))
              | (refine And.intro (And.intro rfl (chk_rowI _ _ _ _)) ?_)
              | (refine br_t (by omega) ?_)
              | (refine br_f (by omega) ?_)
              | (refine bs_t (by omega) ?_)
              | (refine bs_f (by omega) ?_)
              | (refine fun (K' : K3) hK' => ?_)
              | (refine hK' _ _ _ ?_; clear hK' K')
              | (refine draw_auto tok mixed (by kernel_rfl) ?_)
              | (refine bs_bt (Eq.refl true) ?_)
              | (refine bs_bf (Eq.refl false) ?_)
              | (refine br_bt (Eq.refl true) ?_)
              | (refine br_bf (Eq.refl false) ?_)
              | (refine CallK.m ?_)
              | (refine And.intro (And.intro rfl rfl) ?_))
          refine ⟨a, [], ⟨by omega, by omega⟩, by omega, ?_⟩
          refine ⟨?_, ?_, injB_ent (p := [_, _]) (by omega) rfl rfl, rfl, by first | exact Nat.le_of_ble_eq_true rfl | exact Nat.le_refl _ | omega⟩
          · repeat (first | exact trivial | refine And.intro (covS_syn (by first | rfl | (refine congrArg some (congrArg V.i ?_); omega)) rfl (by first | exact trivial | exact Nat.le_of_ble_eq_true rfl | exact hy | exact (fun p hp => nomatch hp) | (show (_ : Nat) < _; omega))) ?_ | refine And.intro (covS_bool rfl rfl (by first | rfl)) ?_)
          · repeat (first | exact trivial | (exact covL_ent (by omega) (fun k hk => by (try simp only [flatN]); (repeat (first | rw [find_skip (by omega)] | rw [find_hi (by omega) (by rfl)])))) | refine And.intro (covE_id (Nat.le_of_ble_eq_true rfl) (by first | exact wf_ints _ _ | exact wf_bools _ _ | first | exact wf_sls _ _ _ (by omega) | exact wf_jobs _ _ | simp [C.wf]) rfl (by first | rfl | (fail))) ?_)
end Go.Proofs.Ytjijjncddjkdlaa

/- The order that comes next: both answers are the same. Plain law. -/
namespace Go.Proofs.Ytjijjncddjkdlaa
open Go.RowKit
set_option linter.unusedVariables false
set_option linter.unusedSimpArgs false
theorem cntI_eq {ls : List Int} {o v n : Nat} (h : o + n ≤ ls.length) : cntI ls o v n = List.replicate (((ls.drop o).take n).count (v : Int)) (v : Int) := by
  induction n with
  | zero => simp [cntI]
  | succ n ih =>
    have hd : o + n < ls.length := by omega
    have e : (ls.drop o).take (n + 1) = (ls.drop o).take n ++ [ls.getD (o + n) 0] := by
      rw [take_succ_getD (d := 0) (by simp; omega), getD_drop]
    rw [e, List.count_append]
    simp only [cntI]
    rw [ih (by omega)]
    by_cases hv : ls.getD (o + n) 0 = (v : Int)
    · rw [if_pos hv, hv]
      simp [List.replicate_succ']
    · rw [if_neg hv]
      have : List.count (v : Int) [ls.getD (o + n) 0] = 0 := by
        rw [List.count_eq_zero]
        simp only [List.mem_singleton]
        exact fun e => hv e.symm
      rw [this, List.append_nil, Nat.add_zero]
theorem srtV_eq {ls : List Int} {o n : Nat} (h : o + n ≤ ls.length) : srtV ls o n 6 = sortL ((ls.drop o).take n) := by
  have key : ∀ v, srtV ls o n v = ((List.range v).map fun (m : Nat) => List.replicate (((ls.drop o).take n).count (m : Int)) (m : Int)).flatten := by
    intro v
    induction v with
    | zero => rfl
    | succ v ih =>
      rw [List.range_succ, List.map_append, List.flatten_append, ← ih]
      simp only [srtV, List.map_cons, List.map_nil, List.flatten_cons, List.flatten_nil, List.append_nil]
      rw [cntI_eq h]
  exact key 6
theorem rnextF_eq {o : List Int} {k l : Nat} (h : k < o.length) : rnextF o k l = nextRef o k l := by
  have hl : (leftF o k l).length = o.length - k := by simp [leftF]
  unfold rnextF nextRef
  rw [srtV_eq (by omega)]
  congr 2
  rw [List.take_of_length_le (by rw [List.length_drop, hl]; omega)]
  rfl
/-- Both answer with the same order. -/
theorem rnext_same {o : List Int} {k i : Nat} (hr : ∀ x ∈ o, 0 ≤ x ∧ x < 6) (hp : PivAt o k) (hl : LastAt o k i) : rnextF o k (lsF o k (o.length - (k + 1))).toNat = nextR o k i := by
  obtain ⟨l, e, hL⟩ := lsF_piv hp
  rw [e, Int.toNat_natCast, rnextF_eq (by have := hp.lt; omega)]
  exact next_same hr hp hl hL
end Go.Proofs.Ytjijjncddjkdlaa

/- The law of the leads. -/
namespace Go.Proofs.Ytjijjncddjkdlaa
open Go.RowKit
set_option linter.unusedVariables false
set_option linter.unusedSimpArgs false
section
variable {n0 nx : Nat} {L : List E} {K : V → List E → Nat → Prop} {j : Coast}
theorem long_k (hj : j.length < 9223372036854775808) (hs : find L 0 = some ⟨0, .ro 1, slsC 1 j⟩) (hK : K (V.c (.bool (longB j))) [] nx) : CallK Try.prog n0 14 [V.c (.sl 0 j.length)] L nx K :=
  CallK.val (R := []) (long_any j hj) (by kernel_rfl) rfl (by simp [V.wf, A.wf, C.wf]) ⟨roE_id (Nat.succ_pos _) (wf_sls _ _ _ (by omega)) hs (.inr rfl) rfl, trivial⟩ rfl rfl trivial hK
theorem sane_k (hK : K (V.c (.bool true)) [] nx) : CallK Try.prog n0 15 [] L nx K :=
  CallK.val (R := []) sane_spec (by kernel_rfl) rfl (by simp) trivial rfl rfl trivial hK
end
theorem isTrue_any {f : FuncId} {vs : List V} {L : List E} {na : Nat} {ρ : Env} {w : World} {args : Array Value} (spec : Spec Try.prog f vs L na (Is (V.c (.bool true)))) (hp : Hp w.heap.size ρ w L na) (hv : ∀ v ∈ vs, v.wf na) (ha : (vs.map (V.den ρ)).toArray = args) :
    Calls Try.prog f args w fun e w' => e = .returned (.bool true) ∧ Below w.heap.size w w' := by
  subst ha
  refine (spec ρ w hp hv).mono ?_
  rintro e w' ⟨v, ρ', L', nx', rfl, h1, h2, h3, h4, h5, h6⟩
  exact ⟨by rw [h6 ρ']; rfl, h4⟩
theorem leadV_tup (j : Coast) (b f : Int) : ∃ p q r e, leadV j b f = .tup [.c (.i p), .agg [.i q, .i r], .c (.i e)] := by
  unfold leadV
  split
  · split
    · exact ⟨_, _, _, _, rfl⟩
    · exact ⟨_, _, _, _, rfl⟩
  · exact ⟨_, _, _, _, rfl⟩
theorem leads_long (j : Coast) (b f : Int) (hj : j.length < 9223372036854775808) (hl : longB j = true) :
    Spec Try.prog 3 [V.c (.sl 0 j.length), V.i b, V.i f] [⟨0, .ro 1, slsC 1 j⟩] (j.length + 32) (Is (V.c (.bool true))) := by
  refine Spec.of tok Try.func3 rfl rfl rfl fun n0 cx => vc_ok tok ?_
  repeat ((conv => whnf); first
      | (refine And.intro (by first | omega | exact Nat.le_of_ble_eq_true rfl | (dsimp only [inK]; omega) | (simp only [mulS_eq]; omega) | (simp only [mulS_eq, setL_length]; omega) | (simp only [setL_length, List.length_map]; omega) | exact ⟨by omega, by omega, by first | exact Nat.le_of_ble_eq_true rfl | (dsimp only; omega) | (simp only [setL_length]; omega) | (simp only [setL_length, List.length_map]; omega)⟩ | exact ⟨by omega, by first | rfl | omega, by omega, Nat.le_of_ble_eq_true rfl, Nat.le_of_ble_eq_true rfl⟩ | exact ⟨rfl, rfl, rfl, Nat.le_of_ble_eq_true rfl, by first | rfl | omega | exact Nat.le_of_ble_eq_true rfl | (simp; done) | (simp; omega), by first | rfl | omega | exact Nat.le_of_ble_eq_true rfl | (simp; done) | (simp; omega), by omega, Nat.le_of_ble_eq_true rfl⟩ | exact Eq.refl true) ?_)
      | (refine Exists.intro _ (And.intro rfl ?_))
      | (refine And.intro (And.intro rfl (chk_rowI _ _ _ _)) ?_)
      | (refine br_t (by omega) ?_)
      | (refine br_f (by omega) ?_)
      | (refine bs_t (by omega) ?_)
      | (refine bs_f (by omega) ?_)
      | (refine fun (K' : K3) hK' => ?_)
      | (refine hK' _ _ _ ?_; clear hK' K')
      | (refine draw_auto tok mixed (by kernel_rfl) ?_)
      | (refine long_k hj rfl ?_)
      | (refine br_bt hl ?_)
      | (refine sane_k ?_)
      | (refine CallK.m ?_)
      | (refine And.intro (And.intro rfl rfl) ?_))
  intro ρ; rfl
set_option maxRecDepth 10000 in
theorem leads_spec (j : Coast) (b f : Int) (hj : Sized j) (hl : longB j = false) (hbb : -9223372036854775808 ≤ b ∧ b ≤ 9223372036854775807) (hff : -9223372036854775808 ≤ f ∧ f ≤ 9223372036854775807) :
    Spec Try.prog 3 [V.c (.sl 0 j.length), V.i b, V.i f] (⟨0, .ro 1, slsC 1 j⟩ :: entC 1 j) 32 (Is (V.c (.bool true))) := by
  have hj20 := hj.len
  obtain ⟨p, q, r, e, hV⟩ := leadV_tup j b f
  have h1 := Lead_spec j hj b f hbb hff
  have h2 := rLead_spec j hj b f hbb hff
  rw [hV] at h1 h2
  refine Spec.of tok Try.func3 rfl rfl rfl fun n0 cx => vc_ok tok ?_
  repeat ((conv => whnf); first
      | (refine And.intro (by first | omega | exact Nat.le_of_ble_eq_true rfl | (dsimp only [inK]; omega) | (simp only [mulS_eq]; omega) | (simp only [mulS_eq, setL_length]; omega) | (simp only [setL_length, List.length_map]; omega) | exact ⟨by omega, by omega, by first | exact Nat.le_of_ble_eq_true rfl | (dsimp only; omega) | (simp only [setL_length]; omega) | (simp only [setL_length, List.length_map]; omega)⟩ | exact ⟨by omega, by first | rfl | omega, by omega, Nat.le_of_ble_eq_true rfl, Nat.le_of_ble_eq_true rfl⟩ | exact ⟨rfl, rfl, rfl, Nat.le_of_ble_eq_true rfl, by first | rfl | omega | exact Nat.le_of_ble_eq_true rfl | (simp; done) | (simp; omega), by first | rfl | omega | exact Nat.le_of_ble_eq_true rfl | (simp; done) | (simp; omega), by omega, Nat.le_of_ble_eq_true rfl⟩ | exact Eq.refl true) ?_)
      | (refine Exists.intro _ (And.intro rfl ?_))
      | (refine And.intro (And.intro rfl (chk_rowI _ _ _ _)) ?_)
      | (refine br_t (by omega) ?_)
      | (refine br_f (by omega) ?_)
      | (refine bs_t (by omega) ?_)
      | (refine bs_f (by omega) ?_)
      | (refine fun (K' : K3) hK' => ?_)
      | (refine hK' _ _ _ ?_; clear hK' K')
      | (refine draw_auto tok mixed (by kernel_rfl) ?_)
      | (refine long_k (by omega) rfl ?_)
      | (refine br_bf hl ?_)
      | (refine CallK.val (R := []) h1 (by kernel_rfl) rfl (by simp [V.wf, A.wf, C.wf, V.i]) (HasC.ro ⟨rfl, fun k hk => by (repeat (first | rw [find_skip (by omega)] | rw [find_hi (by omega) (by rfl)])); exact entC_find hk⟩ hj) (injC hj) rfl (by simp [V.wf, A.wf, C.wf]) ?_)
      | (refine CallK.val (R := []) h2 (by kernel_rfl) rfl (by simp [V.wf, A.wf, C.wf, V.i]) (HasC.ro ⟨rfl, fun k hk => by (repeat (first | rw [find_skip (by omega)] | rw [find_hi (by omega) (by rfl)])); exact entC_find hk⟩ hj) (injC hj) rfl (by simp [V.wf, A.wf, C.wf]) ?_)
      | (with_reducible refine updK_ent (by omega) ?_)
      | (refine bs_bt (by simp) ?_)
      | (refine br_bt (by simp) ?_)
      | (refine sane_k ?_)
      | (refine CallK.m ?_)
      | (refine And.intro (And.intro rfl rfl) ?_))
  intro ρ; rfl
theorem leads_any (j : Coast) (b f : Int) (ao : Option Addr) (c : Nat) (bs : Nat → Option Addr × Nat) (w : World) (h : CoastAt w ao c j bs) (hbb : -9223372036854775808 ≤ b ∧ b ≤ 9223372036854775807) (hff : -9223372036854775808 ≤ f ∧ f ≤ 9223372036854775807) :
    Calls Try.prog 3 #[.slice ao j.length c, .int .i64 b, .int .i64 f] w fun e w' => e = .returned (.bool true) ∧ Below w.heap.size w w' := by
  rcases bool_or (longB j) with hl | hl
  · exact isTrue_any (vs := [V.c (.sl 0 j.length), V.i b, V.i f]) (leads_spec j b f (longB_sized hl) hl hbb hff) (hp_coast h (longB_sized hl)) (by simp [V.wf, A.wf, C.wf, V.i]) rfl
  · exact isTrue_any (vs := [V.c (.sl 0 j.length), V.i b, V.i f]) (leads_long j b f h.lt hl) (hp_long h none 0) (by simp [V.wf, A.wf, C.wf, V.i]) rfl
end Go.Proofs.Ytjijjncddjkdlaa

/- The law of an exchange. -/
namespace Go.Proofs.Ytjijjncddjkdlaa
open Go.RowKit
set_option linter.unusedVariables false
set_option linter.unusedSimpArgs false
theorem swapped_long (j : Coast) (o : List Int) (at' : Int) (hj : j.length < 9223372036854775808) (hl : longB j = true ∨ 200 < o.length) :
    Spec Try.prog 6 [V.c (.sl 0 j.length), V.c (.sl (j.length + 31) o.length), V.i at'] [⟨0, .ro 1, slsC 1 j⟩] (j.length + 32) (Is (V.c (.bool true))) := by
  rcases bool_or (longB j) with h | h
  · have ho : (o.length : Int) > 200 := by have := hl.resolve_left (by rw [h]; simp); omega
    refine Spec.of tok Try.func6 rfl rfl rfl fun n0 cx => vc_ok tok ?_
    repeat ((conv => whnf); first
        | (refine And.intro (by first | omega | exact Nat.le_of_ble_eq_true rfl | (dsimp only [inK]; omega) | (simp only [mulS_eq]; omega) | (simp only [mulS_eq, setL_length]; omega) | (simp only [setL_length, List.length_map]; omega) | exact ⟨by omega, by omega, by first | exact Nat.le_of_ble_eq_true rfl | (dsimp only; omega) | (simp only [setL_length]; omega) | (simp only [setL_length, List.length_map]; omega)⟩ | exact ⟨by omega, by first | rfl | omega, by omega, Nat.le_of_ble_eq_true rfl, Nat.le_of_ble_eq_true rfl⟩ | exact ⟨rfl, rfl, rfl, Nat.le_of_ble_eq_true rfl, by first | rfl | omega | exact Nat.le_of_ble_eq_true rfl | (simp; done) | (simp; omega), by first | rfl | omega | exact Nat.le_of_ble_eq_true rfl | (simp; done) | (simp; omega), by omega, Nat.le_of_ble_eq_true rfl⟩ | exact Eq.refl true) ?_)
        | (refine Exists.intro _ (And.intro rfl ?_))
        | (refine And.intro (And.intro rfl (chk_rowI _ _ _ _)) ?_)
        | (refine br_t (by omega) ?_)
        | (refine br_f (by omega) ?_)
        | (refine bs_t (by omega) ?_)
        | (refine bs_f (by omega) ?_)
        | (refine fun (K' : K3) hK' => ?_)
        | (refine hK' _ _ _ ?_; clear hK' K')
        | (refine draw_auto tok mixed (by kernel_rfl) ?_)
        | (refine long_k hj rfl ?_)
        | (refine bs_bf h ?_)
        | (refine br_t ho ?_)
        | (refine sane_k ?_)
        | (refine bs_bt (Eq.refl true) ?_)
        | (refine bs_bf (Eq.refl false) ?_)
        | (refine br_bt (Eq.refl true) ?_)
        | (refine br_bf (Eq.refl false) ?_)
        | (refine CallK.m ?_)
        | (refine And.intro (And.intro rfl rfl) ?_))
    intro ρ; rfl
  · refine Spec.of tok Try.func6 rfl rfl rfl fun n0 cx => vc_ok tok ?_
    repeat ((conv => whnf); first
        | (refine And.intro (by first | omega | exact Nat.le_of_ble_eq_true rfl | (dsimp only [inK]; omega) | (simp only [mulS_eq]; omega) | (simp only [mulS_eq, setL_length]; omega) | (simp only [setL_length, List.length_map]; omega) | exact ⟨by omega, by omega, by first | exact Nat.le_of_ble_eq_true rfl | (dsimp only; omega) | (simp only [setL_length]; omega) | (simp only [setL_length, List.length_map]; omega)⟩ | exact ⟨by omega, by first | rfl | omega, by omega, Nat.le_of_ble_eq_true rfl, Nat.le_of_ble_eq_true rfl⟩ | exact ⟨rfl, rfl, rfl, Nat.le_of_ble_eq_true rfl, by first | rfl | omega | exact Nat.le_of_ble_eq_true rfl | (simp; done) | (simp; omega), by first | rfl | omega | exact Nat.le_of_ble_eq_true rfl | (simp; done) | (simp; omega), by omega, Nat.le_of_ble_eq_true rfl⟩ | exact Eq.refl true) ?_)
        | (refine Exists.intro _ (And.intro rfl ?_))
        | (refine And.intro (And.intro rfl (chk_rowI _ _ _ _)) ?_)
        | (refine br_t (by omega) ?_)
        | (refine br_f (by omega) ?_)
        | (refine bs_t (by omega) ?_)
        | (refine bs_f (by omega) ?_)
        | (refine fun (K' : K3) hK' => ?_)
        | (refine hK' _ _ _ ?_; clear hK' K')
        | (refine draw_auto tok mixed (by kernel_rfl) ?_)
        | (refine long_k hj rfl ?_)
        | (refine bs_bt h ?_)
        | (refine br_bt h ?_)
        | (refine sane_k ?_)
        | (refine bs_bt (Eq.refl true) ?_)
        | (refine bs_bf (Eq.refl false) ?_)
        | (refine br_bt (Eq.refl true) ?_)
        | (refine br_bf (Eq.refl false) ?_)
        | (refine CallK.m ?_)
        | (refine And.intro (And.intro rfl rfl) ?_))
    intro ρ; rfl
theorem find_vis {ks : List Nat} {l : Nat} (h : memN l ks = false) : ∀ {L : List E}, find (visL ks L) l = find L l
  | [] => rfl
  | ⟨lab, kd, cs⟩ :: r => by
    cases hm : memN lab ks with
    | true =>
      simp only [visL, hm, cond_true]
      rw [find_vis h, find_skip (fun e => by rw [e] at hm; rw [h] at hm; cases hm)]
    | false =>
      simp only [visL, hm, cond_false, find]
      rw [find_vis h]
theorem adr_none {ks : List Nat} {s : S} {t : TypeId} {x i : Operand} {l n : Nat} (h : ev s x = some (.a (.c (.sl l n)))) (hm : memN l ks = false) : adrOf ks s (.indexAddr t x i) = none := by
  simp only [adrOf, h, hm, cond_false]
theorem swapE_ok {j : Coast} {o : List Int} {at' : Int} (h : swapE j o at' = 0) : validL j = true ∧ isOrdB j o = true ∧ ∃ k : Nat, at' = k ∧ k + 1 < o.length ∧ o.getD k 0 ≠ o.getD (k + 1) 0 := by
  unfold swapE at h
  split at h
  case isFalse => omega
  next hv =>
    split at h
    case isFalse => omega
    next hi =>
      split at h
      case isFalse => omega
      next hr =>
        split at h
        case isTrue => omega
        next hq => exact ⟨hv, hi, at'.toNat, by omega, by omega, hq⟩
theorem swapE_mk {j : Coast} {o : List Int} {k : Nat} (hv : validL j = true) (hi : isOrdB j o = true) (hk : k + 1 < o.length) : swapE j o k = if o.getD k 0 = o.getD (k + 1) 0 then 5 else 0 := by
  simp only [swapE, hv, hi, if_true]
  rw [if_pos (by omega), Int.toNat_natCast]
theorem swapL_get {o : List Int} {k : Nat} (hk : k + 1 < o.length) : (swapL 0 o k).getD k 0 = o.getD (k + 1) 0 ∧ (swapL 0 o k).getD (k + 1) 0 = o.getD k 0 := by
  obtain ⟨a, x, y, r, h1, h2, h3, h4, h5⟩ := swap_parts (d := 0) hk
  rw [h3, h4, h5]
  subst h2
  simp [List.getD_eq_getElem?_getD]
/-- By how much an exchange makes the harm greater. -/
theorem swap_diff {j : Coast} (hm : manyN j j.length ≤ 100) {o : List Int} {k : Nat} (hi : isOrdB j o = true) (hk : k + 1 < o.length) (hq : o.getD k 0 ≠ o.getD (k + 1) 0) :
    harmO j (swapL 0 o k) o.length - harmO j o o.length = ((j.getD (beachO o k) []).getD (cntO o k (beachO o k)) (0, 0)).2 * ((j.getD (beachO o (k + 1)) []).getD (cntO o k (beachO o (k + 1))) (0, 0)).1 - ((j.getD (beachO o (k + 1)) []).getD (cntO o k (beachO o (k + 1))) (0, 0)).2 * ((j.getD (beachO o k) []).getD (cntO o k (beachO o k)) (0, 0)).1 := by
  obtain ⟨o', rfl, ho⟩ := (isOrd_iff hm).1 hi
  rw [natsC_len] at hk
  have hl : (swapL 0 (natsC o') k).length = (natsC o').length := swapL_len
  have h1 := harm_costS (j := j) (o := swapL 0 o' k)
  have h2 := harm_costS (j := j) (o := o')
  rw [← swap_natsC hk, hl] at h1
  rw [h1, h2, swap_harm hk (fun e => hq (by rw [natsC_get, natsC_get, e]))]
  rw [natsC_beach, natsC_beach, natsC_cnt, natsC_cnt]
/-- An exchange in the best order makes nothing better. -/
theorem swap_best {j : Coast} (hc : CoastOk j) (hm : manyN j j.length ≤ 100) {k : Nat} (hk : k + 1 < (bestO j).length) : 0 ≤ harmO j (swapL 0 (natsC (bestO j)) k) (natsC (bestO j)).length - harmO j (natsC (bestO j)) (natsC (bestO j)).length := by
  have hl : (swapL 0 (natsC (bestO j)) k).length = (natsC (bestO j)).length := swapL_len
  have h1 := harm_costS (j := j) (o := swapL 0 (bestO j) k)
  have h2 := harm_costS (j := j) (o := bestO j)
  rw [← swap_natsC hk, hl] at h1
  rw [h1, h2]
  have := bestO_least hc (swap_ord (bestO_ord hc) hk)
  omega
set_option maxHeartbeats 2000000 in
set_option maxRecDepth 100000 in
theorem swapped_spec (j : Coast) (o : List Int) (at' : Int) (hj : Sized j) (hl : longB j = false) (ho : o.length ≤ 200) (hat : -9223372036854775808 ≤ at' ∧ at' ≤ 9223372036854775807) :
    Spec Try.prog 6 [V.c (.sl 0 j.length), V.c (.sl 21 o.length), V.i at'] (⟨0, .ro 1, slsC 1 j⟩ :: ⟨21, .ro 0, o.map C.i⟩ :: entC 1 j) 32 (Is (V.c (.bool true))) := by
  have hj20 := hj.len
  have hlen := slsC_len (b := 1) (j := j)
  have h200 : ¬ (o.length : Int) > 200 := by omega
  have hS1 := swap_spec j o at' hj ho hat
  by_cases h0 : swapE j o at' = 0
  case neg =>
    have e1 : swapLs j o at' = [] := by unfold swapLs; rw [if_neg h0]
    have e2 : swapNm j o at' = 0 := by unfold swapNm; rw [if_neg h0]
    rw [e1, e2] at hS1
    refine Spec.of tok Try.func6 rfl rfl rfl fun n0 cx => vc_ok tok ?_
    repeat ((conv => whnf); first
        | (refine And.intro (by first | omega | exact Nat.le_of_ble_eq_true rfl | (dsimp only [inK]; omega) | (simp only [mulS_eq]; omega) | (simp only [mulS_eq, setL_length]; omega) | (simp only [setL_length, List.length_map]; omega) | exact ⟨by omega, by omega, by first | exact Nat.le_of_ble_eq_true rfl | (dsimp only; omega) | (simp only [setL_length]; omega) | (simp only [setL_length, List.length_map]; omega)⟩ | exact ⟨by omega, by first | rfl | omega, by omega, Nat.le_of_ble_eq_true rfl, Nat.le_of_ble_eq_true rfl⟩ | exact ⟨rfl, rfl, rfl, Nat.le_of_ble_eq_true rfl, by first | rfl | omega | exact Nat.le_of_ble_eq_true rfl | (simp; done) | (simp; omega), by first | rfl | omega | exact Nat.le_of_ble_eq_true rfl | (simp; done) | (simp; omega), by omega, Nat.le_of_ble_eq_true rfl⟩ | exact Eq.refl true) ?_)
        | (refine Exists.intro _ (And.intro rfl ?_))
        | (refine And.intro (And.intro rfl (chk_rowI _ _ _ _)) ?_)
        | (refine br_t (by omega) ?_)
        | (refine br_f (by omega) ?_)
        | (refine bs_t (by omega) ?_)
        | (refine bs_f (by omega) ?_)
        | (refine fun (K' : K3) hK' => ?_)
        | (refine hK' _ _ _ ?_; clear hK' K')
        | (refine draw_auto tok mixed (by kernel_rfl) ?_)
        | (refine long_k (by omega) rfl ?_)
        | (refine bs_bf hl ?_)
        | (refine br_f h200 ?_)
        | (refine CallK.intsN' (R := []) hS1 (by kernel_rfl) rfl (by simp [V.wf, A.wf, C.wf, V.i]) (HasO.ro ⟨⟨rfl, fun k hk => by (repeat (first | rw [find_skip (by omega)] | rw [find_hi (by omega) (by rfl)])); exact entC_find hk⟩, rfl⟩ hj) (injO hj) ?_)
        | (refine br_t h0 ?_)
        | (refine bs_t (show ((([] : List Int).length : Nat) : Int) = 0 from rfl) ?_)
        | (refine br_t (show ((([] : List Int).length : Nat) : Int) = 0 from rfl) ?_)
        | (refine sane_k ?_)
        | (refine bs_bt (Eq.refl true) ?_)
        | (refine bs_bf (Eq.refl false) ?_)
        | (refine br_bt (Eq.refl true) ?_)
        | (refine br_bf (Eq.refl false) ?_)
        | (refine CallK.m ?_)
        | (refine And.intro (And.intro rfl rfl) ?_))
    intro ρ; rfl
  obtain ⟨hv, hi, k, rfl, hk, hq⟩ := swapE_ok h0
  have hm := validL_many hv
  have hc := validL_coast hj hv
  have hoo := isOrd_ok hi
  have hris : risOrdB j o = true := by rw [ris_eq (by omega)]; exact hi
  have hR := rIsOrderE_spec j o hj ho
  rw [hv, hris] at hR
  simp only [if_true] at hR
  have hi2 := swapI_ord (by omega) hi hk
  have hl2 : (swapL 0 o k).length = o.length := swapL_len
  have hls : swapLs j o k = swapL 0 o k := by unfold swapLs; rw [if_pos h0, Int.toNat_natCast]
  have hnm : swapNm j o k = harmO j (swapL 0 o k) o.length - harmO j o o.length := by unfold swapNm; rw [if_pos h0, Int.toNat_natCast]
  have hE2 : swapE j (swapL 0 o k) k = 0 := by
    obtain ⟨g1, g2⟩ := swapL_get hk
    rw [swapE_mk hv hi2 (by rw [hl2]; exact hk), g1, g2, if_neg (fun e => hq e.symm)]
  have hback : swapL 0 (swapL 0 o k) k = o := swap_swap hk
  have hls2 : swapLs j (swapL 0 o k) k = o := by unfold swapLs; rw [if_pos hE2, Int.toNat_natCast, hback]
  have hnm2 : swapNm j (swapL 0 o k) k = harmO j o o.length - harmO j (swapL 0 o k) o.length := by unfold swapNm; rw [if_pos hE2, Int.toNat_natCast, hback, hl2]
  have hS2 := swap_spec j (swapL 0 o k) k hj (by omega) hat
  rw [hls2, hnm2, hE2, hl2] at hS2
  rw [hls, hnm, h0] at hS1
  have hb1 := harmO_bd hc hoo o.length (Nat.le_refl _)
  have hb2 := harmO_bd hc (isOrd_ok hi2) (swapL 0 o k).length (Nat.le_refl _)
  rw [hl2] at hb2
  have hH1 := harmE_spec j o hj ho
  have hH2 := harmE_spec j (swapL 0 o k) hj (by omega)
  rw [hl2] at hH2
  rw [hv, hi] at hH1
  rw [hv, hi2] at hH2
  simp only [numO, if_true] at hH1 hH2
  have hsame := sameInts_spec o o (by omega) (by omega)
  rw [decide_eq_true rfl] at hsame
  obtain ⟨hz1, hbl1⟩ := hoo.beach k (by omega)
  obtain ⟨hz2, hbl2⟩ := hoo.beach (k + 1) hk
  have hp1 := hoo.place k (by omega)
  have hp2 : cntO o k (beachO o (k + 1)) < (j.getD (beachO o (k + 1)) []).length := by
    have := hoo.place (k + 1) hk
    have e := cntO_succ (o := o) (i := k) (b := beachO o (k + 1)) (by omega)
    rw [← hz2, if_neg hq] at e
    omega
  have hdiff := swap_diff (by omega) hi hk hq
  have hx := (hc.jobs _ hbl1).1 _ hp1
  have hy := (hc.jobs _ hbl2).1 _ hp2
  have hm1 := mul_bd (A := 100) (B := 100) hx.2.2.1 hx.2.2.2 (show 0 ≤ ((j.getD (beachO o (k + 1)) []).getD (cntO o k (beachO o (k + 1))) (0, 0)).1 by omega) hy.2.1
  have hm2 := mul_bd (A := 100) (B := 100) hy.2.2.1 hy.2.2.2 (show 0 ≤ ((j.getD (beachO o k) []).getD (cntO o k (beachO o k)) (0, 0)).1 by omega) hx.2.1
  have hBe := bestE_spec j hj
  rw [hv] at hBe
  simp only [if_true] at hBe
  have hbl := bestO_len hc
  have hbol : (natsC (bestO j)).length = o.length := by
    obtain ⟨o', rfl, h1⟩ := (isOrd_iff (by omega)).1 hi
    rw [natsC_len, natsC_len, hbl, ord_len h1]
  have hbi : isOrdB j (natsC (bestO j)) = true := (isOrd_iff (by omega)).2 ⟨_, rfl, bestO_ord hc⟩
  have hS3 := swap_spec j (natsC (bestO j)) k hj (by omega) hat
  rw [hbol] at hS3
  refine Spec.of tok Try.func6 rfl rfl rfl fun n0 cx => vc_ok tok ?_
  repeat ((conv => whnf); first
      | (refine And.intro (by first | omega | exact Nat.le_of_ble_eq_true rfl | (dsimp only [inK]; omega) | (simp only [mulS_eq]; omega) | (simp only [mulS_eq, setL_length]; omega) | (simp only [setL_length, List.length_map]; omega) | exact ⟨by omega, by omega, by first | exact Nat.le_of_ble_eq_true rfl | (dsimp only; omega) | (simp only [setL_length]; omega) | (simp only [setL_length, List.length_map]; omega)⟩ | exact ⟨by omega, by first | rfl | omega, by omega, Nat.le_of_ble_eq_true rfl, Nat.le_of_ble_eq_true rfl⟩ | exact ⟨rfl, rfl, rfl, Nat.le_of_ble_eq_true rfl, by first | rfl | omega | exact Nat.le_of_ble_eq_true rfl | (simp; done) | (simp; omega), by first | rfl | omega | exact Nat.le_of_ble_eq_true rfl | (simp; done) | (simp; omega), by omega, Nat.le_of_ble_eq_true rfl⟩ | exact Eq.refl true) ?_)
      | (refine Exists.intro _ (And.intro rfl ?_))
      | (refine And.intro (And.intro rfl (chk_rowI _ _ _ _)) ?_)
      | (refine br_t (by omega) ?_)
      | (refine br_f (by omega) ?_)
      | (refine bs_t (by omega) ?_)
      | (refine bs_f (by omega) ?_)
      | (refine fun (K' : K3) hK' => ?_)
      | (refine hK' _ _ _ ?_; clear hK' K')
      | (refine draw_auto tok mixed (by kernel_rfl) ?_)
      | (refine long_k (by omega) rfl ?_)
      | (refine bs_bf hl ?_)
      | (refine br_f h200 ?_)
      | (refine CallK.intsN' (R := []) hS1 (by kernel_rfl) rfl (by simp [V.wf, A.wf, C.wf, V.i]) (HasO.ro ⟨⟨rfl, fun k hk => by (repeat (first | rw [find_skip (by omega)] | rw [find_hi (by omega) (by rfl)])); exact entC_find hk⟩, rfl⟩ hj) (injO hj) ?_)
      | (refine CallK.val (R := []) hR (by kernel_rfl) rfl (by simp [V.wf, A.wf, C.wf, V.i]) (HasO.ro ⟨⟨rfl, fun k hk => by (repeat (first | rw [find_skip (by omega)] | rw [find_hi (by omega) (by rfl)])); exact entC_find hk⟩, rfl⟩ hj) (injO hj) rfl (by simp [V.wf, A.wf, C.wf]) ?_)
      | (rw [hl2])
      | (refine CallK.intsN' (R := [(21, some 32)]) hS2 (by kernel_rfl) rfl (by simp [V.wf, A.wf, C.wf, V.i]) (HasC.roO ⟨rfl, fun k hk => by (repeat (first | rw [find_skip (by omega)] | rw [find_hi (by omega) (by rfl)])); exact entC_find hk⟩ hj rfl) (injO hj) ?_)
      | (refine CallK.val (R := []) hH1 (by kernel_rfl) rfl (by simp [V.wf, A.wf, C.wf]) (HasO.ro ⟨⟨rfl, fun k hk => by (repeat (first | rw [find_skip (by omega)] | rw [find_hi (by omega) (by rfl)])); exact entC_find hk⟩, rfl⟩ hj) (injO hj) rfl (by simp [V.wf, A.wf, C.wf]) ?_)
      | (refine CallK.val (R := [(21, some 32)]) hH2 (by kernel_rfl) rfl (by simp [V.wf, A.wf, C.wf]) (HasC.roO ⟨rfl, fun k hk => by (repeat (first | rw [find_skip (by omega)] | rw [find_hi (by omega) (by rfl)])); exact entC_find hk⟩ hj rfl) (injO hj) rfl (by simp [V.wf, A.wf, C.wf]) ?_)
      | (refine CallK.val (R := [(0, some 33), (1, some 21)]) hsame (by kernel_rfl) rfl (by simp [V.wf, A.wf, C.wf]) ⟨⟨by simp only; omega, wf_ints _ _, _, _, rfl, .inl rfl, ren_ints _ _⟩, ⟨by simp only; omega, wf_ints _ _, _, _, rfl, .inl rfl, ren_ints _ _⟩, trivial⟩ rfl rfl trivial ?_)
      | (refine bs_bt (Eq.refl true) ?_)
      | (refine bs_bf (Eq.refl false) ?_)
      | (refine br_bt (Eq.refl true) ?_)
      | (refine br_bf (Eq.refl false) ?_)
      | (refine CallK.m ?_)
      | (refine And.intro (And.intro rfl rfl) ?_))
  refine Tri.loop (γ := Nat) (fun i => i ≤ k) (fun i => [(0, V.c (.sl 0 j.length)), (1, V.c (.sl 21 o.length)), (2, V.i (k : Nat)), (8, V.i (harmO j (swapL 0 o k) o.length - harmO j o o.length)), (19, V.c (.sl 34 j.length)), (20, V.i (i : Nat))])
    (fun i => ⟨34, .vec 3 1, (nextO j o i).map C.i⟩ :: ⟨0, .ro 1, slsC 1 j⟩ :: ⟨21, .ro 0, o.map C.i⟩ :: entC 1 j) 35 (fun i => k - i) 0 (R0 := []) ?_ ?_ ?_
  · omega
  · skip
    refine ⟨?_, ?_, injB_ent (p := [_, _, _]) (by omega) rfl rfl, rfl, by first | exact Nat.le_of_ble_eq_true rfl | exact Nat.le_refl _ | omega⟩
    · repeat (first | exact trivial | refine And.intro (covS_syn (by first | rfl) rfl (by first | exact trivial | exact Nat.le_of_ble_eq_true rfl | exact hy | exact (fun p hp => nomatch hp) | (show (_ : Nat) < _; omega))) ?_ | refine And.intro (covS_bool rfl rfl (by first | rfl)) ?_)
    · repeat (first | exact trivial | (exact covL_ent (by omega) (fun k hk => by (try simp only [flatN]); (repeat (first | rw [find_skip (by omega)] | rw [find_hi (by omega) (by rfl)])))) | refine And.intro (covE_id (Nat.le_of_ble_eq_true rfl) (by first | exact wf_ints _ _ | exact wf_bools _ _ | first | exact wf_sls _ _ _ (by omega) | exact wf_jobs _ _ | simp [C.wf]) rfl (by first | rfl | (exact nextO_zero))) ?_)
  · intro i hik
    refine vc_ok tok ?_
    have hnm : ((nextO j o i).map C.i).length = j.length := by simp [nextO]
    have hom : (o.map C.i).length = o.length := by simp
    by_cases hlt : i < k
    · obtain ⟨hz, hb⟩ := hoo.beach i (by omega)
      have hcl := cntO_le (o := o) (i := i) (b := beachO o i)
      repeat ((conv => whnf); first
          | (refine And.intro (by first | omega | exact Nat.le_of_ble_eq_true rfl | (dsimp only [inK]; omega) | (simp only [mulS_eq]; omega) | (simp only [mulS_eq, setL_length]; omega) | (simp only [setL_length, List.length_map]; omega) | exact ⟨by omega, by omega, by first | exact Nat.le_of_ble_eq_true rfl | (dsimp only; omega) | (simp only [setL_length]; omega) | (simp only [setL_length, List.length_map]; omega)⟩ | exact ⟨by omega, by first | rfl | omega, by omega, Nat.le_of_ble_eq_true rfl, Nat.le_of_ble_eq_true rfl⟩ | exact ⟨rfl, rfl, rfl, Nat.le_of_ble_eq_true rfl, by first | rfl | omega | exact Nat.le_of_ble_eq_true rfl | (simp; done) | (simp; omega), by first | rfl | omega | exact Nat.le_of_ble_eq_true rfl | (simp; done) | (simp; omega), by omega, Nat.le_of_ble_eq_true rfl⟩ | exact Eq.refl true) ?_)
          | (with_reducible refine ld (intL (show i < o.length by omega)) ?_)
          | (with_reducible refine ld (nextL hz hb) ?_)
          | (refine Exists.intro _ (And.intro rfl ?_))
          | (refine And.intro (And.intro rfl (chk_rowI _ _ _ _)) ?_)
          | (refine br_t (by omega) ?_)
          | (refine br_f (by omega) ?_)
          | (refine bs_t (by omega) ?_)
          | (refine bs_f (by omega) ?_)
          | (refine fun (K' : K3) hK' => ?_)
          | (refine hK' _ _ _ ?_; clear hK' K')
          | (refine draw_auto tok mixed (by kernel_rfl) ?_)
          | (with_reducible refine updK_ent (by omega) ?_)
          | (refine bs_bt (Eq.refl true) ?_)
          | (refine bs_bf (Eq.refl false) ?_)
          | (refine br_bt (Eq.refl true) ?_)
          | (refine br_bf (Eq.refl false) ?_)
          | (refine CallK.m ?_)
          | (refine And.intro (And.intro rfl rfl) ?_))
      refine ⟨i + 1, [], by omega, by omega, ?_⟩
      refine ⟨?_, ?_, injB_ent (p := [_, _, _]) (by omega) rfl rfl, rfl, by first | exact Nat.le_of_ble_eq_true rfl | exact Nat.le_refl _ | omega⟩
      · repeat (first | exact trivial | refine And.intro (covS_syn (by first | rfl | (refine congrArg some (congrArg V.i ?_); omega)) rfl (by first | exact trivial | exact Nat.le_of_ble_eq_true rfl | exact hy | exact (fun p hp => nomatch hp) | (show (_ : Nat) < _; omega))) ?_ | refine And.intro (covS_bool rfl rfl (by first | rfl)) ?_)
      · repeat (first | exact trivial | (exact covL_ent (by omega) (fun k hk => by (try simp only [flatN]); (repeat (first | rw [find_skip (by omega)] | rw [find_hi (by omega) (by rfl)])))) | refine And.intro (covE_id (Nat.le_of_ble_eq_true rfl) (by first | exact wf_ints _ _ | exact wf_bools _ _ | first | exact wf_sls _ _ _ (by omega) | exact wf_jobs _ _ | simp [C.wf]) rfl (by first | rfl | (exact nextS2 (by omega) hz hz rfl))) ?_)
    · obtain rfl : i = k := by omega
      have hj1 := jobC_len (j.getD (beachO o i) [])
      have hj2 := jobC_len (j.getD (beachO o (i + 1)) [])
      repeat ((conv => whnf); first
          | (refine And.intro (by first | omega | exact Nat.le_of_ble_eq_true rfl | (dsimp only [inK]; omega) | (simp only [mulS_eq]; omega) | (simp only [mulS_eq, setL_length]; omega) | (simp only [setL_length, List.length_map]; omega) | exact ⟨by omega, by omega, by first | exact Nat.le_of_ble_eq_true rfl | (dsimp only; omega) | (simp only [setL_length]; omega) | (simp only [setL_length, List.length_map]; omega)⟩ | exact ⟨by omega, by first | rfl | omega, by omega, Nat.le_of_ble_eq_true rfl, Nat.le_of_ble_eq_true rfl⟩ | exact ⟨rfl, rfl, rfl, Nat.le_of_ble_eq_true rfl, by first | rfl | omega | exact Nat.le_of_ble_eq_true rfl | (simp; done) | (simp; omega), by first | rfl | omega | exact Nat.le_of_ble_eq_true rfl | (simp; done) | (simp; omega), by omega, Nat.le_of_ble_eq_true rfl⟩ | exact Eq.refl true) ?_)
          | (with_reducible refine ld (intL (show i < o.length by omega)) ?_)
          | (with_reducible refine ld (ints_get2 rfl hk) ?_)
          | (with_reducible refine ld (slLz hz1 hbl1) ?_)
          | (with_reducible refine ld (slLz hz2 hbl2) ?_)
          | (with_reducible refine ld (nextL hz1 hbl1) ?_)
          | (with_reducible refine ld (nextL hz2 hbl2) ?_)
          | (with_reducible refine ld (jobT rfl hp1) ?_)
          | (with_reducible refine ld (jobT rfl hp2) ?_)
          | (refine Exists.intro _ (And.intro rfl ?_))
          | (refine And.intro (And.intro rfl (chk_rowI _ _ _ _)) ?_)
          | (refine br_t (by omega) ?_)
          | (refine br_f (by omega) ?_)
          | (refine bs_t (by omega) ?_)
          | (refine bs_f (by omega) ?_)
          | (refine fun (K' : K3) hK' => ?_)
          | (refine hK' _ _ _ ?_; clear hK' K')
          | (refine draw_late 37 [35] tok mixed (by decide +kernel) ?_)
          | (refine draw_auto tok mixed (by kernel_rfl) ?_)
          | (refine onV_ld (c := ⟨1 + beachO o i, .ro 2, jobC (j.getD (beachO o i) [])⟩) (by ((try (conv => lhs; arg 1; whnf)); (repeat (first | rw [find_skip (by omega)] | rw [find_hi (by omega) (by rfl)] | rw [find_vis (memN_high rfl (by omega))])); exact entC_find hbl1)) ?_)
          | (refine onV_ld (c := ⟨1 + beachO o (i + 1), .ro 2, jobC (j.getD (beachO o (i + 1)) [])⟩) (by ((try (conv => lhs; arg 1; whnf)); (repeat (first | rw [find_skip (by omega)] | rw [find_hi (by omega) (by rfl)] | rw [find_vis (memN_high rfl (by omega))])); exact entC_find hbl2)) ?_)
          | (rw [adr_none (t := 31) (x := .tmp 145) (i := .tmp 152) rfl (memN_high rfl (by omega))])
          | (rw [adr_none (t := 31) (x := .tmp 162) (i := .tmp 170) rfl (memN_high rfl (by omega))])
          | (with_reducible refine visC_ent rfl (by omega) ?_)
          | (with_reducible refine relC_ent rfl (by omega) ?_)
          | (with_reducible refine updK_ent (by omega) ?_)
          | (with_reducible refine rmK_ent (by omega) ?_)
          | (refine bs_bt (Eq.refl true) ?_)
          | (refine bs_bf (Eq.refl false) ?_)
          | (refine br_bt (Eq.refl true) ?_)
          | (refine br_bf (Eq.refl false) ?_)
          | (refine CallK.m ?_)
          | (refine And.intro (And.intro rfl rfl) ?_))
      have hkb : i + 1 < (natsC (bestO j)).length := by rw [hbol]; exact hk
      have hEb := swapE_mk (o := natsC (bestO j)) (k := i) hv hbi hkb
      by_cases hqb : (natsC (bestO j)).getD i 0 = (natsC (bestO j)).getD (i + 1) 0
      · rw [if_pos hqb] at hEb
        have e1 : swapLs j (natsC (bestO j)) i = [] := by unfold swapLs; rw [if_neg (by omega)]
        have e2 : swapNm j (natsC (bestO j)) i = 0 := by unfold swapNm; rw [if_neg (by omega)]
        rw [e1, e2, hEb] at hS3
        repeat ((conv => whnf); first
            | (refine And.intro (by first | omega | exact Nat.le_of_ble_eq_true rfl | (dsimp only [inK]; omega) | (simp only [mulS_eq]; omega) | (simp only [mulS_eq, setL_length]; omega) | (simp only [setL_length, List.length_map]; omega) | exact ⟨by omega, by omega, by first | exact Nat.le_of_ble_eq_true rfl | (dsimp only; omega) | (simp only [setL_length]; omega) | (simp only [setL_length, List.length_map]; omega)⟩ | exact ⟨by omega, by first | rfl | omega, by omega, Nat.le_of_ble_eq_true rfl, Nat.le_of_ble_eq_true rfl⟩ | exact ⟨rfl, rfl, rfl, Nat.le_of_ble_eq_true rfl, by first | rfl | omega | exact Nat.le_of_ble_eq_true rfl | (simp; done) | (simp; omega), by first | rfl | omega | exact Nat.le_of_ble_eq_true rfl | (simp; done) | (simp; omega), by omega, Nat.le_of_ble_eq_true rfl⟩ | exact Eq.refl true) ?_)
            | (refine Exists.intro _ (And.intro rfl ?_))
            | (refine And.intro (And.intro rfl (chk_rowI _ _ _ _)) ?_)
            | (refine br_t (by omega) ?_)
            | (refine br_f (by omega) ?_)
            | (refine bs_t (by omega) ?_)
            | (refine bs_f (by omega) ?_)
            | (refine fun (K' : K3) hK' => ?_)
            | (refine hK' _ _ _ ?_; clear hK' K')
            | (refine draw_auto tok mixed (by kernel_rfl) ?_)
            | (refine CallK.intsE (R := []) hBe (by kernel_rfl) rfl (by simp [V.wf, A.wf, C.wf]) (HasC.ro ⟨rfl, fun k hk => by (repeat (first | rw [find_skip (by omega)] | rw [find_hi (by omega) (by rfl)])); exact entC_find hk⟩ hj) (injC hj) ?_)
            | (rw [hbol])
            | (refine CallK.intsN' (R := [(21, some 38)]) hS3 (by kernel_rfl) rfl (by simp [V.wf, A.wf, C.wf, V.i]) (HasC.roO ⟨rfl, fun k hk => by (repeat (first | rw [find_skip (by omega)] | rw [find_hi (by omega) (by rfl)])); exact entC_find hk⟩ hj rfl) (injO hj) ?_)
            | (refine sane_k ?_)
            | (refine bs_bt (Eq.refl true) ?_)
            | (refine bs_bf (Eq.refl false) ?_)
            | (refine br_bt (Eq.refl true) ?_)
            | (refine br_bf (Eq.refl false) ?_)
            | (refine CallK.m ?_)
            | (refine And.intro (And.intro rfl rfl) ?_))
        intro ρ; rfl
      · rw [if_neg hqb] at hEb
        have hnb : 0 ≤ swapNm j (natsC (bestO j)) i := by
          unfold swapNm; rw [if_pos hEb, Int.toNat_natCast]
          exact swap_best hc (by omega) (by rw [natsC_len] at hkb; exact hkb)
        rw [hEb] at hS3
        repeat ((conv => whnf); first
            | (refine And.intro (by first | omega | exact Nat.le_of_ble_eq_true rfl | (dsimp only [inK]; omega) | (simp only [mulS_eq]; omega) | (simp only [mulS_eq, setL_length]; omega) | (simp only [setL_length, List.length_map]; omega) | exact ⟨by omega, by omega, by first | exact Nat.le_of_ble_eq_true rfl | (dsimp only; omega) | (simp only [setL_length]; omega) | (simp only [setL_length, List.length_map]; omega)⟩ | exact ⟨by omega, by first | rfl | omega, by omega, Nat.le_of_ble_eq_true rfl, Nat.le_of_ble_eq_true rfl⟩ | exact ⟨rfl, rfl, rfl, Nat.le_of_ble_eq_true rfl, by first | rfl | omega | exact Nat.le_of_ble_eq_true rfl | (simp; done) | (simp; omega), by first | rfl | omega | exact Nat.le_of_ble_eq_true rfl | (simp; done) | (simp; omega), by omega, Nat.le_of_ble_eq_true rfl⟩ | exact Eq.refl true) ?_)
            | (refine Exists.intro _ (And.intro rfl ?_))
            | (refine And.intro (And.intro rfl (chk_rowI _ _ _ _)) ?_)
            | (refine br_t (by omega) ?_)
            | (refine br_f (by omega) ?_)
            | (refine bs_t (by omega) ?_)
            | (refine bs_f (by omega) ?_)
            | (refine fun (K' : K3) hK' => ?_)
            | (refine hK' _ _ _ ?_; clear hK' K')
            | (refine draw_auto tok mixed (by kernel_rfl) ?_)
            | (refine CallK.intsE (R := []) hBe (by kernel_rfl) rfl (by simp [V.wf, A.wf, C.wf]) (HasC.ro ⟨rfl, fun k hk => by (repeat (first | rw [find_skip (by omega)] | rw [find_hi (by omega) (by rfl)])); exact entC_find hk⟩ hj) (injC hj) ?_)
            | (rw [hbol])
            | (refine CallK.intsN' (R := [(21, some 38)]) hS3 (by kernel_rfl) rfl (by simp [V.wf, A.wf, C.wf, V.i]) (HasC.roO ⟨rfl, fun k hk => by (repeat (first | rw [find_skip (by omega)] | rw [find_hi (by omega) (by rfl)])); exact entC_find hk⟩ hj rfl) (injO hj) ?_)
            | (refine sane_k ?_)
            | (refine bs_bt (Eq.refl true) ?_)
            | (refine bs_bf (Eq.refl false) ?_)
            | (refine br_bt (Eq.refl true) ?_)
            | (refine br_bf (Eq.refl false) ?_)
            | (refine CallK.m ?_)
            | (refine And.intro (And.intro rfl rfl) ?_))
        intro ρ; rfl
theorem swapped_any (j : Coast) (o : List Int) (at' : Int) (ao : Option Addr) (c : Nat) (bs : Nat → Option Addr × Nat) (po : Option Addr) (pc : Nat) (w : World) (h : CoastAt w ao c j bs) (ho : RoAt w po (o.map (Value.int .i64))) (hat : -9223372036854775808 ≤ at' ∧ at' ≤ 9223372036854775807) :
    Calls Try.prog 6 #[.slice ao j.length c, .slice po o.length pc, .int .i64 at'] w fun e w' => e = .returned (.bool true) ∧ Below w.heap.size w w' := by
  by_cases hl : longB j = true ∨ 200 < o.length
  · refine isTrue_any (vs := [V.c (.sl 0 j.length), V.c (.sl (j.length + 31) o.length), V.i at']) (swapped_long j o at' h.lt hl) (hp_long h po pc) (by simp [V.wf, A.wf, C.wf, V.i]) ?_
    simp [V.den, A.den, C.den, C.i, V.i, coastE]
  · have h1 : longB j = false := by simpa using fun e => hl (.inl e)
    exact isTrue_any (vs := [V.c (.sl 0 j.length), V.c (.sl 21 o.length), V.i at']) (swapped_spec j o at' (longB_sized h1) h1 (by omega) hat) (hp_order h (longB_sized h1) ho) (by simp [V.wf, A.wf, C.wf, V.i]) rfl
end Go.Proofs.Ytjijjncddjkdlaa

