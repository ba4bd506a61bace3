/- Texts of the proof, part 3: Tab, U1, U2, U3, U5, U6, U7, U8, U9, U10, U11, U12, U13, U4, U14, U15, U16, U17, U18, U19. -/
import Derived.Test.YtjijjncddjkdlaaM2
import Derived.WalkKit
import Derived.Below
import Derived.Laws.OwnMore
import Derived.Maps.AppendAt
import Derived.Laws.IdiomCopy
import Derived.Laws.CopyRow
import Derived.IntWalk
import Derived.StillTail
import Derived.Scope
import Derived.ChangeKeysEq
import Derived.Laws.Small
import Derived.OrdersIn
import Derived.TacticsIn
import Derived.OwnWalkIn
import Derived.RangeFuncNested
import Derived.RangeFuncLeaves
import Derived.RangeFuncRecord
import Derived.Maps.Keyed
import Derived.Maps.RangeRun
import Derived.DeepKeys4
import Derived.Test.YtjijjncddjkdlaaRows
import Derived.KernelRfl
/- The types of the program, as the calculus reads them. -/
namespace Go.Proofs.Ytjijjncddjkdlaa
open Go.RowKit
def tab : List (Nat × TD) := [(3, ⟨1, 8, [.int .i64 0], .int .i64⟩),
  (4, ⟨1, 1, [.ff], .bool⟩),
  (5, ⟨1, 1, [.int .u8 0], .int .u8⟩),
  (22, ⟨1, 24, [.nil], .sl 31⟩),
  (26, ⟨2, 16, [.int .i64 0, .int .i64 0], .str [(0, 3), (1, 3)]⟩),
  (27, ⟨1, 8, [.int .i64 0], .int .i64⟩),
  (31, ⟨1, 24, [.nil], .sl 47⟩),
  (35, ⟨1, 24, [.nil], .sl 3⟩),
  (39, ⟨1, 24, [.nil], .sl 35⟩),
  (47, ⟨2, 16, [.int .i64 0, .int .i64 0], .str [(0, 3), (1, 3)]⟩),
  (57, ⟨1, 24, [.nil], .sl 31⟩),
  (62, ⟨3, 24, [.int .i64 0, .int .i64 0, .int .i64 0], .str [(0, 3), (1, 3), (2, 3)]⟩),
  (65, ⟨3, 24, [.int .i64 0, .int .i64 0, .int .i64 0], .str [(0, 3), (1, 3), (2, 3)]⟩),
  (73, ⟨1, 8, [.v .nilFunc], .one⟩),
  (80, ⟨5, 40, [.int .i64 0, .int .i64 0, .int .i64 0, .int .i64 0, .int .i64 0], .str [(0, 47), (2, 3), (3, 3), (4, 3)]⟩),
  (83, ⟨1, 8, [.v (.map none)], .map 85 3 (.arr 6) (.i 0)⟩),
  (85, ⟨6, 48, [.int .i64 0, .int .i64 0, .int .i64 0, .int .i64 0, .int .i64 0, .int .i64 0], .arr 6 3⟩)]
theorem td3 : TDOK Try.prog 3 ⟨1, 8, [.int .i64 0], .int .i64⟩ := ⟨(Try.prog.info? 3).getD default, .int .i64 0, by kernel_rfl, by kernel_rfl, by kernel_rfl, by kernel_rfl, fun ρ => rfl, rfl, by simp [C.wf, Value.oneCell'], show Try.prog.underlying 3 = some (.int .i64) by kernel_rfl⟩
theorem td4 : TDOK Try.prog 4 ⟨1, 1, [.ff], .bool⟩ := ⟨(Try.prog.info? 4).getD default, .bool false, by kernel_rfl, by kernel_rfl, by kernel_rfl, by kernel_rfl, fun ρ => rfl, rfl, by simp [C.wf, Value.oneCell'], show Try.prog.underlying 4 = some (.bool) by kernel_rfl⟩
theorem td5 : TDOK Try.prog 5 ⟨1, 1, [.int .u8 0], .int .u8⟩ := ⟨(Try.prog.info? 5).getD default, .int .u8 0, by kernel_rfl, by kernel_rfl, by kernel_rfl, by kernel_rfl, fun ρ => rfl, rfl, by simp [C.wf, Value.oneCell'], show Try.prog.underlying 5 = some (.int .u8) by kernel_rfl⟩
theorem td22 : TDOK Try.prog 22 ⟨1, 24, [.nil], .sl 31⟩ := ⟨(Try.prog.info? 22).getD default, .slice none 0 0, by kernel_rfl, by kernel_rfl, by kernel_rfl, by kernel_rfl, fun ρ => rfl, rfl, by simp [C.wf, Value.oneCell'], show Try.prog.underlying 22 = some (.slice 31) by kernel_rfl⟩
theorem td26 : TDOK Try.prog 26 ⟨2, 16, [.int .i64 0, .int .i64 0], .str [(0, 3), (1, 3)]⟩ := ⟨(Try.prog.info? 26).getD default, .agg #[.int .i64 0, .int .i64 0], by kernel_rfl, by kernel_rfl, by kernel_rfl, by kernel_rfl, fun ρ => rfl, rfl, by simp [C.wf, Value.oneCell'], ⟨(match Try.prog.underlying 26 with | some (.struct F) => F | _ => #[]), by kernel_rfl, by kernel_rfl, by kernel_rfl, by kernel_rfl⟩⟩
theorem td27 : TDOK Try.prog 27 ⟨1, 8, [.int .i64 0], .int .i64⟩ := ⟨(Try.prog.info? 27).getD default, .int .i64 0, by kernel_rfl, by kernel_rfl, by kernel_rfl, by kernel_rfl, fun ρ => rfl, rfl, by simp [C.wf, Value.oneCell'], show Try.prog.underlying 27 = some (.int .i64) by kernel_rfl⟩
theorem td31 : TDOK Try.prog 31 ⟨1, 24, [.nil], .sl 47⟩ := ⟨(Try.prog.info? 31).getD default, .slice none 0 0, by kernel_rfl, by kernel_rfl, by kernel_rfl, by kernel_rfl, fun ρ => rfl, rfl, by simp [C.wf, Value.oneCell'], show Try.prog.underlying 31 = some (.slice 47) by kernel_rfl⟩
theorem td35 : TDOK Try.prog 35 ⟨1, 24, [.nil], .sl 3⟩ := ⟨(Try.prog.info? 35).getD default, .slice none 0 0, by kernel_rfl, by kernel_rfl, by kernel_rfl, by kernel_rfl, fun ρ => rfl, rfl, by simp [C.wf, Value.oneCell'], show Try.prog.underlying 35 = some (.slice 3) by kernel_rfl⟩
theorem td39 : TDOK Try.prog 39 ⟨1, 24, [.nil], .sl 35⟩ := ⟨(Try.prog.info? 39).getD default, .slice none 0 0, by kernel_rfl, by kernel_rfl, by kernel_rfl, by kernel_rfl, fun ρ => rfl, rfl, by simp [C.wf, Value.oneCell'], show Try.prog.underlying 39 = some (.slice 35) by kernel_rfl⟩
theorem td47 : TDOK Try.prog 47 ⟨2, 16, [.int .i64 0, .int .i64 0], .str [(0, 3), (1, 3)]⟩ := ⟨(Try.prog.info? 47).getD default, .agg #[.int .i64 0, .int .i64 0], by kernel_rfl, by kernel_rfl, by kernel_rfl, by kernel_rfl, fun ρ => rfl, rfl, by simp [C.wf, Value.oneCell'], ⟨(match Try.prog.underlying 47 with | some (.struct F) => F | _ => #[]), by kernel_rfl, by kernel_rfl, by kernel_rfl, by kernel_rfl⟩⟩
theorem td57 : TDOK Try.prog 57 ⟨1, 24, [.nil], .sl 31⟩ := ⟨(Try.prog.info? 57).getD default, .slice none 0 0, by kernel_rfl, by kernel_rfl, by kernel_rfl, by kernel_rfl, fun ρ => rfl, rfl, by simp [C.wf, Value.oneCell'], show Try.prog.underlying 57 = some (.slice 31) by kernel_rfl⟩
theorem td62 : TDOK Try.prog 62 ⟨3, 24, [.int .i64 0, .int .i64 0, .int .i64 0], .str [(0, 3), (1, 3), (2, 3)]⟩ := ⟨(Try.prog.info? 62).getD default, .agg #[.int .i64 0, .int .i64 0, .int .i64 0], by kernel_rfl, by kernel_rfl, by kernel_rfl, by kernel_rfl, fun ρ => rfl, rfl, by simp [C.wf, Value.oneCell'], ⟨(match Try.prog.underlying 62 with | some (.struct F) => F | _ => #[]), by kernel_rfl, by kernel_rfl, by kernel_rfl, by kernel_rfl⟩⟩
theorem td65 : TDOK Try.prog 65 ⟨3, 24, [.int .i64 0, .int .i64 0, .int .i64 0], .str [(0, 3), (1, 3), (2, 3)]⟩ := ⟨(Try.prog.info? 65).getD default, .agg #[.int .i64 0, .int .i64 0, .int .i64 0], by kernel_rfl, by kernel_rfl, by kernel_rfl, by kernel_rfl, fun ρ => rfl, rfl, by simp [C.wf, Value.oneCell'], ⟨(match Try.prog.underlying 65 with | some (.struct F) => F | _ => #[]), by kernel_rfl, by kernel_rfl, by kernel_rfl, by kernel_rfl⟩⟩
theorem td73 : TDOK Try.prog 73 ⟨1, 8, [.v .nilFunc], .one⟩ := ⟨(Try.prog.info? 73).getD default, .nilFunc, by kernel_rfl, by kernel_rfl, by kernel_rfl, by kernel_rfl, fun ρ => rfl, rfl, by simp [C.wf, Value.oneCell'], ⟨(Try.prog.underlying 73).getD default, by kernel_rfl, by kernel_rfl⟩⟩
theorem td80 : TDOK Try.prog 80 ⟨5, 40, [.int .i64 0, .int .i64 0, .int .i64 0, .int .i64 0, .int .i64 0], .str [(0, 47), (2, 3), (3, 3), (4, 3)]⟩ := ⟨(Try.prog.info? 80).getD default, .agg #[.int .i64 0, .int .i64 0, .int .i64 0, .int .i64 0, .int .i64 0], by kernel_rfl, by kernel_rfl, by kernel_rfl, by kernel_rfl, fun ρ => rfl, rfl, by simp [C.wf, Value.oneCell'], ⟨(match Try.prog.underlying 80 with | some (.struct F) => F | _ => #[]), by kernel_rfl, by kernel_rfl, by kernel_rfl, by kernel_rfl⟩⟩
theorem td83 : TDOK Try.prog 83 ⟨1, 8, [.v (.map none)], .map 85 3 (.arr 6) (.i 0)⟩ := ⟨(Try.prog.info? 83).getD default, .map none, by kernel_rfl, by kernel_rfl, by kernel_rfl, by kernel_rfl, fun ρ => rfl, rfl, by simp [C.wf, Value.oneCell'], ⟨by kernel_rfl, Go.Maps.Keyed.of_law (deep_law_laid (m := 3) (by kernel_rfl) (by omega) (by decide +kernel) (by kernel_rfl) (by kernel_rfl)), keyArr (e := 3) (by kernel_rfl) (by kernel_rfl) (by kernel_rfl) (by kernel_rfl) (by kernel_rfl) (by decide +kernel), (Try.prog.info? 3).getD default, by kernel_rfl, by kernel_rfl⟩⟩
theorem td85 : TDOK Try.prog 85 ⟨6, 48, [.int .i64 0, .int .i64 0, .int .i64 0, .int .i64 0, .int .i64 0, .int .i64 0], .arr 6 3⟩ := ⟨(Try.prog.info? 85).getD default, .agg #[.int .i64 0, .int .i64 0, .int .i64 0, .int .i64 0, .int .i64 0, .int .i64 0], by kernel_rfl, by kernel_rfl, by kernel_rfl, by kernel_rfl, fun ρ => rfl, rfl, by simp [C.wf, Value.oneCell'], show Try.prog.underlying 85 = some (.array 6 3) by kernel_rfl⟩
theorem tok : TOK Try.prog tab := by
  intro p hp
  simp only [tab, List.mem_cons, List.not_mem_nil, or_false] at hp
  rcases hp with rfl | rfl | rfl | rfl | rfl | rfl | rfl | rfl | rfl | rfl | rfl | rfl | rfl | rfl | rfl | rfl | rfl
  · exact td3
  · exact td4
  · exact td5
  · exact td22
  · exact td26
  · exact td27
  · exact td31
  · exact td35
  · exact td39
  · exact td47
  · exact td57
  · exact td62
  · exact td65
  · exact td73
  · exact td80
  · exact td83
  · exact td85
theorem mixed : Try.prog.follows .mixedOrders = true := by kernel_rfl
end Go.Proofs.Ytjijjncddjkdlaa

/- Shore: small functions. -/
namespace Go.Proofs.Ytjijjncddjkdlaa
open Go.RowKit
set_option linter.unusedVariables false
set_option linter.unusedSimpArgs false
theorem between_spec (a b c : Int) : Spec Try.prog 52 [V.i a, V.i b, V.i c] [] 0 (Is (V.c (.bool (decide (a ≤ b ∧ b ≤ c))))) := by
  refine Spec.of tok Try.func52 rfl rfl rfl fun n0 cx => vc_ok tok ?_
  repeat ((conv => whnf); first | (refine And.intro (by first | omega | exact Nat.le_of_ble_eq_true rfl | (dsimp only [inK]; omega) | (simp only [mulS_eq]; omega) | (simp only [mulS_eq, setL_length]; omega) | (simp only [setL_length, List.length_map]; omega) | exact ⟨by omega, by omega, by first | exact Nat.le_of_ble_eq_true rfl | (dsimp only; omega) | (simp only [setL_length]; omega) | (simp only [setL_length, List.length_map]; omega)⟩ | exact ⟨by omega, by first | rfl | omega, by omega, Nat.le_of_ble_eq_true rfl, Nat.le_of_ble_eq_true rfl⟩ | exact ⟨rfl, rfl, rfl, Nat.le_of_ble_eq_true rfl, by first | rfl | omega | exact Nat.le_of_ble_eq_true rfl | (dsimp only; omega) | (simp; done) | (simp; omega), by first | rfl | omega | exact Nat.le_of_ble_eq_true rfl | (dsimp only; omega) | (simp; done) | (simp; omega), by omega, Nat.le_of_ble_eq_true rfl⟩ | exact Eq.refl true) ?_) | (refine Exists.intro _ (And.intro rfl ?_)) | (refine And.intro (And.intro rfl (chk_rowI _ _ _ _)) ?_) | (refine br_t (by omega) ?_) | (refine br_f (by omega) ?_) | (refine bs_t (by omega) ?_) | (refine bs_f (by omega) ?_) | (refine fun (K' : K3) hK' => ?_) | (refine hK' _ _ _ ?_; clear hK' K') | (refine draw_auto tok mixed (by kernel_rfl) ?_) | (refine bs_bt (Eq.refl true) ?_) | (refine bs_bf (Eq.refl false) ?_) | (refine br_bt (Eq.refl true) ?_) | (refine br_bf (Eq.refl false) ?_) | (refine CallK.m ?_) | (refine Two.l ?_) | (refine And.intro (And.intro rfl rfl) ?_))
  refine br_d (fun h => ?_) (fun h => ?_)
  all_goals
    repeat ((conv => whnf); first | (refine And.intro (by first | omega | exact Nat.le_of_ble_eq_true rfl | (dsimp only [inK]; omega) | (simp only [mulS_eq]; omega) | (simp only [mulS_eq, setL_length]; omega) | (simp only [setL_length, List.length_map]; omega) | exact ⟨by omega, by omega, by first | exact Nat.le_of_ble_eq_true rfl | (dsimp only; omega) | (simp only [setL_length]; omega) | (simp only [setL_length, List.length_map]; omega)⟩ | exact ⟨by omega, by first | rfl | omega, by omega, Nat.le_of_ble_eq_true rfl, Nat.le_of_ble_eq_true rfl⟩ | exact ⟨rfl, rfl, rfl, Nat.le_of_ble_eq_true rfl, by first | rfl | omega | exact Nat.le_of_ble_eq_true rfl | (dsimp only; omega) | (simp; done) | (simp; omega), by first | rfl | omega | exact Nat.le_of_ble_eq_true rfl | (dsimp only; omega) | (simp; done) | (simp; omega), by omega, Nat.le_of_ble_eq_true rfl⟩ | exact Eq.refl true) ?_) | (refine Exists.intro _ (And.intro rfl ?_)) | (refine And.intro (And.intro rfl (chk_rowI _ _ _ _)) ?_) | (refine br_t (by omega) ?_) | (refine br_f (by omega) ?_) | (refine bs_t (by omega) ?_) | (refine bs_f (by omega) ?_) | (refine fun (K' : K3) hK' => ?_) | (refine hK' _ _ _ ?_; clear hK' K') | (refine draw_auto tok mixed (by kernel_rfl) ?_) | (refine bs_bt (Eq.refl true) ?_) | (refine bs_bf (Eq.refl false) ?_) | (refine br_bt (Eq.refl true) ?_) | (refine br_bf (Eq.refl false) ?_) | (refine CallK.m ?_) | (refine Two.l ?_) | (refine And.intro (And.intro rfl rfl) ?_))
    intro ρ; show Value.bool _ = Value.bool _; simp [h]
abbrev Job := Int × Int
def jobC (l : List Job) : List C := l.flatMap fun j => [C.i j.1, C.i j.2]
theorem jobC_len (l : List Job) : (jobC l).length = 2 * l.length := by
  induction l with
  | nil => rfl
  | cons x l ih => simp only [jobC, List.flatMap_cons] at *; simp [ih]; omega
theorem jobC_0 : ∀ {l : List Job} {k : Nat}, k < l.length → (jobC l)[k * 2]? = some (C.i (l.getD k (0, 0)).1)
  | x :: l, 0, _ => rfl
  | x :: l, k + 1, h => by
    have := jobC_0 (l := l) (k := k) (by simpa using h)
    simp only [jobC, List.flatMap_cons] at *
    rw [show (k + 1) * 2 = k * 2 + 1 + 1 by omega]
    simpa using this
theorem jobC_1 : ∀ {l : List Job} {k : Nat}, k < l.length → (jobC l)[k * 2 + 1]? = some (C.i (l.getD k (0, 0)).2)
  | x :: l, 0, _ => rfl
  | x :: l, k + 1, h => by
    have := jobC_1 (l := l) (k := k) (by simpa using h)
    simp only [jobC, List.flatMap_cons] at *
    rw [show (k + 1) * 2 + 1 = k * 2 + 1 + 1 + 1 by omega]
    simpa using this
theorem wf_jobs (n : Nat) (l : List Job) : ∀ c ∈ jobC l, c.wf n := by
  intro c hc
  simp only [jobC, List.mem_flatMap] at hc
  obtain ⟨j, _, hc⟩ := hc
  simp at hc
  rcases hc with rfl | rfl <;> trivial
abbrev Pc := Int × Int × Int
/-- The reference's lead: (harm, hours, last) so far, and the best. -/
def runR (l : List Job) (f : Nat) : Nat → Pc × Pc
  | 0 => ((0, 0, (f : Int) - 1), (0, 0, 0))
  | n + 1 =>
    let st := runR l f n
    let j := l.getD (f + n) (0, 0)
    let now : Pc := (st.1.1 + j.2, st.1.2.1 + j.1, (f + n : Nat))
    (now, if f + n = f ∨ now.1 * st.2.2.1 ≥ st.2.1 * now.2.1 then now else st.2)
def JobsOk (l : List Job) : Prop := ∀ k, k < l.length → 1 ≤ (l.getD k (0, 0)).1 ∧ (l.getD k (0, 0)).1 ≤ 100 ∧ 0 ≤ (l.getD k (0, 0)).2 ∧ (l.getD k (0, 0)).2 ≤ 100
theorem mul_bd {a b A B : Int} (h1 : 0 ≤ a) (h2 : a ≤ A) (h3 : 0 ≤ b) (h4 : b ≤ B) : 0 ≤ a * b ∧ a * b ≤ A * B :=
  ⟨Int.mul_nonneg h1 h3, Int.mul_le_mul h2 h4 h3 (by omega)⟩
end Go.Proofs.Ytjijjncddjkdlaa

/- Shore: a coast in memory; many; visits. -/
namespace Go.Proofs.Ytjijjncddjkdlaa
open Go.RowKit
set_option linter.unusedVariables false
set_option linter.unusedSimpArgs false
abbrev Coast := List (List Job)
/-- The beaches, as slices: that of label b first. -/
def slsC (b : Nat) : Coast → List C
  | [] => []
  | x :: r => .sl b x.length :: slsC (b + 1) r
def entC (b : Nat) : Coast → List E
  | [] => []
  | x :: r => ⟨b, .ro 2, jobC x⟩ :: entC (b + 1) r
theorem slsC_len : ∀ {b : Nat} {j : Coast}, (slsC b j).length = j.length
  | _, [] => rfl
  | b, x :: r => by simp [slsC, slsC_len (b := b + 1) (j := r)]
theorem slsC_get : ∀ {b : Nat} {j : Coast} {k : Nat}, k < j.length → (slsC b j)[k]? = some (.sl (b + k) (j.getD k []).length)
  | b, x :: r, 0, _ => rfl
  | b, x :: r, k + 1, h => by
    have := slsC_get (b := b + 1) (j := r) (k := k) (by simpa using h)
    simp only [slsC, List.getElem?_cons_succ, this, List.getD_cons_succ]
    rw [show b + 1 + k = b + (k + 1) by omega]
theorem entC_find : ∀ {b : Nat} {j : Coast} {k : Nat}, k < j.length → find (entC b j) (b + k) = some ⟨b + k, .ro 2, jobC (j.getD k [])⟩
  | b, x :: r, 0, _ => by simp [entC, find]
  | b, x :: r, k + 1, h => by
    have hb : Nat.beq b (b + (k + 1)) = false := by
      cases hb : Nat.beq b (b + (k + 1)) with
      | false => rfl
      | true => have := Nat.eq_of_beq_eq_true hb; omega
    simp only [entC, find, hb, cond_false, List.getD_cons_succ]
    rw [show b + (k + 1) = b + 1 + k by omega]
    exact entC_find (by simpa using h)
theorem find_skip {lab l : Nat} {kd : Kd} {cs : List C} {L : List E} (h : lab ≠ l) : find (⟨lab, kd, cs⟩ :: L) l = find L l := by
  have hb : Nat.beq lab l = false := by
    cases hb : Nat.beq lab l with
    | false => rfl
    | true => exact absurd (Nat.eq_of_beq_eq_true hb) h
  rw [find, hb]
  rfl
theorem find_hi {lab l : Nat} {kd : Kd} {cs : List C} {L : List E} (h : l ≤ 20) (hb : Nat.ble 21 lab = true) : find (⟨lab, kd, cs⟩ :: L) l = find L l :=
  find_skip (by have := Nat.le_of_ble_eq_true hb; omega)
theorem wf_sls : ∀ (n b : Nat) (j : Coast), (b + j.length ≤ n) → ∀ c ∈ slsC b j, c.wf n
  | n, b, x :: r, h, c, hc => by
    simp only [List.length_cons] at h
    rcases List.mem_cons.1 hc with rfl | hc
    · show b < n; omega
    · exact wf_sls n (b + 1) r (by omega) c hc
theorem slL {b : Nat} {j : Coast} {k : Nat} (h : k < j.length) : (slsC b j)[mulS ((k : Nat) : Int).toNat 1]? = some (C.sl (b + k) (j.getD k []).length) := by
  rw [mulS_eq]; simpa using slsC_get h
theorem slLz {b : Nat} {j : Coast} {k : Nat} {z : Int} (hz : z = k) (h : k < j.length) : (slsC b j)[mulS z.toNat 1]? = some (C.sl (b + k) (j.getD k []).length) := by
  subst hz; exact slL h
/-- How many jobs the first k beaches have. -/
def manyN (j : Coast) (k : Nat) : Nat := ((j.take k).map List.length).sum
theorem manyN_succ {j : Coast} {k : Nat} (h : k < j.length) : manyN j (k + 1) = manyN j k + (j.getD k []).length := by
  have h1 : j.take (k + 1) = j.take k ++ [j.getD k []] := by
    rw [List.take_add_one, List.getD_eq_getElem?_getD, List.getElem?_eq_getElem h]; rfl
  unfold manyN
  rw [h1, List.map_append, List.sum_append]
  rfl
theorem many_spec (j : Coast) (hj : j.length ≤ 20) (hl : ∀ k, k < j.length → (j.getD k []).length ≤ 100) : Spec Try.prog 72 [V.c (.sl 0 j.length)] [⟨0, .ro 1, slsC 1 j⟩] 32 (Is (V.i (manyN j j.length))) := by
  have hlen := slsC_len (b := 1) (j := j)
  have hm : ∀ k, k ≤ j.length → manyN j k ≤ 100 * k := by
    intro k hk
    induction k with
    | zero => simp [manyN]
    | succ k ih => rw [manyN_succ (by omega)]; have := hl k (by omega); have := ih (by omega); omega
  refine Spec.of tok Try.func72 rfl rfl rfl fun n0 cx => vc_ok tok ?_
  repeat ((conv => whnf); first | (refine And.intro (by first | omega | exact Nat.le_of_ble_eq_true rfl | (dsimp only [inK]; omega) | (simp only [mulS_eq]; omega) | (simp only [mulS_eq, setL_length]; omega) | (simp only [setL_length, List.length_map]; omega) | exact ⟨by omega, by omega, by first | exact Nat.le_of_ble_eq_true rfl | (dsimp only; omega) | (simp only [setL_length]; omega) | (simp only [setL_length, List.length_map]; omega)⟩ | exact ⟨by omega, by first | rfl | omega, by omega, Nat.le_of_ble_eq_true rfl, Nat.le_of_ble_eq_true rfl⟩ | exact ⟨rfl, rfl, rfl, Nat.le_of_ble_eq_true rfl, by first | rfl | omega | exact Nat.le_of_ble_eq_true rfl | (dsimp only; omega) | (simp; done) | (simp; omega), by first | rfl | omega | exact Nat.le_of_ble_eq_true rfl | (dsimp only; omega) | (simp; done) | (simp; omega), by omega, Nat.le_of_ble_eq_true rfl⟩ | exact Eq.refl true) ?_) | (refine Exists.intro _ (And.intro rfl ?_)) | (refine And.intro (And.intro rfl (chk_rowI _ _ _ _)) ?_) | (refine br_t (by omega) ?_) | (refine br_f (by omega) ?_) | (refine bs_t (by omega) ?_) | (refine bs_f (by omega) ?_) | (refine fun (K' : K3) hK' => ?_) | (refine hK' _ _ _ ?_; clear hK' K') | (refine draw_auto tok mixed (by kernel_rfl) ?_) | (refine bs_bt (Eq.refl true) ?_) | (refine bs_bf (Eq.refl false) ?_) | (refine br_bt (Eq.refl true) ?_) | (refine br_bf (Eq.refl false) ?_) | (refine CallK.m ?_) | (refine Two.l ?_) | (refine And.intro (And.intro rfl rfl) ?_))
  refine Tri.loop (γ := Nat) (fun k => k ≤ j.length) (fun k => [(0, V.c (.sl 0 j.length)), (6, V.c (.sl 0 j.length)), (7, V.i j.length), (8, V.i (k : Nat)), (3, V.i (manyN j k))])
    (fun k => [⟨0, .ro 1, slsC 1 j⟩]) 32 (fun k => j.length - k) 0 (R0 := []) ?_ ?_ ?_
  · omega
  · skip
    refine ⟨?_, ?_, rfl, rfl, by first | exact Nat.le_of_ble_eq_true rfl | exact Nat.le_refl _ | omega⟩
    · repeat (first | exact trivial | refine And.intro (covS_syn (by first | rfl) rfl (by first | exact trivial | exact Nat.le_of_ble_eq_true rfl | exact hy | exact (fun p hp => nomatch hp) | (show (_ : Nat) < _; omega))) ?_ | refine And.intro (covS_bool rfl rfl (by first | rfl)) ?_)
    · repeat (first | exact trivial | refine And.intro (covE_id (Nat.le_of_ble_eq_true rfl) (by first | exact wf_ints _ _ | exact wf_bools _ _ | first | exact wf_sls _ _ _ (by omega) | exact wf_jobs _ _ | simp [C.wf]) rfl (by first | rfl)) ?_)
  · intro k hk
    refine vc_ok tok ?_
    by_cases hlt : k < j.length
    · have h1 := hm k hk
      have h2 := hl k hlt
      have h3 := manyN_succ hlt
      repeat ((conv => whnf); first | (refine And.intro (by first | omega | exact Nat.le_of_ble_eq_true rfl | (dsimp only [inK]; omega) | (simp only [mulS_eq]; omega) | (simp only [mulS_eq, setL_length]; omega) | (simp only [setL_length, List.length_map]; omega) | exact ⟨by omega, by omega, by first | exact Nat.le_of_ble_eq_true rfl | (dsimp only; omega) | (simp only [setL_length]; omega) | (simp only [setL_length, List.length_map]; omega)⟩ | exact ⟨by omega, by first | rfl | omega, by omega, Nat.le_of_ble_eq_true rfl, Nat.le_of_ble_eq_true rfl⟩ | exact ⟨rfl, rfl, rfl, Nat.le_of_ble_eq_true rfl, by first | rfl | omega | exact Nat.le_of_ble_eq_true rfl | (dsimp only; omega) | (simp; done) | (simp; omega), by first | rfl | omega | exact Nat.le_of_ble_eq_true rfl | (dsimp only; omega) | (simp; done) | (simp; omega), by omega, Nat.le_of_ble_eq_true rfl⟩ | exact Eq.refl true) ?_) | (with_reducible refine ld (slL hlt) ?_) | (refine Exists.intro _ (And.intro rfl ?_)) | (refine And.intro (And.intro rfl (chk_rowI _ _ _ _)) ?_) | (refine br_t (by omega) ?_) | (refine br_f (by omega) ?_) | (refine bs_t (by omega) ?_) | (refine bs_f (by omega) ?_) | (refine fun (K' : K3) hK' => ?_) | (refine hK' _ _ _ ?_; clear hK' K') | (refine draw_auto tok mixed (by kernel_rfl) ?_) | (refine bs_bt (Eq.refl true) ?_) | (refine bs_bf (Eq.refl false) ?_) | (refine br_bt (Eq.refl true) ?_) | (refine br_bf (Eq.refl false) ?_) | (refine CallK.m ?_) | (refine Two.l ?_) | (refine And.intro (And.intro rfl rfl) ?_))
      refine ⟨k + 1, [], by omega, by omega, ?_⟩
      refine ⟨?_, ?_, rfl, rfl, by first | exact Nat.le_of_ble_eq_true rfl | exact Nat.le_refl _ | omega⟩
      · repeat (first | exact trivial | refine And.intro (covS_syn (by first | rfl | (refine congrArg some (congrArg V.i ?_); omega)) rfl (by first | exact trivial | exact Nat.le_of_ble_eq_true rfl | exact hy | exact (fun p hp => nomatch hp) | (show (_ : Nat) < _; omega))) ?_ | refine And.intro (covS_bool rfl rfl (by first | rfl)) ?_)
      · repeat (first | exact trivial | refine And.intro (covE_id (Nat.le_of_ble_eq_true rfl) (by first | exact wf_ints _ _ | exact wf_bools _ _ | first | exact wf_sls _ _ _ (by omega) | exact wf_jobs _ _ | simp [C.wf]) rfl (by first | rfl)) ?_)
    · have hk2 : k = j.length := by omega
      subst hk2
      repeat ((conv => whnf); first | (refine And.intro (by first | omega | exact Nat.le_of_ble_eq_true rfl | (dsimp only [inK]; omega) | (simp only [mulS_eq]; omega) | (simp only [mulS_eq, setL_length]; omega) | (simp only [setL_length, List.length_map]; omega) | exact ⟨by omega, by omega, by first | exact Nat.le_of_ble_eq_true rfl | (dsimp only; omega) | (simp only [setL_length]; omega) | (simp only [setL_length, List.length_map]; omega)⟩ | exact ⟨by omega, by first | rfl | omega, by omega, Nat.le_of_ble_eq_true rfl, Nat.le_of_ble_eq_true rfl⟩ | exact ⟨rfl, rfl, rfl, Nat.le_of_ble_eq_true rfl, by first | rfl | omega | exact Nat.le_of_ble_eq_true rfl | (dsimp only; omega) | (simp; done) | (simp; omega), by first | rfl | omega | exact Nat.le_of_ble_eq_true rfl | (dsimp only; omega) | (simp; done) | (simp; omega), by omega, Nat.le_of_ble_eq_true rfl⟩ | exact Eq.refl true) ?_) | (refine Exists.intro _ (And.intro rfl ?_)) | (refine And.intro (And.intro rfl (chk_rowI _ _ _ _)) ?_) | (refine br_t (by omega) ?_) | (refine br_f (by omega) ?_) | (refine bs_t (by omega) ?_) | (refine bs_f (by omega) ?_) | (refine fun (K' : K3) hK' => ?_) | (refine hK' _ _ _ ?_; clear hK' K') | (refine draw_auto tok mixed (by kernel_rfl) ?_) | (refine bs_bt (Eq.refl true) ?_) | (refine bs_bf (Eq.refl false) ?_) | (refine br_bt (Eq.refl true) ?_) | (refine br_bf (Eq.refl false) ?_) | (refine CallK.m ?_) | (refine Two.l ?_) | (refine And.intro (And.intro rfl rfl) ?_))
      intro ρ; rfl
theorem visits_spec (lc n lo m nx : Nat) (L : List E) : SpecM Try.prog 67 [V.c (.sl lc n), V.c (.sl lo m)] L nx (fun v L' nx' => v = V.c (.fn 81 [(nx, 0), (nx + 1, 0)]) ∧ L' = ⟨nx + 1, .own 35, [.sl lo m]⟩ :: ⟨nx, .own 57, [.sl lc n]⟩ :: L ∧ nx' = nx + 1 + 1) := by
  refine SpecM.of tok Try.func67 rfl rfl rfl fun n0 cx => vc_ok tok ?_
  repeat ((conv => whnf); first | (refine And.intro (by first | omega | exact Nat.le_of_ble_eq_true rfl | (dsimp only [inK]; omega) | (simp only [mulS_eq]; omega) | (simp only [mulS_eq, setL_length]; omega) | (simp only [setL_length, List.length_map]; omega) | exact ⟨by omega, by omega, by first | exact Nat.le_of_ble_eq_true rfl | (dsimp only; omega) | (simp only [setL_length]; omega) | (simp only [setL_length, List.length_map]; omega)⟩ | exact ⟨by omega, by first | rfl | omega, by omega, Nat.le_of_ble_eq_true rfl, Nat.le_of_ble_eq_true rfl⟩ | exact ⟨rfl, rfl, rfl, Nat.le_of_ble_eq_true rfl, by first | rfl | omega | exact Nat.le_of_ble_eq_true rfl | (dsimp only; omega) | (simp; done) | (simp; omega), by first | rfl | omega | exact Nat.le_of_ble_eq_true rfl | (dsimp only; omega) | (simp; done) | (simp; omega), by omega, Nat.le_of_ble_eq_true rfl⟩ | exact Eq.refl true) ?_) | (refine Exists.intro _ (And.intro rfl ?_)) | (refine And.intro (And.intro rfl (chk_rowI _ _ _ _)) ?_) | (refine br_t (by omega) ?_) | (refine br_f (by omega) ?_) | (refine bs_t (by omega) ?_) | (refine bs_f (by omega) ?_) | (refine fun (K' : K3) hK' => ?_) | (refine hK' _ _ _ ?_; clear hK' K') | (refine draw_auto tok mixed (by kernel_rfl) ?_) | (refine bs_bt (Eq.refl true) ?_) | (refine bs_bf (Eq.refl false) ?_) | (refine br_bt (Eq.refl true) ?_) | (refine br_bf (Eq.refl false) ?_) | (refine CallK.m ?_) | (refine Two.l ?_) | (refine And.intro (And.intro rfl rfl) ?_))
  exact ⟨rfl, rfl, rfl⟩
end Go.Proofs.Ytjijjncddjkdlaa

/- Shore: the harm of an order. -/
namespace Go.Proofs.Ytjijjncddjkdlaa
open Go.RowKit
set_option linter.unusedVariables false
set_option linter.unusedSimpArgs false
theorem entC_mem : ∀ {b : Nat} {j : Coast} {e : E}, e ∈ entC b j → ∃ k, k < j.length ∧ e = ⟨b + k, .ro 2, jobC (j.getD k [])⟩
  | b, x :: r, e, h => by
    rcases List.mem_cons.1 h with rfl | h
    · exact ⟨0, by simp, rfl⟩
    · obtain ⟨k, h1, rfl⟩ := entC_mem h
      exact ⟨k + 1, by simpa using h1, by rw [List.getD_cons_succ, show b + 1 + k = b + (k + 1) by omega]⟩
theorem covL_app {R : Rn} {nx : Nat} {L : List E} : ∀ {p q : List E}, covL R nx L p → covL R nx L q → covL R nx L (p ++ q)
  | [], q, _, h => h
  | e :: p, q, h1, h => ⟨h1.1, covL_app h1.2 h⟩
theorem covL_all {R : Rn} {nx : Nat} {L : List E} : ∀ {q : List E}, (∀ e ∈ q, covE R nx L e) → covL R nx L q
  | [], _ => trivial
  | e :: q, h => ⟨h e (by simp), covL_all fun x hx => h x (by simp [hx])⟩
theorem covL_ent {nx : Nat} {L : List E} {b : Nat} {j : Coast} (hnx : b + j.length ≤ nx) (hL : ∀ k, k < j.length → find L (b + k) = find (entC b j) (b + k)) : covL [] nx L (entC b j) := by
  refine covL_all fun e he => ?_
  obtain ⟨k, hk, rfl⟩ := entC_mem he
  exact covE_id (by simp only; omega) (wf_jobs _ _) ((hL k hk).trans (entC_find hk)) rfl
theorem injB_entC : ∀ {b : Nat} {j : Coast}, injB [] (entC b j) = true
  | b, [] => rfl
  | b, x :: r => by
    simp only [entC, injB, Bool.and_eq_true]
    refine ⟨List.all_eq_true.2 fun e he => ?_, injB_entC⟩
    obtain ⟨k, hk, rfl⟩ := entC_mem he
    have : Nat.beq (b + 1 + k) b = false := by
      cases hb : Nat.beq (b + 1 + k) b with
      | false => rfl
      | true => have := Nat.eq_of_beq_eq_true hb; omega
    have h2 : Nat.beq b (b + 1 + k) = false := by
      cases hb : Nat.beq b (b + 1 + k) with
      | false => rfl
      | true => have := Nat.eq_of_beq_eq_true hb; omega
    simp [renL, this, h2]
theorem injB_ent {j : Coast} (hj : j.length ≤ 20) : ∀ {p : List E}, (p.all fun e => Nat.beq e.lab 0 || Nat.ble 21 e.lab) = true → injB [] p = true → injB [] (p ++ entC 1 j) = true
  | [], _, _ => injB_entC
  | x :: p, h1, h2 => by
    simp only [List.all_cons, Bool.and_eq_true] at h1
    simp only [injB, Bool.and_eq_true] at h2
    simp only [List.cons_append, injB, Bool.and_eq_true]
    refine ⟨List.all_eq_true.2 fun e he => ?_, injB_ent hj h1.2 h2.2⟩
    rcases List.mem_append.1 he with he | he
    · exact List.all_eq_true.1 h2.1 e he
    · obtain ⟨k, hk, rfl⟩ := entC_mem he
      have hx : x.lab = 0 ∨ 21 ≤ x.lab := by
        have := h1.1
        simp only [Bool.or_eq_true] at this
        exact this.imp Nat.eq_of_beq_eq_true Nat.le_of_ble_eq_true
      have e1 : Nat.beq (1 + k) x.lab = false := by
        cases hb : Nat.beq (1 + k) x.lab with
        | false => rfl
        | true => have := Nat.eq_of_beq_eq_true hb; omega
      have e2 : Nat.beq x.lab (1 + k) = false := by
        cases hb : Nat.beq x.lab (1 + k) with
        | false => rfl
        | true => have := Nat.eq_of_beq_eq_true hb; omega
      simp [renL, e1, e2]
theorem updL_ent {l o : Nat} {vs : List C} : ∀ {b : Nat} {j : Coast}, b + j.length ≤ l → updL (entC b j) l o vs = entC b j
  | b, [], _ => rfl
  | b, x :: r, h => by
    simp only [List.length_cons] at h
    have e1 : Nat.beq b l = false := by
      cases hb : Nat.beq b l with
      | false => rfl
      | true => have := Nat.eq_of_beq_eq_true hb; omega
    simp only [entC, updL, e1, cond_false]
    rw [updL_ent (by omega)]
theorem updK_ent {l o b : Nat} {vs : List C} {j : Coast} {K : List E → Prop} (h : b + j.length ≤ l) (hK : K (entC b j)) : updK l o vs (entC b j) K := by
  rw [updK_eq, updL_ent h]; exact hK
theorem rmL_ent {l : Nat} : ∀ {b : Nat} {j : Coast}, b + j.length ≤ l → rmL (entC b j) l = entC b j
  | b, [], _ => rfl
  | b, x :: r, h => by
    simp only [List.length_cons] at h
    have e1 : Nat.beq b l = false := by
      cases hb : Nat.beq b l with
      | false => rfl
      | true => have := Nat.eq_of_beq_eq_true hb; omega
    simp only [entC, rmL, e1, cond_false]
    rw [rmL_ent (by omega)]
theorem rmK_ent {l b : Nat} {j : Coast} {K : List E → Prop} (h : b + j.length ≤ l) (hK : K (entC b j)) : rmK l (entC b j) K := by
  rw [rmK_eq, rmL_ent h]; exact hK
theorem updOL_ent {l : Nat} {o : Obj} : ∀ {b : Nat} {j : Coast}, b + j.length ≤ l → updOL l o (entC b j) = entC b j
  | b, [], _ => rfl
  | b, x :: r, h => by
    simp only [List.length_cons] at h
    have e1 : Nat.beq b l = false := by
      cases hb : Nat.beq b l with
      | false => rfl
      | true => have := Nat.eq_of_beq_eq_true hb; omega
    simp only [entC, updOL, e1, cond_false]
    rw [updOL_ent (by omega)]
theorem updO_ent {l b : Nat} {o : Obj} {j : Coast} {K : List E → Prop} (h : b + j.length ≤ l) (hK : K (entC b j)) : updO l o (entC b j) K := by
  rw [updO_eq, updOL_ent h]; exact hK
/-- The i-th job of an order: its beach, its place there. -/
def beachO (o : List Int) (i : Nat) : Nat := (o.getD i 0).toNat
def cntO (o : List Int) (i b : Nat) : Nat := (o.take i).count (b : Int)
def jobO (j : Coast) (o : List Int) (i : Nat) : Job := (j.getD (beachO o i) []).getD (cntO o i (beachO o i)) (0, 0)
def hourO (j : Coast) (o : List Int) : Nat → Int
  | 0 => 0
  | i + 1 => hourO j o i + (jobO j o i).1
def harmO (j : Coast) (o : List Int) : Nat → Int
  | 0 => 0
  | i + 1 => harmO j o i + (jobO j o i).2 * hourO j o (i + 1)
def nextO (j : Coast) (o : List Int) (i : Nat) : List Int := (List.range j.length).map fun b => (cntO o i b : Int)
structure OrdOk (j : Coast) (o : List Int) : Prop where
  len : o.length ≤ 100
  beach : ∀ i, i < o.length → o.getD i 0 = (beachO o i : Int) ∧ beachO o i < j.length
  place : ∀ i, i < o.length → cntO o i (beachO o i) < (j.getD (beachO o i) []).length
structure CoastOk (j : Coast) : Prop where
  len : j.length ≤ 20
  jobs : ∀ b, b < j.length → JobsOk (j.getD b []) ∧ (j.getD b []).length ≤ 100
theorem jobO_bd {j : Coast} {o : List Int} (hj : CoastOk j) (ho : OrdOk j o) {i : Nat} (hi : i < o.length) : 1 ≤ (jobO j o i).1 ∧ (jobO j o i).1 ≤ 100 ∧ 0 ≤ (jobO j o i).2 ∧ (jobO j o i).2 ≤ 100 :=
  (hj.jobs _ (ho.beach i hi).2).1 _ (ho.place i hi)
theorem hourO_bd {j : Coast} {o : List Int} (hj : CoastOk j) (ho : OrdOk j o) : ∀ i, i ≤ o.length → 0 ≤ hourO j o i ∧ hourO j o i ≤ 100 * i
  | 0, _ => by simp [hourO]
  | i + 1, h => by
    have h1 := hourO_bd hj ho i (by omega)
    have h2 := jobO_bd hj ho (i := i) (by omega)
    simp only [hourO]; omega
theorem harmO_bd {j : Coast} {o : List Int} (hj : CoastOk j) (ho : OrdOk j o) : ∀ i, i ≤ o.length → 0 ≤ harmO j o i ∧ harmO j o i ≤ 1000000 * i
  | 0, _ => by simp [harmO]
  | i + 1, h => by
    have h1 := harmO_bd hj ho i (by omega)
    have h2 := jobO_bd hj ho (i := i) (by omega)
    have h3 := hourO_bd hj ho (i + 1) h
    have h4 := ho.len
    have h5 := mul_bd (A := 100) (B := 10000) h2.2.2.1 h2.2.2.2 h3.1 (by omega)
    simp only [harmO]; omega
theorem nextO_get {j : Coast} {o : List Int} {i b : Nat} (hb : b < j.length) : (nextO j o i).getD b 0 = cntO o i b := by
  simp [nextO, List.getD_eq_getElem?_getD, hb]
theorem nextO_len {j : Coast} {o : List Int} {i : Nat} : (nextO j o i).length = j.length := by simp [nextO]
theorem cntO_succ {o : List Int} {i b : Nat} (hi : i < o.length) : cntO o (i + 1) b = cntO o i b + if o.getD i 0 = (b : Int) then 1 else 0 := by
  have h1 : o.take (i + 1) = o.take i ++ [o.getD i 0] := by
    rw [List.take_add_one, List.getD_eq_getElem?_getD, List.getElem?_eq_getElem hi]; rfl
  unfold cntO
  rw [h1, List.count_append]
  congr 1
  by_cases h : o.getD i 0 = (b : Int)
  · rw [h]; simp
  · rw [if_neg h, List.count_singleton, if_neg (by simpa using h)]
theorem nextO_set {j : Coast} {o : List Int} {i : Nat} (ho : OrdOk j o) (hi : i < o.length) : (nextO j o i).set (beachO o i) ((cntO o i (beachO o i) : Int) + 1) = nextO j o (i + 1) := by
  obtain ⟨h1, h2⟩ := ho.beach i hi
  apply List.ext_getElem (by simp [nextO])
  intro b hb hb'
  simp only [nextO, List.length_map, List.length_range] at hb'
  have h3 := cntO_succ (o := o) (b := b) hi
  rw [List.getElem_set]
  by_cases h : beachO o i = b
  · subst h
    rw [if_pos h1] at h3
    simp [nextO, h3]
  · rw [if_neg (by rw [h1]; omega)] at h3
    simp [nextO, h, h3]
theorem nextO_zero {j : Coast} {o : List Int} : repC j.length [C.i 0] = (nextO j o 0).map C.i := by
  have h : nextO j o 0 = List.replicate j.length 0 := by
    apply List.ext_getElem (by simp [nextO])
    intro b hb hb'
    simp [nextO, cntO]
  rw [h, List.map_replicate]
  generalize j.length = n
  induction n with
  | zero => rfl
  | succ n ih => rw [List.replicate_succ, ← ih]; rfl
theorem nextL {j : Coast} {o : List Int} {i b : Nat} {z : Int} (hz : z = b) (hb : b < j.length) : ((nextO j o i).map C.i)[mulS z.toNat 1]? = some (C.i (cntO o i b)) := by
  rw [intLz hz (by rw [nextO_len]; exact hb), nextO_get hb]
theorem jobT {l : List Job} {k : Nat} {z : Int} (hz : z = k) (h : k < l.length) : takeC (jobC l) (mulS z.toNat 2) 2 = some [C.i (l.getD k (0, 0)).1, C.i (l.getD k (0, 0)).2] := by
  subst hz
  rw [mulS_eq]
  have h0 := jobC_0 h
  have h1 := jobC_1 h
  simp only [takeC, Int.toNat_natCast]
  rw [h0, h1]
theorem onV_ld {α : Type} {o : Option α} {c : α} {K : α → Prop} (h : o = some c) (hK : K c) : onV o K := by rw [h]; exact hK
theorem nextS {j : Coast} {o : List Int} {i : Nat} {z v : Int} (ho : OrdOk j o) (hi : i < o.length) (hz : z = beachO o i) (hv : v = cntO o i (beachO o i) + 1) : setL ((nextO j o i).map C.i) (mulS z.toNat 1) [C.i v] = (nextO j o (i + 1)).map C.i := by
  subst hz hv
  rw [mulS_eq, ← nextO_set ho hi]
  simp only [setL, Int.toNat_natCast, Nat.mul_one, List.map_set]
end Go.Proofs.Ytjijjncddjkdlaa

/- Shore: which jobs are valid. -/
namespace Go.Proofs.Ytjijjncddjkdlaa
open Go.RowKit
set_option linter.unusedVariables false
set_option linter.unusedSimpArgs false
def jobBad (x : Job) : Bool := !decide (1 ≤ x.1 ∧ x.1 ≤ 100) || !decide (0 ≤ x.2 ∧ x.2 ≤ 100)
theorem bad_spec (x : Job) : Spec Try.prog 62 [V.agg [C.i x.1, C.i x.2]] [] 0 (Is (V.c (.bool (jobBad x)))) := by
  refine Spec.of tok Try.func62 rfl rfl rfl fun n0 cx => vc_ok tok ?_
  by_cases h1 : 1 ≤ x.1 ∧ x.1 ≤ 100
  · repeat ((conv => whnf); first | (refine And.intro (by first | omega | exact Nat.le_of_ble_eq_true rfl | (dsimp only [inK]; omega) | (simp only [mulS_eq]; omega) | (simp only [mulS_eq, setL_length]; omega) | (simp only [setL_length, List.length_map]; omega) | exact ⟨by omega, by omega, by first | exact Nat.le_of_ble_eq_true rfl | (dsimp only; omega) | (simp only [setL_length]; omega) | (simp only [setL_length, List.length_map]; omega)⟩ | exact ⟨by omega, by first | rfl | omega, by omega, Nat.le_of_ble_eq_true rfl, Nat.le_of_ble_eq_true rfl⟩ | exact ⟨rfl, rfl, rfl, Nat.le_of_ble_eq_true rfl, by first | rfl | omega | exact Nat.le_of_ble_eq_true rfl | (dsimp only; omega) | (simp; done) | (simp; omega), by first | rfl | omega | exact Nat.le_of_ble_eq_true rfl | (dsimp only; omega) | (simp; done) | (simp; omega), by omega, Nat.le_of_ble_eq_true rfl⟩ | exact Eq.refl true) ?_) | (refine Exists.intro _ (And.intro rfl ?_)) | (refine And.intro (And.intro rfl (chk_rowI _ _ _ _)) ?_) | (refine br_t (by omega) ?_) | (refine br_f (by omega) ?_) | (refine bs_t (by omega) ?_) | (refine bs_f (by omega) ?_) | (refine fun (K' : K3) hK' => ?_) | (refine hK' _ _ _ ?_; clear hK' K') | (refine draw_auto tok mixed (by kernel_rfl) ?_) | (refine CallK.val (R := []) (between_spec _ _ _) (by kernel_rfl) rfl (by simp [V.wf, A.wf, C.wf, V.i]) trivial rfl rfl trivial ?_) | (refine bs_bf (by simp [h1]) ?_) | (refine bs_bt (Eq.refl true) ?_) | (refine bs_bf (Eq.refl false) ?_) | (refine br_bt (Eq.refl true) ?_) | (refine br_bf (Eq.refl false) ?_) | (refine CallK.m ?_) | (refine Two.l ?_) | (refine And.intro (And.intro rfl rfl) ?_))
    intro ρ; show Value.bool _ = Value.bool _; simp [jobBad, h1]
  · repeat ((conv => whnf); first | (refine And.intro (by first | omega | exact Nat.le_of_ble_eq_true rfl | (dsimp only [inK]; omega) | (simp only [mulS_eq]; omega) | (simp only [mulS_eq, setL_length]; omega) | (simp only [setL_length, List.length_map]; omega) | exact ⟨by omega, by omega, by first | exact Nat.le_of_ble_eq_true rfl | (dsimp only; omega) | (simp only [setL_length]; omega) | (simp only [setL_length, List.length_map]; omega)⟩ | exact ⟨by omega, by first | rfl | omega, by omega, Nat.le_of_ble_eq_true rfl, Nat.le_of_ble_eq_true rfl⟩ | exact ⟨rfl, rfl, rfl, Nat.le_of_ble_eq_true rfl, by first | rfl | omega | exact Nat.le_of_ble_eq_true rfl | (dsimp only; omega) | (simp; done) | (simp; omega), by first | rfl | omega | exact Nat.le_of_ble_eq_true rfl | (dsimp only; omega) | (simp; done) | (simp; omega), by omega, Nat.le_of_ble_eq_true rfl⟩ | exact Eq.refl true) ?_) | (refine Exists.intro _ (And.intro rfl ?_)) | (refine And.intro (And.intro rfl (chk_rowI _ _ _ _)) ?_) | (refine br_t (by omega) ?_) | (refine br_f (by omega) ?_) | (refine bs_t (by omega) ?_) | (refine bs_f (by omega) ?_) | (refine fun (K' : K3) hK' => ?_) | (refine hK' _ _ _ ?_; clear hK' K') | (refine draw_auto tok mixed (by kernel_rfl) ?_) | (refine CallK.val (R := []) (between_spec _ _ _) (by kernel_rfl) rfl (by simp [V.wf, A.wf, C.wf, V.i]) trivial rfl rfl trivial ?_) | (refine bs_bt (by simp [h1]) ?_) | (refine bs_bt (Eq.refl true) ?_) | (refine bs_bf (Eq.refl false) ?_) | (refine br_bt (Eq.refl true) ?_) | (refine br_bf (Eq.refl false) ?_) | (refine CallK.m ?_) | (refine Two.l ?_) | (refine And.intro (And.intro rfl rfl) ?_))
    intro ρ; show Value.bool _ = Value.bool _; simp [jobBad, h1]
theorem index_spec (l : List Job) (hl : l.length ≤ 100) : Spec Try.prog 80 [V.c (.sl 0 l.length), V.c (.fn 62 [])] [⟨0, .ro 2, jobC l⟩] 1 (Is (V.i (match l.findIdx? jobBad with | some k => (k : Int) | none => -1))) := by
  have hjl := jobC_len l
  refine Spec.of tok Try.func80 rfl rfl rfl fun n0 cx => vc_ok tok ?_
  repeat ((conv => whnf); first | (refine And.intro (by first | omega | exact Nat.le_of_ble_eq_true rfl | (dsimp only [inK]; omega) | (simp only [mulS_eq]; omega) | (simp only [mulS_eq, setL_length]; omega) | (simp only [setL_length, List.length_map]; omega) | exact ⟨by omega, by omega, by first | exact Nat.le_of_ble_eq_true rfl | (dsimp only; omega) | (simp only [setL_length]; omega) | (simp only [setL_length, List.length_map]; omega)⟩ | exact ⟨by omega, by first | rfl | omega, by omega, Nat.le_of_ble_eq_true rfl, Nat.le_of_ble_eq_true rfl⟩ | exact ⟨rfl, rfl, rfl, Nat.le_of_ble_eq_true rfl, by first | rfl | omega | exact Nat.le_of_ble_eq_true rfl | (dsimp only; omega) | (simp; done) | (simp; omega), by first | rfl | omega | exact Nat.le_of_ble_eq_true rfl | (dsimp only; omega) | (simp; done) | (simp; omega), by omega, Nat.le_of_ble_eq_true rfl⟩ | exact Eq.refl true) ?_) | (refine Exists.intro _ (And.intro rfl ?_)) | (refine And.intro (And.intro rfl (chk_rowI _ _ _ _)) ?_) | (refine br_t (by omega) ?_) | (refine br_f (by omega) ?_) | (refine bs_t (by omega) ?_) | (refine bs_f (by omega) ?_) | (refine fun (K' : K3) hK' => ?_) | (refine hK' _ _ _ ?_; clear hK' K') | (refine draw_auto tok mixed (by kernel_rfl) ?_) | (refine bs_bt (Eq.refl true) ?_) | (refine bs_bf (Eq.refl false) ?_) | (refine br_bt (Eq.refl true) ?_) | (refine br_bf (Eq.refl false) ?_) | (refine CallK.m ?_) | (refine Two.l ?_) | (refine And.intro (And.intro rfl rfl) ?_))
  refine Tri.loop (γ := Nat) (fun k => k ≤ l.length ∧ ∀ i, i < k → jobBad (l.getD i (0, 0)) = false) (fun k => [(0, V.c (.sl 0 l.length)), (1, V.c (.fn 62 [])), (7, V.i l.length), (8, V.i (k : Nat))]) (fun k => [⟨0, .ro 2, jobC l⟩]) 1 (fun k => l.length - k) 0 (R0 := []) ?_ ?_ ?_
  · exact ⟨by omega, by omega⟩
  · skip
    refine ⟨?_, ?_, rfl, rfl, by first | exact Nat.le_of_ble_eq_true rfl | exact Nat.le_refl _ | omega⟩
    · repeat (first | exact trivial | refine And.intro (covS_syn (by first | rfl) rfl (by first | exact trivial | exact Nat.le_of_ble_eq_true rfl | exact hy | exact (fun p hp => nomatch hp) | (show (_ : Nat) < _; omega))) ?_ | refine And.intro (covS_bool rfl rfl (by first | rfl)) ?_)
    · repeat (first | exact trivial | refine And.intro (covE_id (Nat.le_of_ble_eq_true rfl) (by first | exact wf_ints _ _ | exact wf_bools _ _ | first | exact wf_sls _ _ _ (by omega) | exact wf_jobs _ _ | simp [C.wf]) rfl (by first | rfl)) ?_)
  · rintro k ⟨hk, hb⟩
    refine vc_ok tok ?_
    by_cases hlt : k < l.length
    · cases hbad : jobBad (l.getD k (0, 0)) with
      | true =>
        repeat ((conv => whnf); first | (refine And.intro (by first | omega | exact Nat.le_of_ble_eq_true rfl | (dsimp only [inK]; omega) | (simp only [mulS_eq]; omega) | (simp only [mulS_eq, setL_length]; omega) | (simp only [setL_length, List.length_map]; omega) | exact ⟨by omega, by omega, by first | exact Nat.le_of_ble_eq_true rfl | (dsimp only; omega) | (simp only [setL_length]; omega) | (simp only [setL_length, List.length_map]; omega)⟩ | exact ⟨by omega, by first | rfl | omega, by omega, Nat.le_of_ble_eq_true rfl, Nat.le_of_ble_eq_true rfl⟩ | exact ⟨rfl, rfl, rfl, Nat.le_of_ble_eq_true rfl, by first | rfl | omega | exact Nat.le_of_ble_eq_true rfl | (dsimp only; omega) | (simp; done) | (simp; omega), by first | rfl | omega | exact Nat.le_of_ble_eq_true rfl | (dsimp only; omega) | (simp; done) | (simp; omega), by omega, Nat.le_of_ble_eq_true rfl⟩ | exact Eq.refl true) ?_) | (with_reducible refine ld (jobT rfl hlt) ?_) | (refine Exists.intro _ (And.intro rfl ?_)) | (refine And.intro (And.intro rfl (chk_rowI _ _ _ _)) ?_) | (refine br_t (by omega) ?_) | (refine br_f (by omega) ?_) | (refine bs_t (by omega) ?_) | (refine bs_f (by omega) ?_) | (refine fun (K' : K3) hK' => ?_) | (refine hK' _ _ _ ?_; clear hK' K') | (refine draw_auto tok mixed (by kernel_rfl) ?_) | (refine CallK.val (R := []) (bad_spec _) (by kernel_rfl) rfl (by simp [V.wf, A.wf, C.wf]) trivial rfl rfl trivial ?_) | (refine br_bt hbad ?_) | (refine bs_bt (Eq.refl true) ?_) | (refine bs_bf (Eq.refl false) ?_) | (refine br_bt (Eq.refl true) ?_) | (refine br_bf (Eq.refl false) ?_) | (refine CallK.m ?_) | (refine Two.l ?_) | (refine And.intro (And.intro rfl rfl) ?_))
        intro ρ
        have : l.findIdx? jobBad = some k := by
          rw [List.findIdx?_eq_some_iff_getElem]
          refine ⟨hlt, by simpa [List.getD_eq_getElem?_getD, hlt] using hbad, fun i hi => ?_⟩
          have := hb i hi
          simpa [List.getD_eq_getElem?_getD, show i < l.length by omega] using this
        rw [this]; rfl
      | false =>
        repeat ((conv => whnf); first | (refine And.intro (by first | omega | exact Nat.le_of_ble_eq_true rfl | (dsimp only [inK]; omega) | (simp only [mulS_eq]; omega) | (simp only [mulS_eq, setL_length]; omega) | (simp only [setL_length, List.length_map]; omega) | exact ⟨by omega, by omega, by first | exact Nat.le_of_ble_eq_true rfl | (dsimp only; omega) | (simp only [setL_length]; omega) | (simp only [setL_length, List.length_map]; omega)⟩ | exact ⟨by omega, by first | rfl | omega, by omega, Nat.le_of_ble_eq_true rfl, Nat.le_of_ble_eq_true rfl⟩ | exact ⟨rfl, rfl, rfl, Nat.le_of_ble_eq_true rfl, by first | rfl | omega | exact Nat.le_of_ble_eq_true rfl | (dsimp only; omega) | (simp; done) | (simp; omega), by first | rfl | omega | exact Nat.le_of_ble_eq_true rfl | (dsimp only; omega) | (simp; done) | (simp; omega), by omega, Nat.le_of_ble_eq_true rfl⟩ | exact Eq.refl true) ?_) | (with_reducible refine ld (jobT rfl hlt) ?_) | (refine Exists.intro _ (And.intro rfl ?_)) | (refine And.intro (And.intro rfl (chk_rowI _ _ _ _)) ?_) | (refine br_t (by omega) ?_) | (refine br_f (by omega) ?_) | (refine bs_t (by omega) ?_) | (refine bs_f (by omega) ?_) | (refine fun (K' : K3) hK' => ?_) | (refine hK' _ _ _ ?_; clear hK' K') | (refine draw_auto tok mixed (by kernel_rfl) ?_) | (refine CallK.val (R := []) (bad_spec _) (by kernel_rfl) rfl (by simp [V.wf, A.wf, C.wf]) trivial rfl rfl trivial ?_) | (refine br_bf hbad ?_) | (refine bs_bt (Eq.refl true) ?_) | (refine bs_bf (Eq.refl false) ?_) | (refine br_bt (Eq.refl true) ?_) | (refine br_bf (Eq.refl false) ?_) | (refine CallK.m ?_) | (refine Two.l ?_) | (refine And.intro (And.intro rfl rfl) ?_))
        refine ⟨k + 1, [], ⟨by omega, fun i hi => ?_⟩, by omega, ?_⟩
        · by_cases h : i = k
          · rw [h]; exact hbad
          · exact hb i (by omega)
        refine ⟨?_, ?_, rfl, rfl, by first | exact Nat.le_of_ble_eq_true rfl | exact Nat.le_refl _ | omega⟩
        · repeat (first | exact trivial | refine And.intro (covS_syn (by first | rfl | (refine congrArg some (congrArg V.i ?_); omega)) rfl (by first | exact trivial | exact Nat.le_of_ble_eq_true rfl | exact hy | exact (fun p hp => nomatch hp) | (show (_ : Nat) < _; omega))) ?_ | refine And.intro (covS_bool rfl rfl (by first | rfl)) ?_)
        · repeat (first | exact trivial | refine And.intro (covE_id (Nat.le_of_ble_eq_true rfl) (by first | exact wf_ints _ _ | exact wf_bools _ _ | first | exact wf_sls _ _ _ (by omega) | exact wf_jobs _ _ | simp [C.wf]) rfl (by first | rfl)) ?_)
    · repeat ((conv => whnf); first | (refine And.intro (by first | omega | exact Nat.le_of_ble_eq_true rfl | (dsimp only [inK]; omega) | (simp only [mulS_eq]; omega) | (simp only [mulS_eq, setL_length]; omega) | (simp only [setL_length, List.length_map]; omega) | exact ⟨by omega, by omega, by first | exact Nat.le_of_ble_eq_true rfl | (dsimp only; omega) | (simp only [setL_length]; omega) | (simp only [setL_length, List.length_map]; omega)⟩ | exact ⟨by omega, by first | rfl | omega, by omega, Nat.le_of_ble_eq_true rfl, Nat.le_of_ble_eq_true rfl⟩ | exact ⟨rfl, rfl, rfl, Nat.le_of_ble_eq_true rfl, by first | rfl | omega | exact Nat.le_of_ble_eq_true rfl | (dsimp only; omega) | (simp; done) | (simp; omega), by first | rfl | omega | exact Nat.le_of_ble_eq_true rfl | (dsimp only; omega) | (simp; done) | (simp; omega), by omega, Nat.le_of_ble_eq_true rfl⟩ | exact Eq.refl true) ?_) | (refine Exists.intro _ (And.intro rfl ?_)) | (refine And.intro (And.intro rfl (chk_rowI _ _ _ _)) ?_) | (refine br_t (by omega) ?_) | (refine br_f (by omega) ?_) | (refine bs_t (by omega) ?_) | (refine bs_f (by omega) ?_) | (refine fun (K' : K3) hK' => ?_) | (refine hK' _ _ _ ?_; clear hK' K') | (refine draw_auto tok mixed (by kernel_rfl) ?_) | (refine bs_bt (Eq.refl true) ?_) | (refine bs_bf (Eq.refl false) ?_) | (refine br_bt (Eq.refl true) ?_) | (refine br_bf (Eq.refl false) ?_) | (refine CallK.m ?_) | (refine Two.l ?_) | (refine And.intro (And.intro rfl rfl) ?_))
      intro ρ
      have : l.findIdx? jobBad = none := by
        rw [List.findIdx?_eq_none_iff]
        intro x hx
        obtain ⟨i, hi, rfl⟩ := List.mem_iff_getElem.1 hx
        have := hb i (by omega)
        simpa [List.getD_eq_getElem?_getD, hi] using this
      rw [this]; rfl
theorem contains_spec (l : List Job) (hl : l.length ≤ 100) : Spec Try.prog 61 [V.c (.sl 0 l.length), V.c (.fn 62 [])] [⟨0, .ro 2, jobC l⟩] 1 (Is (V.c (.bool (l.any jobBad)))) := by
  refine Spec.of tok Try.func61 rfl rfl rfl fun n0 cx => vc_ok tok ?_
  repeat ((conv => whnf); first | (refine And.intro (by first | omega | exact Nat.le_of_ble_eq_true rfl | (dsimp only [inK]; omega) | (simp only [mulS_eq]; omega) | (simp only [mulS_eq, setL_length]; omega) | (simp only [setL_length, List.length_map]; omega) | exact ⟨by omega, by omega, by first | exact Nat.le_of_ble_eq_true rfl | (dsimp only; omega) | (simp only [setL_length]; omega) | (simp only [setL_length, List.length_map]; omega)⟩ | exact ⟨by omega, by first | rfl | omega, by omega, Nat.le_of_ble_eq_true rfl, Nat.le_of_ble_eq_true rfl⟩ | exact ⟨rfl, rfl, rfl, Nat.le_of_ble_eq_true rfl, by first | rfl | omega | exact Nat.le_of_ble_eq_true rfl | (dsimp only; omega) | (simp; done) | (simp; omega), by first | rfl | omega | exact Nat.le_of_ble_eq_true rfl | (dsimp only; omega) | (simp; done) | (simp; omega), by omega, Nat.le_of_ble_eq_true rfl⟩ | exact Eq.refl true) ?_) | (refine Exists.intro _ (And.intro rfl ?_)) | (refine And.intro (And.intro rfl (chk_rowI _ _ _ _)) ?_) | (refine br_t (by omega) ?_) | (refine br_f (by omega) ?_) | (refine bs_t (by omega) ?_) | (refine bs_f (by omega) ?_) | (refine fun (K' : K3) hK' => ?_) | (refine hK' _ _ _ ?_; clear hK' K') | (refine draw_auto tok mixed (by kernel_rfl) ?_) | (refine CallK.val (R := []) (index_spec _ hl) (by kernel_rfl) rfl (by simp [V.wf, A.wf, C.wf]) ⟨roE_id (by omega) (wf_jobs _ _) rfl (.inr rfl) rfl, trivial⟩ rfl rfl trivial ?_) | (refine bs_bt (Eq.refl true) ?_) | (refine bs_bf (Eq.refl false) ?_) | (refine br_bt (Eq.refl true) ?_) | (refine br_bf (Eq.refl false) ?_) | (refine CallK.m ?_) | (refine Two.l ?_) | (refine And.intro (And.intro rfl rfl) ?_))
  intro ρ
  show Value.bool _ = Value.bool _
  congr 1
  cases h : l.findIdx? jobBad with
  | none =>
    have : l.any jobBad = false := by simpa [List.any_eq_false] using List.findIdx?_eq_none_iff.1 h
    simp [this]
  | some k =>
    have : l.any jobBad = true := by
      obtain ⟨h1, h2, _⟩ := List.findIdx?_eq_some_iff_getElem.1 h
      exact List.any_eq_true.2 ⟨_, List.getElem_mem h1, h2⟩
    simp [this]
end Go.Proofs.Ytjijjncddjkdlaa

/- Shore: Valid. -/
namespace Go.Proofs.Ytjijjncddjkdlaa
open Go.RowKit
set_option linter.unusedVariables false
set_option linter.unusedSimpArgs false
theorem ren_jobs (R : Rn) (l : List Job) : seqO ((jobC l).map (C.ren R)) = some (jobC l) := seqO_fix fun c hc => by
  simp only [jobC, List.mem_flatMap] at hc
  obtain ⟨j, _, hc⟩ := hc
  simp at hc
  rcases hc with rfl | rfl <;> rfl
/-- A beach of a coast, as a callee reads it. -/
theorem roE_beach {nx z l : Nat} {L : List E} {b : List Job} (h1 : 0 < nx) (h3 : find L l = some ⟨l, .ro 2, jobC b⟩) (hz : z = 0 ∨ z = 2) : roL [(0, some l)] nx L [⟨0, .ro z, jobC b⟩] :=
  ⟨⟨h1, wf_jobs _ _, .ro 2, jobC b, h3, hz.imp id (fun h => by rw [h]; rfl), ren_jobs _ _⟩, trivial⟩
def validL (j : Coast) : Bool := (j.all fun b => !(b.any jobBad)) && decide (1 ≤ (j.length : Int) ∧ (j.length : Int) ≤ 6) && decide ((manyN j j.length : Int) ≤ 12)
theorem manyN_bd {j : Coast} (hl : ∀ k, k < j.length → (j.getD k []).length ≤ 100) : ∀ k, k ≤ j.length → manyN j k ≤ 100 * k := by
  intro k hk
  induction k with
  | zero => simp [manyN]
  | succ k ih => rw [manyN_succ (by omega)]; have := hl k (by omega); have := ih (by omega); omega
theorem valid_spec (j : Coast) (hj : j.length ≤ 20) (hl : ∀ k, k < j.length → (j.getD k []).length ≤ 100) : Spec Try.prog 23 [V.c (.sl 0 j.length)] (⟨0, .ro 1, slsC 1 j⟩ :: entC 1 j) 32 (Is (V.c (.bool (validL j)))) := by
  have hlen := slsC_len (b := 1) (j := j)
  refine Spec.of tok Try.func23 rfl rfl rfl fun n0 cx => vc_ok tok ?_
  repeat ((conv => whnf); first | (refine And.intro (by first | omega | exact Nat.le_of_ble_eq_true rfl | (dsimp only [inK]; omega) | (simp only [mulS_eq]; omega) | (simp only [mulS_eq, setL_length]; omega) | (simp only [setL_length, List.length_map]; omega) | exact ⟨by omega, by omega, by first | exact Nat.le_of_ble_eq_true rfl | (dsimp only; omega) | (simp only [setL_length]; omega) | (simp only [setL_length, List.length_map]; omega)⟩ | exact ⟨by omega, by first | rfl | omega, by omega, Nat.le_of_ble_eq_true rfl, Nat.le_of_ble_eq_true rfl⟩ | exact ⟨rfl, rfl, rfl, Nat.le_of_ble_eq_true rfl, by first | rfl | omega | exact Nat.le_of_ble_eq_true rfl | (dsimp only; omega) | (simp; done) | (simp; omega), by first | rfl | omega | exact Nat.le_of_ble_eq_true rfl | (dsimp only; omega) | (simp; done) | (simp; omega), by omega, Nat.le_of_ble_eq_true rfl⟩ | exact Eq.refl true) ?_) | (refine Exists.intro _ (And.intro rfl ?_)) | (refine And.intro (And.intro rfl (chk_rowI _ _ _ _)) ?_) | (refine br_t (by omega) ?_) | (refine br_f (by omega) ?_) | (refine bs_t (by omega) ?_) | (refine bs_f (by omega) ?_) | (refine fun (K' : K3) hK' => ?_) | (refine hK' _ _ _ ?_; clear hK' K') | (refine draw_auto tok mixed (by kernel_rfl) ?_) | (refine bs_bt (Eq.refl true) ?_) | (refine bs_bf (Eq.refl false) ?_) | (refine br_bt (Eq.refl true) ?_) | (refine br_bf (Eq.refl false) ?_) | (refine CallK.m ?_) | (refine Two.l ?_) | (refine And.intro (And.intro rfl rfl) ?_))
  refine Tri.loop (γ := Nat) (fun k => k ≤ j.length ∧ ∀ i, i < k → (j.getD i []).any jobBad = false) (fun k => [(0, V.c (.sl 0 j.length)), (6, V.c (.sl 0 j.length)), (7, V.i j.length), (8, V.i (k : Nat)), (3, V.i (manyN j k))])
    (fun k => ⟨0, .ro 1, slsC 1 j⟩ :: entC 1 j) 32 (fun k => j.length - k) 0 (R0 := []) ?_ ?_ ?_
  · exact ⟨by omega, by omega⟩
  · skip
    refine ⟨?_, ?_, injB_ent (p := [_]) (by omega) rfl rfl, rfl, by first | exact Nat.le_of_ble_eq_true rfl | exact Nat.le_refl _ | omega⟩
    · repeat (first | exact trivial | refine And.intro (covS_syn (by first | rfl) rfl (by first | exact trivial | exact Nat.le_of_ble_eq_true rfl | exact hy | exact (fun p hp => nomatch hp) | (show (_ : Nat) < _; omega))) ?_ | refine And.intro (covS_bool rfl rfl (by first | rfl)) ?_)
    · repeat (first | exact trivial | (exact covL_ent (by omega) (fun k hk => by (try simp only [flatN]); (repeat (first | rw [find_skip (by omega)] | rw [find_hi (by omega) (by rfl)])))) | refine And.intro (covE_id (Nat.le_of_ble_eq_true rfl) (by first | exact wf_ints _ _ | exact wf_bools _ _ | first | exact wf_sls _ _ _ (by omega) | exact wf_jobs _ _ | simp [C.wf]) rfl (by first | rfl)) ?_)
  · rintro k ⟨hk, hb⟩
    refine vc_ok tok ?_
    have h1 := manyN_bd hl k hk
    by_cases hlt : k < j.length
    · have h2 := hl k hlt
      have h3 := manyN_succ hlt
      cases hbad : (j.getD k []).any jobBad with
      | true =>
        repeat ((conv => whnf); first | (refine And.intro (by first | omega | exact Nat.le_of_ble_eq_true rfl | (dsimp only [inK]; omega) | (simp only [mulS_eq]; omega) | (simp only [mulS_eq, setL_length]; omega) | (simp only [setL_length, List.length_map]; omega) | exact ⟨by omega, by omega, by first | exact Nat.le_of_ble_eq_true rfl | (dsimp only; omega) | (simp only [setL_length]; omega) | (simp only [setL_length, List.length_map]; omega)⟩ | exact ⟨by omega, by first | rfl | omega, by omega, Nat.le_of_ble_eq_true rfl, Nat.le_of_ble_eq_true rfl⟩ | exact ⟨rfl, rfl, rfl, Nat.le_of_ble_eq_true rfl, by first | rfl | omega | exact Nat.le_of_ble_eq_true rfl | (dsimp only; omega) | (simp; done) | (simp; omega), by first | rfl | omega | exact Nat.le_of_ble_eq_true rfl | (dsimp only; omega) | (simp; done) | (simp; omega), by omega, Nat.le_of_ble_eq_true rfl⟩ | exact Eq.refl true) ?_) | (with_reducible refine ld (slL hlt) ?_) | (refine Exists.intro _ (And.intro rfl ?_)) | (refine And.intro (And.intro rfl (chk_rowI _ _ _ _)) ?_) | (refine br_t (by omega) ?_) | (refine br_f (by omega) ?_) | (refine bs_t (by omega) ?_) | (refine bs_f (by omega) ?_) | (refine fun (K' : K3) hK' => ?_) | (refine hK' _ _ _ ?_; clear hK' K') | (refine draw_auto tok mixed (by kernel_rfl) ?_) | (refine CallK.val (R := [(0, some (1 + k))]) (contains_spec (j.getD k []) h2) (by kernel_rfl) rfl (by simp [V.wf, A.wf, C.wf]) (roE_beach (by omega) (by ((try (conv => lhs; arg 1; whnf)); (repeat (first | rw [find_skip (by omega)] | rw [find_hi (by omega) (by rfl)])); exact entC_find hlt)) (.inr rfl)) rfl rfl trivial ?_) | (refine br_bt hbad ?_) | (refine bs_bt (Eq.refl true) ?_) | (refine bs_bf (Eq.refl false) ?_) | (refine br_bt (Eq.refl true) ?_) | (refine br_bf (Eq.refl false) ?_) | (refine CallK.m ?_) | (refine Two.l ?_) | (refine And.intro (And.intro rfl rfl) ?_))
        intro ρ; show Value.bool _ = Value.bool _
        have : (j.all fun b => !(b.any jobBad)) = false := by
          apply Bool.eq_false_iff.2
          intro h
          have := List.all_eq_true.1 h _ (List.getElem_mem hlt)
          rw [List.getD_eq_getElem?_getD, List.getElem?_eq_getElem hlt] at hbad
          simp only [Option.getD_some] at hbad
          rw [hbad] at this; cases this
        simp [validL, this]
      | false =>
        repeat ((conv => whnf); first | (refine And.intro (by first | omega | exact Nat.le_of_ble_eq_true rfl | (dsimp only [inK]; omega) | (simp only [mulS_eq]; omega) | (simp only [mulS_eq, setL_length]; omega) | (simp only [setL_length, List.length_map]; omega) | exact ⟨by omega, by omega, by first | exact Nat.le_of_ble_eq_true rfl | (dsimp only; omega) | (simp only [setL_length]; omega) | (simp only [setL_length, List.length_map]; omega)⟩ | exact ⟨by omega, by first | rfl | omega, by omega, Nat.le_of_ble_eq_true rfl, Nat.le_of_ble_eq_true rfl⟩ | exact ⟨rfl, rfl, rfl, Nat.le_of_ble_eq_true rfl, by first | rfl | omega | exact Nat.le_of_ble_eq_true rfl | (dsimp only; omega) | (simp; done) | (simp; omega), by first | rfl | omega | exact Nat.le_of_ble_eq_true rfl | (dsimp only; omega) | (simp; done) | (simp; omega), by omega, Nat.le_of_ble_eq_true rfl⟩ | exact Eq.refl true) ?_) | (with_reducible refine ld (slL hlt) ?_) | (refine Exists.intro _ (And.intro rfl ?_)) | (refine And.intro (And.intro rfl (chk_rowI _ _ _ _)) ?_) | (refine br_t (by omega) ?_) | (refine br_f (by omega) ?_) | (refine bs_t (by omega) ?_) | (refine bs_f (by omega) ?_) | (refine fun (K' : K3) hK' => ?_) | (refine hK' _ _ _ ?_; clear hK' K') | (refine draw_auto tok mixed (by kernel_rfl) ?_) | (refine CallK.val (R := [(0, some (1 + k))]) (contains_spec (j.getD k []) h2) (by kernel_rfl) rfl (by simp [V.wf, A.wf, C.wf]) (roE_beach (by omega) (by ((try (conv => lhs; arg 1; whnf)); (repeat (first | rw [find_skip (by omega)] | rw [find_hi (by omega) (by rfl)])); exact entC_find hlt)) (.inr rfl)) rfl rfl trivial ?_) | (refine br_bf hbad ?_) | (refine bs_bt (Eq.refl true) ?_) | (refine bs_bf (Eq.refl false) ?_) | (refine br_bt (Eq.refl true) ?_) | (refine br_bf (Eq.refl false) ?_) | (refine CallK.m ?_) | (refine Two.l ?_) | (refine And.intro (And.intro rfl rfl) ?_))
        refine ⟨k + 1, [], ⟨by omega, fun i hi => ?_⟩, by omega, ?_⟩
        · by_cases h : i = k
          · rw [h]; exact hbad
          · exact hb i (by omega)
        refine ⟨?_, ?_, injB_ent (p := [_]) (by omega) rfl rfl, rfl, by first | exact Nat.le_of_ble_eq_true rfl | exact Nat.le_refl _ | omega⟩
        · repeat (first | exact trivial | refine And.intro (covS_syn (by first | rfl | (refine congrArg some (congrArg V.i ?_); omega)) rfl (by first | exact trivial | exact Nat.le_of_ble_eq_true rfl | exact hy | exact (fun p hp => nomatch hp) | (show (_ : Nat) < _; omega))) ?_ | refine And.intro (covS_bool rfl rfl (by first | rfl)) ?_)
        · repeat (first | exact trivial | (exact covL_ent (by omega) (fun k hk => by (try simp only [flatN]); (repeat (first | rw [find_skip (by omega)] | rw [find_hi (by omega) (by rfl)])))) | refine And.intro (covE_id (Nat.le_of_ble_eq_true rfl) (by first | exact wf_ints _ _ | exact wf_bools _ _ | first | exact wf_sls _ _ _ (by omega) | exact wf_jobs _ _ | simp [C.wf]) rfl (by first | rfl)) ?_)
    · have hkl : k = j.length := by omega
      subst hkl
      have hall : (j.all fun b => !(b.any jobBad)) = true := by
        refine List.all_eq_true.2 fun b hbm => ?_
        obtain ⟨i, hi, rfl⟩ := List.mem_iff_getElem.1 hbm
        have := hb i hi
        rw [List.getD_eq_getElem?_getD, List.getElem?_eq_getElem hi] at this
        simp only [Option.getD_some] at this
        rw [this]; rfl
      by_cases h6 : 1 ≤ (j.length : Int) ∧ (j.length : Int) ≤ 6
      · repeat ((conv => whnf); first | (refine And.intro (by first | omega | exact Nat.le_of_ble_eq_true rfl | (dsimp only [inK]; omega) | (simp only [mulS_eq]; omega) | (simp only [mulS_eq, setL_length]; omega) | (simp only [setL_length, List.length_map]; omega) | exact ⟨by omega, by omega, by first | exact Nat.le_of_ble_eq_true rfl | (dsimp only; omega) | (simp only [setL_length]; omega) | (simp only [setL_length, List.length_map]; omega)⟩ | exact ⟨by omega, by first | rfl | omega, by omega, Nat.le_of_ble_eq_true rfl, Nat.le_of_ble_eq_true rfl⟩ | exact ⟨rfl, rfl, rfl, Nat.le_of_ble_eq_true rfl, by first | rfl | omega | exact Nat.le_of_ble_eq_true rfl | (dsimp only; omega) | (simp; done) | (simp; omega), by first | rfl | omega | exact Nat.le_of_ble_eq_true rfl | (dsimp only; omega) | (simp; done) | (simp; omega), by omega, Nat.le_of_ble_eq_true rfl⟩ | exact Eq.refl true) ?_) | (refine Exists.intro _ (And.intro rfl ?_)) | (refine And.intro (And.intro rfl (chk_rowI _ _ _ _)) ?_) | (refine br_t (by omega) ?_) | (refine br_f (by omega) ?_) | (refine bs_t (by omega) ?_) | (refine bs_f (by omega) ?_) | (refine fun (K' : K3) hK' => ?_) | (refine hK' _ _ _ ?_; clear hK' K') | (refine draw_auto tok mixed (by kernel_rfl) ?_) | (refine CallK.val (R := []) (between_spec _ _ _) (by kernel_rfl) rfl (by simp [V.wf, A.wf, C.wf, V.i]) trivial rfl rfl trivial ?_) | (refine br_t h6 ?_) | (refine bs_t h6 ?_) | (refine bs_bt (Eq.refl true) ?_) | (refine bs_bf (Eq.refl false) ?_) | (refine br_bt (Eq.refl true) ?_) | (refine br_bf (Eq.refl false) ?_) | (refine CallK.m ?_) | (refine Two.l ?_) | (refine And.intro (And.intro rfl rfl) ?_))
        intro ρ; show Value.bool _ = Value.bool _
        simp [validL, hall, h6]
      · repeat ((conv => whnf); first | (refine And.intro (by first | omega | exact Nat.le_of_ble_eq_true rfl | (dsimp only [inK]; omega) | (simp only [mulS_eq]; omega) | (simp only [mulS_eq, setL_length]; omega) | (simp only [setL_length, List.length_map]; omega) | exact ⟨by omega, by omega, by first | exact Nat.le_of_ble_eq_true rfl | (dsimp only; omega) | (simp only [setL_length]; omega) | (simp only [setL_length, List.length_map]; omega)⟩ | exact ⟨by omega, by first | rfl | omega, by omega, Nat.le_of_ble_eq_true rfl, Nat.le_of_ble_eq_true rfl⟩ | exact ⟨rfl, rfl, rfl, Nat.le_of_ble_eq_true rfl, by first | rfl | omega | exact Nat.le_of_ble_eq_true rfl | (dsimp only; omega) | (simp; done) | (simp; omega), by first | rfl | omega | exact Nat.le_of_ble_eq_true rfl | (dsimp only; omega) | (simp; done) | (simp; omega), by omega, Nat.le_of_ble_eq_true rfl⟩ | exact Eq.refl true) ?_) | (refine Exists.intro _ (And.intro rfl ?_)) | (refine And.intro (And.intro rfl (chk_rowI _ _ _ _)) ?_) | (refine br_t (by omega) ?_) | (refine br_f (by omega) ?_) | (refine bs_t (by omega) ?_) | (refine bs_f (by omega) ?_) | (refine fun (K' : K3) hK' => ?_) | (refine hK' _ _ _ ?_; clear hK' K') | (refine draw_auto tok mixed (by kernel_rfl) ?_) | (refine CallK.val (R := []) (between_spec _ _ _) (by kernel_rfl) rfl (by simp [V.wf, A.wf, C.wf, V.i]) trivial rfl rfl trivial ?_) | (refine br_f h6 ?_) | (refine bs_f h6 ?_) | (refine bs_bt (Eq.refl true) ?_) | (refine bs_bf (Eq.refl false) ?_) | (refine br_bt (Eq.refl true) ?_) | (refine br_bf (Eq.refl false) ?_) | (refine CallK.m ?_) | (refine Two.l ?_) | (refine And.intro (And.intro rfl rfl) ?_))
        intro ρ; show Value.bool _ = Value.bool _
        simp [validL, hall, h6]
end Go.Proofs.Ytjijjncddjkdlaa

/- Shore: open, above, Count. -/
namespace Go.Proofs.Ytjijjncddjkdlaa
open Go.RowKit
set_option linter.unusedVariables false
set_option linter.unusedSimpArgs false
/-- The coast lies at label 0, its beaches at 1 and on. -/
structure HasC (L : List E) (j : Coast) : Prop where
  sl : find L 0 = some ⟨0, .ro 1, slsC 1 j⟩
  be : ∀ k, k < j.length → find L (1 + k) = some ⟨1 + k, .ro 2, jobC (j.getD k [])⟩
structure Sized (j : Coast) : Prop where
  len : j.length ≤ 20
  be : ∀ k, k < j.length → (j.getD k []).length ≤ 100
theorem roL_all {R : Rn} {nx : Nat} {L : List E} : ∀ {q : List E}, (∀ e ∈ q, roE R nx L e) → roL R nx L q
  | [], _ => trivial
  | e :: q, h => ⟨h e (by simp), roL_all fun x hx => h x (by simp [hx])⟩
theorem HasC.ro {L : List E} {j : Coast} (h : HasC L j) (hj : Sized j) : roL [] 32 L (⟨0, .ro 1, slsC 1 j⟩ :: entC 1 j) := by
  have := hj.len
  refine ⟨roE_id (by omega) (wf_sls _ _ _ (by omega)) h.sl (.inr rfl) rfl, roL_all fun e he => ?_⟩
  obtain ⟨k, hk, rfl⟩ := entC_mem he
  exact roE_id (by omega) (wf_jobs _ _) (h.be k hk) (.inr rfl) rfl
theorem injC {j : Coast} (hj : Sized j) : injB [] (⟨0, .ro 1, slsC 1 j⟩ :: entC 1 j) = true := injB_ent (p := [_]) hj.len rfl rfl
theorem open_spec (j : Coast) (hj : Sized j) (nx : Nat) (L : List E) (hL : HasC L j) : SpecM Try.prog 51 [V.c (.sl 0 j.length)] L nx (fun v L' nx' => (v = if validL j then .tup [.c (.sl 0 j.length), .c (C.i 0)] else .tup [.c .nil, .c (C.i 60)]) ∧ L' = L ∧ nx' = nx) := by
  refine SpecM.of tok Try.func51 rfl rfl rfl fun n0 cx => vc_ok tok ?_
  cases hv : validL j with
  | true =>
    repeat ((conv => whnf); first | (refine And.intro (by first | omega | exact Nat.le_of_ble_eq_true rfl | (dsimp only [inK]; omega) | (simp only [mulS_eq]; omega) | (simp only [mulS_eq, setL_length]; omega) | (simp only [setL_length, List.length_map]; omega) | exact ⟨by omega, by omega, by first | exact Nat.le_of_ble_eq_true rfl | (dsimp only; omega) | (simp only [setL_length]; omega) | (simp only [setL_length, List.length_map]; omega)⟩ | exact ⟨by omega, by first | rfl | omega, by omega, Nat.le_of_ble_eq_true rfl, Nat.le_of_ble_eq_true rfl⟩ | exact ⟨rfl, rfl, rfl, Nat.le_of_ble_eq_true rfl, by first | rfl | omega | exact Nat.le_of_ble_eq_true rfl | (dsimp only; omega) | (simp; done) | (simp; omega), by first | rfl | omega | exact Nat.le_of_ble_eq_true rfl | (dsimp only; omega) | (simp; done) | (simp; omega), by omega, Nat.le_of_ble_eq_true rfl⟩ | exact Eq.refl true) ?_) | (refine Exists.intro _ (And.intro rfl ?_)) | (refine And.intro (And.intro rfl (chk_rowI _ _ _ _)) ?_) | (refine br_t (by omega) ?_) | (refine br_f (by omega) ?_) | (refine bs_t (by omega) ?_) | (refine bs_f (by omega) ?_) | (refine fun (K' : K3) hK' => ?_) | (refine hK' _ _ _ ?_; clear hK' K') | (refine draw_auto tok mixed (by kernel_rfl) ?_) | (refine CallK.val (R := []) (valid_spec j hj.len hj.be) (by kernel_rfl) rfl (by simp [V.wf, A.wf, C.wf]) (hL.ro hj) (injC hj) rfl trivial ?_) | (refine br_bf (by simp [hv]) ?_) | (refine bs_bt (Eq.refl true) ?_) | (refine bs_bf (Eq.refl false) ?_) | (refine br_bt (Eq.refl true) ?_) | (refine br_bf (Eq.refl false) ?_) | (refine CallK.m ?_) | (refine Two.l ?_) | (refine And.intro (And.intro rfl rfl) ?_))
    exact ⟨rfl, rfl, rfl⟩
  | false =>
    repeat ((conv => whnf); first | (refine And.intro (by first | omega | exact Nat.le_of_ble_eq_true rfl | (dsimp only [inK]; omega) | (simp only [mulS_eq]; omega) | (simp only [mulS_eq, setL_length]; omega) | (simp only [setL_length, List.length_map]; omega) | exact ⟨by omega, by omega, by first | exact Nat.le_of_ble_eq_true rfl | (dsimp only; omega) | (simp only [setL_length]; omega) | (simp only [setL_length, List.length_map]; omega)⟩ | exact ⟨by omega, by first | rfl | omega, by omega, Nat.le_of_ble_eq_true rfl, Nat.le_of_ble_eq_true rfl⟩ | exact ⟨rfl, rfl, rfl, Nat.le_of_ble_eq_true rfl, by first | rfl | omega | exact Nat.le_of_ble_eq_true rfl | (dsimp only; omega) | (simp; done) | (simp; omega), by first | rfl | omega | exact Nat.le_of_ble_eq_true rfl | (dsimp only; omega) | (simp; done) | (simp; omega), by omega, Nat.le_of_ble_eq_true rfl⟩ | exact Eq.refl true) ?_) | (refine Exists.intro _ (And.intro rfl ?_)) | (refine And.intro (And.intro rfl (chk_rowI _ _ _ _)) ?_) | (refine br_t (by omega) ?_) | (refine br_f (by omega) ?_) | (refine bs_t (by omega) ?_) | (refine bs_f (by omega) ?_) | (refine fun (K' : K3) hK' => ?_) | (refine hK' _ _ _ ?_; clear hK' K') | (refine draw_auto tok mixed (by kernel_rfl) ?_) | (refine CallK.val (R := []) (valid_spec j hj.len hj.be) (by kernel_rfl) rfl (by simp [V.wf, A.wf, C.wf]) (hL.ro hj) (injC hj) rfl trivial ?_) | (refine br_bt (by simp [hv]) ?_) | (refine bs_bt (Eq.refl true) ?_) | (refine bs_bf (Eq.refl false) ?_) | (refine br_bt (Eq.refl true) ?_) | (refine br_bf (Eq.refl false) ?_) | (refine CallK.m ?_) | (refine Two.l ?_) | (refine And.intro (And.intro rfl rfl) ?_))
    exact ⟨rfl, rfl, rfl⟩
/-- Whether the rate of a piece (hours, harm, last) is greater. -/
def aboveB (p o : Pc) : Bool := decide (o.1 = 0) || decide (p.2.1 * o.1 > o.2.1 * p.1)
theorem above_spec (p o : Pc) (h1 : 0 ≤ p.1 ∧ p.1 ≤ 20000) (h2 : 0 ≤ p.2.1 ∧ p.2.1 ≤ 20000) (h3 : 0 ≤ o.1 ∧ o.1 ≤ 20000) (h4 : 0 ≤ o.2.1 ∧ o.2.1 ≤ 20000) :
    Spec Try.prog 79 [V.agg [C.i p.1, C.i p.2.1, C.i p.2.2], V.agg [C.i o.1, C.i o.2.1, C.i o.2.2]] [] 0 (Is (V.c (.bool (aboveB p o)))) := by
  have hm1 := mul_bd h2.1 h2.2 h3.1 h3.2
  have hm2 := mul_bd h4.1 h4.2 h1.1 h1.2
  refine Spec.of tok Try.func79 rfl rfl rfl fun n0 cx => vc_ok tok ?_
  by_cases h0 : o.1 = 0
  · repeat ((conv => whnf); first | (refine And.intro (by first | omega | exact Nat.le_of_ble_eq_true rfl | (dsimp only [inK]; omega) | (simp only [mulS_eq]; omega) | (simp only [mulS_eq, setL_length]; omega) | (simp only [setL_length, List.length_map]; omega) | exact ⟨by omega, by omega, by first | exact Nat.le_of_ble_eq_true rfl | (dsimp only; omega) | (simp only [setL_length]; omega) | (simp only [setL_length, List.length_map]; omega)⟩ | exact ⟨by omega, by first | rfl | omega, by omega, Nat.le_of_ble_eq_true rfl, Nat.le_of_ble_eq_true rfl⟩ | exact ⟨rfl, rfl, rfl, Nat.le_of_ble_eq_true rfl, by first | rfl | omega | exact Nat.le_of_ble_eq_true rfl | (dsimp only; omega) | (simp; done) | (simp; omega), by first | rfl | omega | exact Nat.le_of_ble_eq_true rfl | (dsimp only; omega) | (simp; done) | (simp; omega), by omega, Nat.le_of_ble_eq_true rfl⟩ | exact Eq.refl true) ?_) | (refine Exists.intro _ (And.intro rfl ?_)) | (refine And.intro (And.intro rfl (chk_rowI _ _ _ _)) ?_) | (refine br_t (by omega) ?_) | (refine br_f (by omega) ?_) | (refine bs_t (by omega) ?_) | (refine bs_f (by omega) ?_) | (refine fun (K' : K3) hK' => ?_) | (refine hK' _ _ _ ?_; clear hK' K') | (refine draw_auto tok mixed (by kernel_rfl) ?_) | (refine bs_t h0 ?_) | (refine bs_bt (Eq.refl true) ?_) | (refine bs_bf (Eq.refl false) ?_) | (refine br_bt (Eq.refl true) ?_) | (refine br_bf (Eq.refl false) ?_) | (refine CallK.m ?_) | (refine Two.l ?_) | (refine And.intro (And.intro rfl rfl) ?_))
    intro ρ; show Value.bool _ = Value.bool _; simp [aboveB, h0]
  · repeat ((conv => whnf); first | (refine And.intro (by first | omega | exact Nat.le_of_ble_eq_true rfl | (dsimp only [inK]; omega) | (simp only [mulS_eq]; omega) | (simp only [mulS_eq, setL_length]; omega) | (simp only [setL_length, List.length_map]; omega) | exact ⟨by omega, by omega, by first | exact Nat.le_of_ble_eq_true rfl | (dsimp only; omega) | (simp only [setL_length]; omega) | (simp only [setL_length, List.length_map]; omega)⟩ | exact ⟨by omega, by first | rfl | omega, by omega, Nat.le_of_ble_eq_true rfl, Nat.le_of_ble_eq_true rfl⟩ | exact ⟨rfl, rfl, rfl, Nat.le_of_ble_eq_true rfl, by first | rfl | omega | exact Nat.le_of_ble_eq_true rfl | (dsimp only; omega) | (simp; done) | (simp; omega), by first | rfl | omega | exact Nat.le_of_ble_eq_true rfl | (dsimp only; omega) | (simp; done) | (simp; omega), by omega, Nat.le_of_ble_eq_true rfl⟩ | exact Eq.refl true) ?_) | (refine Exists.intro _ (And.intro rfl ?_)) | (refine And.intro (And.intro rfl (chk_rowI _ _ _ _)) ?_) | (refine br_t (by omega) ?_) | (refine br_f (by omega) ?_) | (refine bs_t (by omega) ?_) | (refine bs_f (by omega) ?_) | (refine fun (K' : K3) hK' => ?_) | (refine hK' _ _ _ ?_; clear hK' K') | (refine draw_auto tok mixed (by kernel_rfl) ?_) | (refine bs_f h0 ?_) | (refine bs_bt (Eq.refl true) ?_) | (refine bs_bf (Eq.refl false) ?_) | (refine br_bt (Eq.refl true) ?_) | (refine br_bf (Eq.refl false) ?_) | (refine CallK.m ?_) | (refine Two.l ?_) | (refine And.intro (And.intro rfl rfl) ?_))
    intro ρ; show Value.bool _ = Value.bool _; simp [aboveB, h0]
end Go.Proofs.Ytjijjncddjkdlaa

/- Shore: lead. -/
namespace Go.Proofs.Ytjijjncddjkdlaa
open Go.RowKit
set_option linter.unusedVariables false
set_option linter.unusedSimpArgs false
/-- shore's lead: (hours, harm, last) so far, and the best. -/
def runS (l : List Job) (f : Nat) : Nat → Pc × Pc
  | 0 => ((0, 0, 0), (0, 0, 0))
  | n + 1 =>
    let st := runS l f n
    let j := l.getD (f + n) (0, 0)
    let now : Pc := (st.1.1 + j.1, st.1.2.1 + j.2, (f + n : Nat))
    (now, if aboveB st.2 now then st.2 else now)
theorem runS_bd {l : List Job} {f : Nat} (hj : JobsOk l) : ∀ n, f + n ≤ l.length → 0 ≤ (runS l f n).1.1 ∧ (runS l f n).1.1 ≤ 100 * n ∧ 0 ≤ (runS l f n).1.2.1 ∧ (runS l f n).1.2.1 ≤ 100 * n ∧ 0 ≤ (runS l f n).2.1 ∧ (runS l f n).2.1 ≤ 100 * n ∧ 0 ≤ (runS l f n).2.2.1 ∧ (runS l f n).2.2.1 ≤ 100 * n
  | 0, _ => by simp [runS]
  | n + 1, h => by
    have ih := runS_bd (f := f) hj n (by omega)
    have hb := hj (f + n) (by omega)
    simp only [runS]
    refine ⟨by omega, by omega, by omega, by omega, ?_⟩
    split
    · exact ⟨by omega, by omega, by omega, by omega⟩
    · exact ⟨by simp only; omega, by simp only; omega, by simp only; omega, by simp only; omega⟩
theorem jobC_drop : ∀ {l : List Job} {f : Nat}, (jobC l).drop (f * 2) = jobC (l.drop f)
  | l, 0 => by simp
  | [], f + 1 => by simp [jobC]
  | x :: l, f + 1 => by
    have := jobC_drop (l := l) (f := f)
    simp only [jobC, List.flatMap_cons] at *
    rw [show (f + 1) * 2 = f * 2 + 1 + 1 by omega]
    simpa using this
theorem jobC_td {l : List Job} {f : Nat} : ((jobC l).drop (f * 2)).take ((l.length - f) * 2) = jobC (l.drop f) := by
  rw [jobC_drop, List.take_of_length_le]
  rw [jobC_len]; simp; omega
theorem jobTd {l : List Job} {f k : Nat} {z : Int} (hz : z = k) (h : f + k < l.length) : takeC (jobC (l.drop f)) (mulS z.toNat 2) 2 = some [C.i (l.getD (f + k) (0, 0)).1, C.i (l.getD (f + k) (0, 0)).2] := by
  rw [jobT hz (by simp; omega)]
  simp [List.getD_eq_getElem?_getD]
set_option maxRecDepth 10000 in
theorem lead_spec (l : List Job) (f : Nat) (hl : l.length ≤ 100) (hf : f ≤ l.length) (hj : JobsOk l) :
    Spec Try.prog 53 [V.c (.sl 0 l.length), V.i f] [⟨0, .ro 2, jobC l⟩] 1 (Is (V.agg [C.i (runS l f (l.length - f)).2.1, C.i (runS l f (l.length - f)).2.2.1, C.i (runS l f (l.length - f)).2.2.2])) := by
  have hjl := jobC_len l
  refine Spec.of tok Try.func53 rfl rfl rfl fun n0 cx => vc_ok tok ?_
  repeat ((conv => whnf); first | (refine And.intro (by first | omega | exact Nat.le_of_ble_eq_true rfl | (dsimp only [inK]; omega) | (simp only [mulS_eq]; omega) | (simp only [mulS_eq, setL_length]; omega) | (simp only [setL_length, List.length_map]; omega) | exact ⟨by omega, by omega, by first | exact Nat.le_of_ble_eq_true rfl | (dsimp only; omega) | (simp only [setL_length]; omega) | (simp only [setL_length, List.length_map]; omega)⟩ | exact ⟨by omega, by first | rfl | omega, by omega, Nat.le_of_ble_eq_true rfl, Nat.le_of_ble_eq_true rfl⟩ | exact ⟨rfl, rfl, rfl, Nat.le_of_ble_eq_true rfl, by first | rfl | omega | exact Nat.le_of_ble_eq_true rfl | (dsimp only; omega) | (simp; done) | (simp; omega), by first | rfl | omega | exact Nat.le_of_ble_eq_true rfl | (dsimp only; omega) | (simp; done) | (simp; omega), by omega, Nat.le_of_ble_eq_true rfl⟩ | exact Eq.refl true) ?_) | (refine Exists.intro _ (And.intro rfl ?_)) | (refine And.intro (And.intro rfl (chk_rowI _ _ _ _)) ?_) | (refine br_t (by omega) ?_) | (refine br_f (by omega) ?_) | (refine bs_t (by omega) ?_) | (refine bs_f (by omega) ?_) | (refine fun (K' : K3) hK' => ?_) | (refine hK' _ _ _ ?_; clear hK' K') | (refine draw_auto tok mixed (by kernel_rfl) ?_) | (refine bs_bt (Eq.refl true) ?_) | (refine bs_bf (Eq.refl false) ?_) | (refine br_bt (Eq.refl true) ?_) | (refine br_bf (Eq.refl false) ?_) | (refine CallK.m ?_) | (refine Two.l ?_) | (refine And.intro (And.intro rfl rfl) ?_))
  refine Tri.loop (γ := Nat) (fun n => f + n ≤ l.length) (fun n => [(0, V.c (.sl 0 l.length)), (1, V.i f), (4, V.c (.ptr 1 0)), (5, V.c (.ptr 2 0)), (6, V.c (.ptr 3 0)), (11, V.c (.sl 4 (l.length - f))), (12, V.i (l.length - f : Nat)), (13, V.i (n : Nat))])
    (fun n => [⟨4, .ro 2, jobC (l.drop f)⟩, ⟨0, .ro 2, jobC l⟩, ⟨1, .own 62, [C.i 0, C.i 0, C.i 0]⟩, ⟨2, .own 62, [C.i (runS l f n).2.1, C.i (runS l f n).2.2.1, C.i (runS l f n).2.2.2]⟩, ⟨3, .own 62, [C.i (runS l f n).1.1, C.i (runS l f n).1.2.1, C.i (runS l f n).1.2.2]⟩]) 5 (fun n => l.length - (f + n)) 0 (R0 := []) ?_ ?_ ?_
  · omega
  · skip
    refine ⟨?_, ?_, rfl, rfl, by first | exact Nat.le_of_ble_eq_true rfl | exact Nat.le_refl _ | omega⟩
    · repeat (first | exact trivial | refine And.intro (covS_syn (by first | rfl) rfl (by first | exact trivial | exact Nat.le_of_ble_eq_true rfl | exact hy | exact (fun p hp => nomatch hp) | (show (_ : Nat) < _; omega))) ?_ | refine And.intro (covS_bool rfl rfl (by first | rfl)) ?_)
    · repeat (first | exact trivial | refine And.intro (covE_id (Nat.le_of_ble_eq_true rfl) (by first | exact wf_ints _ _ | exact wf_bools _ _ | first | exact wf_sls _ _ _ (by omega) | exact wf_jobs _ _ | simp [C.wf]) rfl (by first | rfl | (exact jobC_td))) ?_)
  · intro n hn
    refine vc_ok tok ?_
    have hdl : (jobC (l.drop f)).length = 2 * (l.length - f) := by rw [jobC_len]; simp
    by_cases hlt : f + n < l.length
    · have hjb := hj (f + n) hlt
      have hrb := runS_bd (f := f) hj n hn
      cases hab : aboveB (runS l f n).2 ((runS l f n).1.1 + (l.getD (f + n) (0, 0)).1, (runS l f n).1.2.1 + (l.getD (f + n) (0, 0)).2, (f : Int) + (n : Int)) with
      | true =>
        have hR : (runS l f (n + 1)).2 = (runS l f n).2 := if_pos (by rw [← hab]; rfl)
        repeat ((conv => whnf); first | (refine And.intro (by first | omega | exact Nat.le_of_ble_eq_true rfl | (dsimp only [inK]; omega) | (simp only [mulS_eq]; omega) | (simp only [mulS_eq, setL_length]; omega) | (simp only [setL_length, List.length_map]; omega) | exact ⟨by omega, by omega, by first | exact Nat.le_of_ble_eq_true rfl | (dsimp only; omega) | (simp only [setL_length]; omega) | (simp only [setL_length, List.length_map]; omega)⟩ | exact ⟨by omega, by first | rfl | omega, by omega, Nat.le_of_ble_eq_true rfl, Nat.le_of_ble_eq_true rfl⟩ | exact ⟨rfl, rfl, rfl, Nat.le_of_ble_eq_true rfl, by first | rfl | omega | exact Nat.le_of_ble_eq_true rfl | (dsimp only; omega) | (simp; done) | (simp; omega), by first | rfl | omega | exact Nat.le_of_ble_eq_true rfl | (dsimp only; omega) | (simp; done) | (simp; omega), by omega, Nat.le_of_ble_eq_true rfl⟩ | exact Eq.refl true) ?_) | (with_reducible refine ld (jobTd rfl hlt) ?_) | (refine Exists.intro _ (And.intro rfl ?_)) | (refine And.intro (And.intro rfl (chk_rowI _ _ _ _)) ?_) | (refine br_t (by omega) ?_) | (refine br_f (by omega) ?_) | (refine bs_t (by omega) ?_) | (refine bs_f (by omega) ?_) | (refine fun (K' : K3) hK' => ?_) | (refine hK' _ _ _ ?_; clear hK' K') | (refine draw_auto tok mixed (by kernel_rfl) ?_) | (refine CallK.val (R := []) (above_spec (runS l f n).2 ((runS l f n).1.1 + (l.getD (f + n) (0, 0)).1, (runS l f n).1.2.1 + (l.getD (f + n) (0, 0)).2, (f : Int) + (n : Int)) (by omega) (by omega) (by simp only; omega) (by simp only; omega)) (by kernel_rfl) rfl (by simp [V.wf, A.wf, C.wf]) trivial rfl rfl trivial ?_) | (refine br_bf (by rw [hab]; rfl) ?_) | (refine bs_bt (Eq.refl true) ?_) | (refine bs_bf (Eq.refl false) ?_) | (refine br_bt (Eq.refl true) ?_) | (refine br_bf (Eq.refl false) ?_) | (refine CallK.m ?_) | (refine Two.l ?_) | (refine And.intro (And.intro rfl rfl) ?_))
        refine ⟨n + 1, [], by omega, by omega, ?_⟩
        refine ⟨?_, ?_, rfl, rfl, by first | exact Nat.le_of_ble_eq_true rfl | exact Nat.le_refl _ | omega⟩
        · repeat (first | exact trivial | refine And.intro (covS_syn (by first | rfl | (refine congrArg some (congrArg V.i ?_); omega)) rfl (by first | exact trivial | exact Nat.le_of_ble_eq_true rfl | exact hy | exact (fun p hp => nomatch hp) | (show (_ : Nat) < _; omega))) ?_ | refine And.intro (covS_bool rfl rfl (by first | rfl)) ?_)
        · repeat (first | exact trivial | refine And.intro (covE_id (Nat.le_of_ble_eq_true rfl) (by first | exact wf_ints _ _ | exact wf_bools _ _ | first | exact wf_sls _ _ _ (by omega) | exact wf_jobs _ _ | simp [C.wf]) rfl (by first | rfl | (exact (show ([C.i _, C.i _, C.i _] : List C) = [C.i _, C.i _, C.i _] by rw [hR])))) ?_)
      | false =>
        have hR : (runS l f (n + 1)).2 = ((runS l f n).1.1 + (l.getD (f + n) (0, 0)).1, (runS l f n).1.2.1 + (l.getD (f + n) (0, 0)).2, (f : Int) + (n : Int)) := if_neg (fun h => Bool.noConfusion (hab.symm.trans h))
        repeat ((conv => whnf); first | (refine And.intro (by first | omega | exact Nat.le_of_ble_eq_true rfl | (dsimp only [inK]; omega) | (simp only [mulS_eq]; omega) | (simp only [mulS_eq, setL_length]; omega) | (simp only [setL_length, List.length_map]; omega) | exact ⟨by omega, by omega, by first | exact Nat.le_of_ble_eq_true rfl | (dsimp only; omega) | (simp only [setL_length]; omega) | (simp only [setL_length, List.length_map]; omega)⟩ | exact ⟨by omega, by first | rfl | omega, by omega, Nat.le_of_ble_eq_true rfl, Nat.le_of_ble_eq_true rfl⟩ | exact ⟨rfl, rfl, rfl, Nat.le_of_ble_eq_true rfl, by first | rfl | omega | exact Nat.le_of_ble_eq_true rfl | (dsimp only; omega) | (simp; done) | (simp; omega), by first | rfl | omega | exact Nat.le_of_ble_eq_true rfl | (dsimp only; omega) | (simp; done) | (simp; omega), by omega, Nat.le_of_ble_eq_true rfl⟩ | exact Eq.refl true) ?_) | (with_reducible refine ld (jobTd rfl hlt) ?_) | (refine Exists.intro _ (And.intro rfl ?_)) | (refine And.intro (And.intro rfl (chk_rowI _ _ _ _)) ?_) | (refine br_t (by omega) ?_) | (refine br_f (by omega) ?_) | (refine bs_t (by omega) ?_) | (refine bs_f (by omega) ?_) | (refine fun (K' : K3) hK' => ?_) | (refine hK' _ _ _ ?_; clear hK' K') | (refine draw_auto tok mixed (by kernel_rfl) ?_) | (refine CallK.val (R := []) (above_spec (runS l f n).2 ((runS l f n).1.1 + (l.getD (f + n) (0, 0)).1, (runS l f n).1.2.1 + (l.getD (f + n) (0, 0)).2, (f : Int) + (n : Int)) (by omega) (by omega) (by simp only; omega) (by simp only; omega)) (by kernel_rfl) rfl (by simp [V.wf, A.wf, C.wf]) trivial rfl rfl trivial ?_) | (refine br_bt (by rw [hab]; rfl) ?_) | (refine bs_bt (Eq.refl true) ?_) | (refine bs_bf (Eq.refl false) ?_) | (refine br_bt (Eq.refl true) ?_) | (refine br_bf (Eq.refl false) ?_) | (refine CallK.m ?_) | (refine Two.l ?_) | (refine And.intro (And.intro rfl rfl) ?_))
        refine ⟨n + 1, [], by omega, by omega, ?_⟩
        refine ⟨?_, ?_, rfl, rfl, by first | exact Nat.le_of_ble_eq_true rfl | exact Nat.le_refl _ | omega⟩
        · repeat (first | exact trivial | refine And.intro (covS_syn (by first | rfl | (refine congrArg some (congrArg V.i ?_); omega)) rfl (by first | exact trivial | exact Nat.le_of_ble_eq_true rfl | exact hy | exact (fun p hp => nomatch hp) | (show (_ : Nat) < _; omega))) ?_ | refine And.intro (covS_bool rfl rfl (by first | rfl)) ?_)
        · repeat (first | exact trivial | refine And.intro (covE_id (Nat.le_of_ble_eq_true rfl) (by first | exact wf_ints _ _ | exact wf_bools _ _ | first | exact wf_sls _ _ _ (by omega) | exact wf_jobs _ _ | simp [C.wf]) rfl (by first | rfl | (exact (show ([C.i _, C.i _, C.i _] : List C) = [C.i _, C.i _, C.i _] by rw [hR])))) ?_)
    · have hnl : n = l.length - f := by omega
      repeat ((conv => whnf); first | (refine And.intro (by first | omega | exact Nat.le_of_ble_eq_true rfl | (dsimp only [inK]; omega) | (simp only [mulS_eq]; omega) | (simp only [mulS_eq, setL_length]; omega) | (simp only [setL_length, List.length_map]; omega) | exact ⟨by omega, by omega, by first | exact Nat.le_of_ble_eq_true rfl | (dsimp only; omega) | (simp only [setL_length]; omega) | (simp only [setL_length, List.length_map]; omega)⟩ | exact ⟨by omega, by first | rfl | omega, by omega, Nat.le_of_ble_eq_true rfl, Nat.le_of_ble_eq_true rfl⟩ | exact ⟨rfl, rfl, rfl, Nat.le_of_ble_eq_true rfl, by first | rfl | omega | exact Nat.le_of_ble_eq_true rfl | (dsimp only; omega) | (simp; done) | (simp; omega), by first | rfl | omega | exact Nat.le_of_ble_eq_true rfl | (dsimp only; omega) | (simp; done) | (simp; omega), by omega, Nat.le_of_ble_eq_true rfl⟩ | exact Eq.refl true) ?_) | (refine Exists.intro _ (And.intro rfl ?_)) | (refine And.intro (And.intro rfl (chk_rowI _ _ _ _)) ?_) | (refine br_t (by omega) ?_) | (refine br_f (by omega) ?_) | (refine bs_t (by omega) ?_) | (refine bs_f (by omega) ?_) | (refine fun (K' : K3) hK' => ?_) | (refine hK' _ _ _ ?_; clear hK' K') | (refine draw_auto tok mixed (by kernel_rfl) ?_) | (refine bs_bt (Eq.refl true) ?_) | (refine bs_bf (Eq.refl false) ?_) | (refine br_bt (Eq.refl true) ?_) | (refine br_bf (Eq.refl false) ?_) | (refine CallK.m ?_) | (refine Two.l ?_) | (refine And.intro (And.intro rfl rfl) ?_))
      subst hnl
      intro ρ; rfl
end Go.Proofs.Ytjijjncddjkdlaa

/- Shore: the reference's Count and Valid, and Long. -/
namespace Go.Proofs.Ytjijjncddjkdlaa
open Go.RowKit
set_option linter.unusedVariables false
set_option linter.unusedSimpArgs false
theorem count_spec (j : Coast) (hj : Sized j) : Spec Try.prog 56 [V.c (.sl 0 j.length)] [⟨0, .ro 1, slsC 1 j⟩] 32 (Is (V.i (manyN j j.length))) := by
  have hj20 := hj.len
  have hlen := slsC_len (b := 1) (j := j)
  refine Spec.of tok Try.func56 rfl rfl rfl fun n0 cx => vc_ok tok ?_
  repeat ((conv => whnf); first | (refine And.intro (by first | omega | exact Nat.le_of_ble_eq_true rfl | (dsimp only [inK]; omega) | (simp only [mulS_eq]; omega) | (simp only [mulS_eq, setL_length]; omega) | (simp only [setL_length, List.length_map]; omega) | exact ⟨by omega, by omega, by first | exact Nat.le_of_ble_eq_true rfl | (dsimp only; omega) | (simp only [setL_length]; omega) | (simp only [setL_length, List.length_map]; omega)⟩ | exact ⟨by omega, by first | rfl | omega, by omega, Nat.le_of_ble_eq_true rfl, Nat.le_of_ble_eq_true rfl⟩ | exact ⟨rfl, rfl, rfl, Nat.le_of_ble_eq_true rfl, by first | rfl | omega | exact Nat.le_of_ble_eq_true rfl | (dsimp only; omega) | (simp; done) | (simp; omega), by first | rfl | omega | exact Nat.le_of_ble_eq_true rfl | (dsimp only; omega) | (simp; done) | (simp; omega), by omega, Nat.le_of_ble_eq_true rfl⟩ | exact Eq.refl true) ?_) | (refine Exists.intro _ (And.intro rfl ?_)) | (refine And.intro (And.intro rfl (chk_rowI _ _ _ _)) ?_) | (refine br_t (by omega) ?_) | (refine br_f (by omega) ?_) | (refine bs_t (by omega) ?_) | (refine bs_f (by omega) ?_) | (refine fun (K' : K3) hK' => ?_) | (refine hK' _ _ _ ?_; clear hK' K') | (refine draw_auto tok mixed (by kernel_rfl) ?_) | (refine bs_bt (Eq.refl true) ?_) | (refine bs_bf (Eq.refl false) ?_) | (refine br_bt (Eq.refl true) ?_) | (refine br_bf (Eq.refl false) ?_) | (refine CallK.m ?_) | (refine Two.l ?_) | (refine And.intro (And.intro rfl rfl) ?_))
  refine Tri.loop (γ := Nat) (fun k => k ≤ j.length) (fun k => [(0, V.c (.sl 0 j.length)), (4, V.i (k : Nat)), (3, V.i (manyN j k))])
    (fun k => [⟨0, .ro 1, slsC 1 j⟩]) 32 (fun k => j.length - k) 0 (R0 := []) ?_ ?_ ?_
  · omega
  · skip
    refine ⟨?_, ?_, rfl, rfl, by first | exact Nat.le_of_ble_eq_true rfl | exact Nat.le_refl _ | omega⟩
    · repeat (first | exact trivial | refine And.intro (covS_syn (by first | rfl) rfl (by first | exact trivial | exact Nat.le_of_ble_eq_true rfl | exact hy | exact (fun p hp => nomatch hp) | (show (_ : Nat) < _; omega))) ?_ | refine And.intro (covS_bool rfl rfl (by first | rfl)) ?_)
    · repeat (first | exact trivial | refine And.intro (covE_id (Nat.le_of_ble_eq_true rfl) (by first | exact wf_ints _ _ | exact wf_bools _ _ | first | exact wf_sls _ _ _ (by omega) | exact wf_jobs _ _ | simp [C.wf]) rfl (by first | rfl)) ?_)
  · intro k hk
    refine vc_ok tok ?_
    by_cases hlt : k < j.length
    · have h1 := manyN_bd hj.be k hk
      have h2 := hj.be k hlt
      have h3 := manyN_succ hlt
      have h4 : (if (100 : Int) < ((j.getD k []).length : Int) then (100 : Int) else ((j.getD k []).length : Int)) = ((j.getD k []).length : Int) := if_neg (by omega)
      repeat ((conv => whnf); first | (refine And.intro (by first | omega | exact Nat.le_of_ble_eq_true rfl | (dsimp only [inK]; omega) | (simp only [mulS_eq]; omega) | (simp only [mulS_eq, setL_length]; omega) | (simp only [setL_length, List.length_map]; omega) | exact ⟨by omega, by omega, by first | exact Nat.le_of_ble_eq_true rfl | (dsimp only; omega) | (simp only [setL_length]; omega) | (simp only [setL_length, List.length_map]; omega)⟩ | exact ⟨by omega, by first | rfl | omega, by omega, Nat.le_of_ble_eq_true rfl, Nat.le_of_ble_eq_true rfl⟩ | exact ⟨rfl, rfl, rfl, Nat.le_of_ble_eq_true rfl, by first | rfl | omega | exact Nat.le_of_ble_eq_true rfl | (dsimp only; omega) | (simp; done) | (simp; omega), by first | rfl | omega | exact Nat.le_of_ble_eq_true rfl | (dsimp only; omega) | (simp; done) | (simp; omega), by omega, Nat.le_of_ble_eq_true rfl⟩ | exact Eq.refl true) ?_) | (with_reducible refine ld (slL hlt) ?_) | (refine Exists.intro _ (And.intro rfl ?_)) | (refine And.intro (And.intro rfl (chk_rowI _ _ _ _)) ?_) | (refine br_t (by omega) ?_) | (refine br_f (by omega) ?_) | (refine bs_t (by omega) ?_) | (refine bs_f (by omega) ?_) | (refine fun (K' : K3) hK' => ?_) | (refine hK' _ _ _ ?_; clear hK' K') | (refine draw_auto tok mixed (by kernel_rfl) ?_) | (rw [h4]) | (refine bs_bt (Eq.refl true) ?_) | (refine bs_bf (Eq.refl false) ?_) | (refine br_bt (Eq.refl true) ?_) | (refine br_bf (Eq.refl false) ?_) | (refine CallK.m ?_) | (refine Two.l ?_) | (refine And.intro (And.intro rfl rfl) ?_))
      refine ⟨k + 1, [], by omega, by omega, ?_⟩
      refine ⟨?_, ?_, rfl, rfl, by first | exact Nat.le_of_ble_eq_true rfl | exact Nat.le_refl _ | omega⟩
      · repeat (first | exact trivial | refine And.intro (covS_syn (by first | rfl | (refine congrArg some (congrArg V.i ?_); omega)) rfl (by first | exact trivial | exact Nat.le_of_ble_eq_true rfl | exact hy | exact (fun p hp => nomatch hp) | (show (_ : Nat) < _; omega))) ?_ | refine And.intro (covS_bool rfl rfl (by first | rfl)) ?_)
      · repeat (first | exact trivial | refine And.intro (covE_id (Nat.le_of_ble_eq_true rfl) (by first | exact wf_ints _ _ | exact wf_bools _ _ | first | exact wf_sls _ _ _ (by omega) | exact wf_jobs _ _ | simp [C.wf]) rfl (by first | rfl)) ?_)
    · have hk2 : k = j.length := by omega
      subst hk2
      repeat ((conv => whnf); first | (refine And.intro (by first | omega | exact Nat.le_of_ble_eq_true rfl | (dsimp only [inK]; omega) | (simp only [mulS_eq]; omega) | (simp only [mulS_eq, setL_length]; omega) | (simp only [setL_length, List.length_map]; omega) | exact ⟨by omega, by omega, by first | exact Nat.le_of_ble_eq_true rfl | (dsimp only; omega) | (simp only [setL_length]; omega) | (simp only [setL_length, List.length_map]; omega)⟩ | exact ⟨by omega, by first | rfl | omega, by omega, Nat.le_of_ble_eq_true rfl, Nat.le_of_ble_eq_true rfl⟩ | exact ⟨rfl, rfl, rfl, Nat.le_of_ble_eq_true rfl, by first | rfl | omega | exact Nat.le_of_ble_eq_true rfl | (dsimp only; omega) | (simp; done) | (simp; omega), by first | rfl | omega | exact Nat.le_of_ble_eq_true rfl | (dsimp only; omega) | (simp; done) | (simp; omega), by omega, Nat.le_of_ble_eq_true rfl⟩ | exact Eq.refl true) ?_) | (refine Exists.intro _ (And.intro rfl ?_)) | (refine And.intro (And.intro rfl (chk_rowI _ _ _ _)) ?_) | (refine br_t (by omega) ?_) | (refine br_f (by omega) ?_) | (refine bs_t (by omega) ?_) | (refine bs_f (by omega) ?_) | (refine fun (K' : K3) hK' => ?_) | (refine hK' _ _ _ ?_; clear hK' K') | (refine draw_auto tok mixed (by kernel_rfl) ?_) | (refine bs_bt (Eq.refl true) ?_) | (refine bs_bf (Eq.refl false) ?_) | (refine br_bt (Eq.refl true) ?_) | (refine br_bf (Eq.refl false) ?_) | (refine CallK.m ?_) | (refine Two.l ?_) | (refine And.intro (And.intro rfl rfl) ?_))
      intro ρ; rfl
end Go.Proofs.Ytjijjncddjkdlaa

/- Shore: the reference's Valid. -/
namespace Go.Proofs.Ytjijjncddjkdlaa
open Go.RowKit
set_option linter.unusedVariables false
set_option linter.unusedSimpArgs false
theorem bad_true {x : Job} (h : x.1 < 1 ∨ x.1 > 100 ∨ x.2 < 0 ∨ x.2 > 100) : jobBad x = true := by
  simp only [jobBad, Bool.or_eq_true, Bool.not_eq_true', decide_eq_false_iff_not]; omega
theorem bad_false {x : Job} (h : 1 ≤ x.1 ∧ x.1 ≤ 100 ∧ 0 ≤ x.2 ∧ x.2 ≤ 100) : jobBad x = false := by
  simp only [jobBad, Bool.or_eq_false_iff, Bool.not_eq_false', decide_eq_true_eq]; omega
theorem validL_bad {j : Coast} {k m : Nat} (hk : k < j.length) (hm : m < (j.getD k []).length) (h : jobBad ((j.getD k []).getD m (0, 0)) = true) : validL j = false := by
  have : (j.all fun b => !(b.any jobBad)) = false := by
    refine Bool.eq_false_iff.2 fun hh => ?_
    have h1 := List.all_eq_true.1 hh _ (List.getElem_mem hk)
    have e1 : j.getD k [] = j[k] := by rw [List.getD_eq_getElem?_getD, List.getElem?_eq_getElem hk]; rfl
    rw [e1] at h hm
    rw [List.getD_eq_getElem?_getD, List.getElem?_eq_getElem hm] at h
    have h2 : (j[k]).any jobBad = true := List.any_eq_true.2 ⟨_, List.getElem_mem hm, h⟩
    rw [h2] at h1; cases h1
  simp [validL, this]
theorem validL_ok {j : Coast} (h : ∀ k, k < j.length → ∀ m, m < (j.getD k []).length → jobBad ((j.getD k []).getD m (0, 0)) = false) (h1 : 1 ≤ j.length ∧ j.length ≤ 6) (h2 : manyN j j.length ≤ 12) : validL j = true := by
  have : (j.all fun b => !(b.any jobBad)) = true := by
    refine List.all_eq_true.2 fun b hb => ?_
    obtain ⟨k, hk, rfl⟩ := List.mem_iff_getElem.1 hb
    have e1 : j.getD k [] = j[k] := by rw [List.getD_eq_getElem?_getD, List.getElem?_eq_getElem hk]; rfl
    have h3 : (j[k]).any jobBad = false := by
      refine Bool.eq_false_iff.2 fun hh => ?_
      obtain ⟨x, hx, hx2⟩ := List.any_eq_true.1 hh
      obtain ⟨m, hm, rfl⟩ := List.mem_iff_getElem.1 hx
      have := h k hk m (by rw [e1]; exact hm)
      rw [e1, List.getD_eq_getElem?_getD, List.getElem?_eq_getElem hm] at this
      rw [Option.getD_some] at this
      rw [this] at hx2; cases hx2
    rw [h3]; rfl
  simp only [validL, this, Bool.true_and, Bool.and_eq_true, decide_eq_true_eq]
  omega
set_option maxRecDepth 10000 in
theorem rvalid_spec (j : Coast) (hj : Sized j) : Spec Try.prog 18 [V.c (.sl 0 j.length)] (⟨0, .ro 1, slsC 1 j⟩ :: entC 1 j) 32 (Is (V.c (.bool (validL j)))) := by
  have hj20 := hj.len
  have hlen := slsC_len (b := 1) (j := j)
  have hwf : ∀ c ∈ slsC 1 j, c.wf 32 := wf_sls _ _ _ (by omega)
  refine Spec.of tok Try.func18 rfl rfl rfl fun n0 cx => vc_ok tok ?_
  by_cases h1 : (j.length : Int) < 1
  · repeat ((conv => whnf); first | (refine And.intro (by first | omega | exact Nat.le_of_ble_eq_true rfl | (dsimp only [inK]; omega) | (simp only [mulS_eq]; omega) | (simp only [mulS_eq, setL_length]; omega) | (simp only [setL_length, List.length_map]; omega) | exact ⟨by omega, by omega, by first | exact Nat.le_of_ble_eq_true rfl | (dsimp only; omega) | (simp only [setL_length]; omega) | (simp only [setL_length, List.length_map]; omega)⟩ | exact ⟨by omega, by first | rfl | omega, by omega, Nat.le_of_ble_eq_true rfl, Nat.le_of_ble_eq_true rfl⟩ | exact ⟨rfl, rfl, rfl, Nat.le_of_ble_eq_true rfl, by first | rfl | omega | exact Nat.le_of_ble_eq_true rfl | (dsimp only; omega) | (simp; done) | (simp; omega), by first | rfl | omega | exact Nat.le_of_ble_eq_true rfl | (dsimp only; omega) | (simp; done) | (simp; omega), by omega, Nat.le_of_ble_eq_true rfl⟩ | exact Eq.refl true) ?_) | (refine Exists.intro _ (And.intro rfl ?_)) | (refine And.intro (And.intro rfl (chk_rowI _ _ _ _)) ?_) | (refine br_t (by omega) ?_) | (refine br_f (by omega) ?_) | (refine bs_t (by omega) ?_) | (refine bs_f (by omega) ?_) | (refine fun (K' : K3) hK' => ?_) | (refine hK' _ _ _ ?_; clear hK' K') | (refine draw_auto tok mixed (by kernel_rfl) ?_) | (refine bs_bt (Eq.refl true) ?_) | (refine bs_bf (Eq.refl false) ?_) | (refine br_bt (Eq.refl true) ?_) | (refine br_bf (Eq.refl false) ?_) | (refine CallK.m ?_) | (refine Two.l ?_) | (refine And.intro (And.intro rfl rfl) ?_))
    intro ρ; show Value.bool _ = Value.bool _; simp [validL]; omega
  by_cases h6 : (j.length : Int) > 6
  · repeat ((conv => whnf); first | (refine And.intro (by first | omega | exact Nat.le_of_ble_eq_true rfl | (dsimp only [inK]; omega) | (simp only [mulS_eq]; omega) | (simp only [mulS_eq, setL_length]; omega) | (simp only [setL_length, List.length_map]; omega) | exact ⟨by omega, by omega, by first | exact Nat.le_of_ble_eq_true rfl | (dsimp only; omega) | (simp only [setL_length]; omega) | (simp only [setL_length, List.length_map]; omega)⟩ | exact ⟨by omega, by first | rfl | omega, by omega, Nat.le_of_ble_eq_true rfl, Nat.le_of_ble_eq_true rfl⟩ | exact ⟨rfl, rfl, rfl, Nat.le_of_ble_eq_true rfl, by first | rfl | omega | exact Nat.le_of_ble_eq_true rfl | (dsimp only; omega) | (simp; done) | (simp; omega), by first | rfl | omega | exact Nat.le_of_ble_eq_true rfl | (dsimp only; omega) | (simp; done) | (simp; omega), by omega, Nat.le_of_ble_eq_true rfl⟩ | exact Eq.refl true) ?_) | (refine Exists.intro _ (And.intro rfl ?_)) | (refine And.intro (And.intro rfl (chk_rowI _ _ _ _)) ?_) | (refine br_t (by omega) ?_) | (refine br_f (by omega) ?_) | (refine bs_t (by omega) ?_) | (refine bs_f (by omega) ?_) | (refine fun (K' : K3) hK' => ?_) | (refine hK' _ _ _ ?_; clear hK' K') | (refine draw_auto tok mixed (by kernel_rfl) ?_) | (refine bs_bt (Eq.refl true) ?_) | (refine bs_bf (Eq.refl false) ?_) | (refine br_bt (Eq.refl true) ?_) | (refine br_bf (Eq.refl false) ?_) | (refine CallK.m ?_) | (refine Two.l ?_) | (refine And.intro (And.intro rfl rfl) ?_))
    intro ρ; show Value.bool _ = Value.bool _; simp [validL]; omega
  by_cases h12 : (manyN j j.length : Int) > 12
  · repeat ((conv => whnf); first | (refine And.intro (by first | omega | exact Nat.le_of_ble_eq_true rfl | (dsimp only [inK]; omega) | (simp only [mulS_eq]; omega) | (simp only [mulS_eq, setL_length]; omega) | (simp only [setL_length, List.length_map]; omega) | exact ⟨by omega, by omega, by first | exact Nat.le_of_ble_eq_true rfl | (dsimp only; omega) | (simp only [setL_length]; omega) | (simp only [setL_length, List.length_map]; omega)⟩ | exact ⟨by omega, by first | rfl | omega, by omega, Nat.le_of_ble_eq_true rfl, Nat.le_of_ble_eq_true rfl⟩ | exact ⟨rfl, rfl, rfl, Nat.le_of_ble_eq_true rfl, by first | rfl | omega | exact Nat.le_of_ble_eq_true rfl | (dsimp only; omega) | (simp; done) | (simp; omega), by first | rfl | omega | exact Nat.le_of_ble_eq_true rfl | (dsimp only; omega) | (simp; done) | (simp; omega), by omega, Nat.le_of_ble_eq_true rfl⟩ | exact Eq.refl true) ?_) | (refine Exists.intro _ (And.intro rfl ?_)) | (refine And.intro (And.intro rfl (chk_rowI _ _ _ _)) ?_) | (refine br_t (by omega) ?_) | (refine br_f (by omega) ?_) | (refine bs_t (by omega) ?_) | (refine bs_f (by omega) ?_) | (refine fun (K' : K3) hK' => ?_) | (refine hK' _ _ _ ?_; clear hK' K') | (refine draw_auto tok mixed (by kernel_rfl) ?_) | (refine CallK.val (R := []) (count_spec j hj) (by kernel_rfl) rfl (by simp [V.wf, A.wf, C.wf]) ⟨roE_id (by omega) hwf rfl (.inr rfl) rfl, trivial⟩ rfl rfl trivial ?_) | (refine bs_bt (Eq.refl true) ?_) | (refine bs_bf (Eq.refl false) ?_) | (refine br_bt (Eq.refl true) ?_) | (refine br_bf (Eq.refl false) ?_) | (refine CallK.m ?_) | (refine Two.l ?_) | (refine And.intro (And.intro rfl rfl) ?_))
    intro ρ; show Value.bool _ = Value.bool _; simp [validL]; omega
  repeat ((conv => whnf); first | (refine And.intro (by first | omega | exact Nat.le_of_ble_eq_true rfl | (dsimp only [inK]; omega) | (simp only [mulS_eq]; omega) | (simp only [mulS_eq, setL_length]; omega) | (simp only [setL_length, List.length_map]; omega) | exact ⟨by omega, by omega, by first | exact Nat.le_of_ble_eq_true rfl | (dsimp only; omega) | (simp only [setL_length]; omega) | (simp only [setL_length, List.length_map]; omega)⟩ | exact ⟨by omega, by first | rfl | omega, by omega, Nat.le_of_ble_eq_true rfl, Nat.le_of_ble_eq_true rfl⟩ | exact ⟨rfl, rfl, rfl, Nat.le_of_ble_eq_true rfl, by first | rfl | omega | exact Nat.le_of_ble_eq_true rfl | (dsimp only; omega) | (simp; done) | (simp; omega), by first | rfl | omega | exact Nat.le_of_ble_eq_true rfl | (dsimp only; omega) | (simp; done) | (simp; omega), by omega, Nat.le_of_ble_eq_true rfl⟩ | exact Eq.refl true) ?_) | (refine Exists.intro _ (And.intro rfl ?_)) | (refine And.intro (And.intro rfl (chk_rowI _ _ _ _)) ?_) | (refine br_t (by omega) ?_) | (refine br_f (by omega) ?_) | (refine bs_t (by omega) ?_) | (refine bs_f (by omega) ?_) | (refine fun (K' : K3) hK' => ?_) | (refine hK' _ _ _ ?_; clear hK' K') | (refine draw_auto tok mixed (by kernel_rfl) ?_) | (refine CallK.val (R := []) (count_spec j hj) (by kernel_rfl) rfl (by simp [V.wf, A.wf, C.wf]) ⟨roE_id (by omega) hwf rfl (.inr rfl) rfl, trivial⟩ rfl rfl trivial ?_) | (refine bs_bt (Eq.refl true) ?_) | (refine bs_bf (Eq.refl false) ?_) | (refine br_bt (Eq.refl true) ?_) | (refine br_bf (Eq.refl false) ?_) | (refine CallK.m ?_) | (refine Two.l ?_) | (refine And.intro (And.intro rfl rfl) ?_))
  refine Tri.loop (γ := Nat) (fun k => k ≤ j.length ∧ ∀ i, i < k → ∀ m, m < (j.getD i []).length → jobBad ((j.getD i []).getD m (0, 0)) = false) (fun k => [(0, V.c (.sl 0 j.length)), (3, V.i (k : Nat))])
    (fun k => ⟨0, .ro 1, slsC 1 j⟩ :: entC 1 j) 32 (fun k => j.length - k) 0 (R0 := []) ?_ ?_ ?_
  · exact ⟨by omega, by omega⟩
  · skip
    refine ⟨?_, ?_, injB_ent (p := [_]) (by omega) rfl rfl, rfl, by first | exact Nat.le_of_ble_eq_true rfl | exact Nat.le_refl _ | omega⟩
    · repeat (first | exact trivial | refine And.intro (covS_syn (by first | rfl) rfl (by first | exact trivial | exact Nat.le_of_ble_eq_true rfl | exact hy | exact (fun p hp => nomatch hp) | (show (_ : Nat) < _; omega))) ?_ | refine And.intro (covS_bool rfl rfl (by first | rfl)) ?_)
    · repeat (first | exact trivial | (exact covL_ent (by omega) (fun k hk => by (try simp only [flatN]); (repeat (first | rw [find_skip (by omega)] | rw [find_hi (by omega) (by rfl)])))) | refine And.intro (covE_id (Nat.le_of_ble_eq_true rfl) (by first | exact wf_ints _ _ | exact wf_bools _ _ | first | exact wf_sls _ _ _ (by omega) | exact wf_jobs _ _ | simp [C.wf]) rfl (by first | rfl)) ?_)
  · rintro k ⟨hk, hb⟩
    refine vc_ok tok ?_
    by_cases hlt : k < j.length
    · have hbl := hj.be k hlt
      have hjl := jobC_len (j.getD k [])
      repeat ((conv => whnf); first | (refine And.intro (by first | omega | exact Nat.le_of_ble_eq_true rfl | (dsimp only [inK]; omega) | (simp only [mulS_eq]; omega) | (simp only [mulS_eq, setL_length]; omega) | (simp only [setL_length, List.length_map]; omega) | exact ⟨by omega, by omega, by first | exact Nat.le_of_ble_eq_true rfl | (dsimp only; omega) | (simp only [setL_length]; omega) | (simp only [setL_length, List.length_map]; omega)⟩ | exact ⟨by omega, by first | rfl | omega, by omega, Nat.le_of_ble_eq_true rfl, Nat.le_of_ble_eq_true rfl⟩ | exact ⟨rfl, rfl, rfl, Nat.le_of_ble_eq_true rfl, by first | rfl | omega | exact Nat.le_of_ble_eq_true rfl | (dsimp only; omega) | (simp; done) | (simp; omega), by first | rfl | omega | exact Nat.le_of_ble_eq_true rfl | (dsimp only; omega) | (simp; done) | (simp; omega), by omega, Nat.le_of_ble_eq_true rfl⟩ | exact Eq.refl true) ?_) | (with_reducible refine ld (slL hlt) ?_) | (refine Exists.intro _ (And.intro rfl ?_)) | (refine And.intro (And.intro rfl (chk_rowI _ _ _ _)) ?_) | (refine br_t (by omega) ?_) | (refine br_f (by omega) ?_) | (refine bs_t (by omega) ?_) | (refine bs_f (by omega) ?_) | (refine fun (K' : K3) hK' => ?_) | (refine hK' _ _ _ ?_; clear hK' K') | (refine draw_auto tok mixed (by kernel_rfl) ?_) | (refine bs_bt (Eq.refl true) ?_) | (refine bs_bf (Eq.refl false) ?_) | (refine br_bt (Eq.refl true) ?_) | (refine br_bf (Eq.refl false) ?_) | (refine CallK.m ?_) | (refine Two.l ?_) | (refine And.intro (And.intro rfl rfl) ?_))
      refine Tri.loop (γ := Nat) (fun m => m ≤ (j.getD k []).length ∧ ∀ i, i < m → jobBad ((j.getD k []).getD i (0, 0)) = false) (fun m => [(0, V.c (.sl 0 j.length)), (3, V.i (k : Nat)), (4, V.i (m : Nat))])
        (fun m => ⟨0, .ro 1, slsC 1 j⟩ :: entC 1 j) 32 (fun m => (j.getD k []).length - m) 0 (R0 := []) ?_ ?_ ?_
      · exact ⟨by omega, by omega⟩
      · skip
        refine ⟨?_, ?_, injB_ent (p := [_]) (by omega) rfl rfl, rfl, by first | exact Nat.le_of_ble_eq_true rfl | exact Nat.le_refl _ | omega⟩
        · repeat (first | exact trivial | refine And.intro (covS_syn (by first | rfl) rfl (by first | exact trivial | exact Nat.le_of_ble_eq_true rfl | exact hy | exact (fun p hp => nomatch hp) | (show (_ : Nat) < _; omega))) ?_ | refine And.intro (covS_bool rfl rfl (by first | rfl)) ?_)
        · repeat (first | exact trivial | (exact covL_ent (by omega) (fun k hk => by (try simp only [flatN]); (repeat (first | rw [find_skip (by omega)] | rw [find_hi (by omega) (by rfl)])))) | refine And.intro (covE_id (Nat.le_of_ble_eq_true rfl) (by first | exact wf_ints _ _ | exact wf_bools _ _ | first | exact wf_sls _ _ _ (by omega) | exact wf_jobs _ _ | simp [C.wf]) rfl (by first | rfl)) ?_)
      · rintro m ⟨hm, hbm⟩
        refine vc_ok tok ?_
        by_cases hmt : m < (j.getD k []).length
        · by_cases a1 : ((j.getD k []).getD m (0, 0)).1 < 1
          · repeat ((conv => whnf); first | (refine And.intro (by first | omega | exact Nat.le_of_ble_eq_true rfl | (dsimp only [inK]; omega) | (simp only [mulS_eq]; omega) | (simp only [mulS_eq, setL_length]; omega) | (simp only [setL_length, List.length_map]; omega) | exact ⟨by omega, by omega, by first | exact Nat.le_of_ble_eq_true rfl | (dsimp only; omega) | (simp only [setL_length]; omega) | (simp only [setL_length, List.length_map]; omega)⟩ | exact ⟨by omega, by first | rfl | omega, by omega, Nat.le_of_ble_eq_true rfl, Nat.le_of_ble_eq_true rfl⟩ | exact ⟨rfl, rfl, rfl, Nat.le_of_ble_eq_true rfl, by first | rfl | omega | exact Nat.le_of_ble_eq_true rfl | (dsimp only; omega) | (simp; done) | (simp; omega), by first | rfl | omega | exact Nat.le_of_ble_eq_true rfl | (dsimp only; omega) | (simp; done) | (simp; omega), by omega, Nat.le_of_ble_eq_true rfl⟩ | exact Eq.refl true) ?_) | (with_reducible refine ld (slL hlt) ?_) | (with_reducible refine ld (jobT rfl hmt) ?_) | (refine Exists.intro _ (And.intro rfl ?_)) | (refine And.intro (And.intro rfl (chk_rowI _ _ _ _)) ?_) | (refine br_t (by omega) ?_) | (refine br_f (by omega) ?_) | (refine bs_t (by omega) ?_) | (refine bs_f (by omega) ?_) | (refine fun (K' : K3) hK' => ?_) | (refine hK' _ _ _ ?_; clear hK' K') | (refine draw_auto tok mixed (by kernel_rfl) ?_) | (refine onV_ld (c := ⟨1 + k, .ro 2, jobC (j.getD k [])⟩) (by ((try (conv => lhs; arg 1; whnf)); (repeat (first | rw [find_skip (by omega)] | rw [find_hi (by omega) (by rfl)])); exact entC_find hlt)) ?_) | (with_reducible refine updK_ent (by omega) ?_) | (refine bs_bt (Eq.refl true) ?_) | (refine bs_bf (Eq.refl false) ?_) | (refine br_bt (Eq.refl true) ?_) | (refine br_bf (Eq.refl false) ?_) | (refine CallK.m ?_) | (refine Two.l ?_) | (refine And.intro (And.intro rfl rfl) ?_))
            intro ρ; show Value.bool _ = Value.bool _; rw [validL_bad hlt hmt (bad_true (by omega))]
          by_cases a2 : ((j.getD k []).getD m (0, 0)).1 > 100
          · repeat ((conv => whnf); first | (refine And.intro (by first | omega | exact Nat.le_of_ble_eq_true rfl | (dsimp only [inK]; omega) | (simp only [mulS_eq]; omega) | (simp only [mulS_eq, setL_length]; omega) | (simp only [setL_length, List.length_map]; omega) | exact ⟨by omega, by omega, by first | exact Nat.le_of_ble_eq_true rfl | (dsimp only; omega) | (simp only [setL_length]; omega) | (simp only [setL_length, List.length_map]; omega)⟩ | exact ⟨by omega, by first | rfl | omega, by omega, Nat.le_of_ble_eq_true rfl, Nat.le_of_ble_eq_true rfl⟩ | exact ⟨rfl, rfl, rfl, Nat.le_of_ble_eq_true rfl, by first | rfl | omega | exact Nat.le_of_ble_eq_true rfl | (dsimp only; omega) | (simp; done) | (simp; omega), by first | rfl | omega | exact Nat.le_of_ble_eq_true rfl | (dsimp only; omega) | (simp; done) | (simp; omega), by omega, Nat.le_of_ble_eq_true rfl⟩ | exact Eq.refl true) ?_) | (with_reducible refine ld (slL hlt) ?_) | (with_reducible refine ld (jobT rfl hmt) ?_) | (refine Exists.intro _ (And.intro rfl ?_)) | (refine And.intro (And.intro rfl (chk_rowI _ _ _ _)) ?_) | (refine br_t (by omega) ?_) | (refine br_f (by omega) ?_) | (refine bs_t (by omega) ?_) | (refine bs_f (by omega) ?_) | (refine fun (K' : K3) hK' => ?_) | (refine hK' _ _ _ ?_; clear hK' K') | (refine draw_auto tok mixed (by kernel_rfl) ?_) | (refine onV_ld (c := ⟨1 + k, .ro 2, jobC (j.getD k [])⟩) (by ((try (conv => lhs; arg 1; whnf)); (repeat (first | rw [find_skip (by omega)] | rw [find_hi (by omega) (by rfl)])); exact entC_find hlt)) ?_) | (with_reducible refine updK_ent (by omega) ?_) | (refine bs_bt (Eq.refl true) ?_) | (refine bs_bf (Eq.refl false) ?_) | (refine br_bt (Eq.refl true) ?_) | (refine br_bf (Eq.refl false) ?_) | (refine CallK.m ?_) | (refine Two.l ?_) | (refine And.intro (And.intro rfl rfl) ?_))
            intro ρ; show Value.bool _ = Value.bool _; rw [validL_bad hlt hmt (bad_true (by omega))]
          by_cases a3 : ((j.getD k []).getD m (0, 0)).2 < 0
          · repeat ((conv => whnf); first | (refine And.intro (by first | omega | exact Nat.le_of_ble_eq_true rfl | (dsimp only [inK]; omega) | (simp only [mulS_eq]; omega) | (simp only [mulS_eq, setL_length]; omega) | (simp only [setL_length, List.length_map]; omega) | exact ⟨by omega, by omega, by first | exact Nat.le_of_ble_eq_true rfl | (dsimp only; omega) | (simp only [setL_length]; omega) | (simp only [setL_length, List.length_map]; omega)⟩ | exact ⟨by omega, by first | rfl | omega, by omega, Nat.le_of_ble_eq_true rfl, Nat.le_of_ble_eq_true rfl⟩ | exact ⟨rfl, rfl, rfl, Nat.le_of_ble_eq_true rfl, by first | rfl | omega | exact Nat.le_of_ble_eq_true rfl | (dsimp only; omega) | (simp; done) | (simp; omega), by first | rfl | omega | exact Nat.le_of_ble_eq_true rfl | (dsimp only; omega) | (simp; done) | (simp; omega), by omega, Nat.le_of_ble_eq_true rfl⟩ | exact Eq.refl true) ?_) | (with_reducible refine ld (slL hlt) ?_) | (with_reducible refine ld (jobT rfl hmt) ?_) | (refine Exists.intro _ (And.intro rfl ?_)) | (refine And.intro (And.intro rfl (chk_rowI _ _ _ _)) ?_) | (refine br_t (by omega) ?_) | (refine br_f (by omega) ?_) | (refine bs_t (by omega) ?_) | (refine bs_f (by omega) ?_) | (refine fun (K' : K3) hK' => ?_) | (refine hK' _ _ _ ?_; clear hK' K') | (refine draw_auto tok mixed (by kernel_rfl) ?_) | (refine onV_ld (c := ⟨1 + k, .ro 2, jobC (j.getD k [])⟩) (by ((try (conv => lhs; arg 1; whnf)); (repeat (first | rw [find_skip (by omega)] | rw [find_hi (by omega) (by rfl)])); exact entC_find hlt)) ?_) | (with_reducible refine updK_ent (by omega) ?_) | (refine bs_bt (Eq.refl true) ?_) | (refine bs_bf (Eq.refl false) ?_) | (refine br_bt (Eq.refl true) ?_) | (refine br_bf (Eq.refl false) ?_) | (refine CallK.m ?_) | (refine Two.l ?_) | (refine And.intro (And.intro rfl rfl) ?_))
            intro ρ; show Value.bool _ = Value.bool _; rw [validL_bad hlt hmt (bad_true (by omega))]
          by_cases a4 : ((j.getD k []).getD m (0, 0)).2 > 100
          · repeat ((conv => whnf); first | (refine And.intro (by first | omega | exact Nat.le_of_ble_eq_true rfl | (dsimp only [inK]; omega) | (simp only [mulS_eq]; omega) | (simp only [mulS_eq, setL_length]; omega) | (simp only [setL_length, List.length_map]; omega) | exact ⟨by omega, by omega, by first | exact Nat.le_of_ble_eq_true rfl | (dsimp only; omega) | (simp only [setL_length]; omega) | (simp only [setL_length, List.length_map]; omega)⟩ | exact ⟨by omega, by first | rfl | omega, by omega, Nat.le_of_ble_eq_true rfl, Nat.le_of_ble_eq_true rfl⟩ | exact ⟨rfl, rfl, rfl, Nat.le_of_ble_eq_true rfl, by first | rfl | omega | exact Nat.le_of_ble_eq_true rfl | (dsimp only; omega) | (simp; done) | (simp; omega), by first | rfl | omega | exact Nat.le_of_ble_eq_true rfl | (dsimp only; omega) | (simp; done) | (simp; omega), by omega, Nat.le_of_ble_eq_true rfl⟩ | exact Eq.refl true) ?_) | (with_reducible refine ld (slL hlt) ?_) | (with_reducible refine ld (jobT rfl hmt) ?_) | (refine Exists.intro _ (And.intro rfl ?_)) | (refine And.intro (And.intro rfl (chk_rowI _ _ _ _)) ?_) | (refine br_t (by omega) ?_) | (refine br_f (by omega) ?_) | (refine bs_t (by omega) ?_) | (refine bs_f (by omega) ?_) | (refine fun (K' : K3) hK' => ?_) | (refine hK' _ _ _ ?_; clear hK' K') | (refine draw_auto tok mixed (by kernel_rfl) ?_) | (refine onV_ld (c := ⟨1 + k, .ro 2, jobC (j.getD k [])⟩) (by ((try (conv => lhs; arg 1; whnf)); (repeat (first | rw [find_skip (by omega)] | rw [find_hi (by omega) (by rfl)])); exact entC_find hlt)) ?_) | (with_reducible refine updK_ent (by omega) ?_) | (refine bs_bt (Eq.refl true) ?_) | (refine bs_bf (Eq.refl false) ?_) | (refine br_bt (Eq.refl true) ?_) | (refine br_bf (Eq.refl false) ?_) | (refine CallK.m ?_) | (refine Two.l ?_) | (refine And.intro (And.intro rfl rfl) ?_))
            intro ρ; show Value.bool _ = Value.bool _; rw [validL_bad hlt hmt (bad_true (by omega))]
          have hgood : jobBad ((j.getD k []).getD m (0, 0)) = false := bad_false (by omega)
          repeat ((conv => whnf); first | (refine And.intro (by first | omega | exact Nat.le_of_ble_eq_true rfl | (dsimp only [inK]; omega) | (simp only [mulS_eq]; omega) | (simp only [mulS_eq, setL_length]; omega) | (simp only [setL_length, List.length_map]; omega) | exact ⟨by omega, by omega, by first | exact Nat.le_of_ble_eq_true rfl | (dsimp only; omega) | (simp only [setL_length]; omega) | (simp only [setL_length, List.length_map]; omega)⟩ | exact ⟨by omega, by first | rfl | omega, by omega, Nat.le_of_ble_eq_true rfl, Nat.le_of_ble_eq_true rfl⟩ | exact ⟨rfl, rfl, rfl, Nat.le_of_ble_eq_true rfl, by first | rfl | omega | exact Nat.le_of_ble_eq_true rfl | (dsimp only; omega) | (simp; done) | (simp; omega), by first | rfl | omega | exact Nat.le_of_ble_eq_true rfl | (dsimp only; omega) | (simp; done) | (simp; omega), by omega, Nat.le_of_ble_eq_true rfl⟩ | exact Eq.refl true) ?_) | (with_reducible refine ld (slL hlt) ?_) | (with_reducible refine ld (jobT rfl hmt) ?_) | (refine Exists.intro _ (And.intro rfl ?_)) | (refine And.intro (And.intro rfl (chk_rowI _ _ _ _)) ?_) | (refine br_t (by omega) ?_) | (refine br_f (by omega) ?_) | (refine bs_t (by omega) ?_) | (refine bs_f (by omega) ?_) | (refine fun (K' : K3) hK' => ?_) | (refine hK' _ _ _ ?_; clear hK' K') | (refine draw_auto tok mixed (by kernel_rfl) ?_) | (refine onV_ld (c := ⟨1 + k, .ro 2, jobC (j.getD k [])⟩) (by ((try (conv => lhs; arg 1; whnf)); (repeat (first | rw [find_skip (by omega)] | rw [find_hi (by omega) (by rfl)])); exact entC_find hlt)) ?_) | (with_reducible refine updK_ent (by omega) ?_) | (refine bs_bt (Eq.refl true) ?_) | (refine bs_bf (Eq.refl false) ?_) | (refine br_bt (Eq.refl true) ?_) | (refine br_bf (Eq.refl false) ?_) | (refine CallK.m ?_) | (refine Two.l ?_) | (refine And.intro (And.intro rfl rfl) ?_))
          refine ⟨m + 1, [], ⟨by omega, fun i hi => ?_⟩, by omega, ?_⟩
          · by_cases h : i = m
            · rw [h]; exact hgood
            · exact hbm i (by omega)
          refine ⟨?_, ?_, injB_ent (p := [_]) (by omega) rfl rfl, rfl, by first | exact Nat.le_of_ble_eq_true rfl | exact Nat.le_refl _ | omega⟩
          · repeat (first | exact trivial | refine And.intro (covS_syn (by first | rfl | (refine congrArg some (congrArg V.i ?_); omega)) rfl (by first | exact trivial | exact Nat.le_of_ble_eq_true rfl | exact hy | exact (fun p hp => nomatch hp) | (show (_ : Nat) < _; omega))) ?_ | refine And.intro (covS_bool rfl rfl (by first | rfl)) ?_)
          · repeat (first | exact trivial | (exact covL_ent (by omega) (fun k hk => by (try simp only [flatN]); (repeat (first | rw [find_skip (by omega)] | rw [find_hi (by omega) (by rfl)])))) | refine And.intro (covE_id (Nat.le_of_ble_eq_true rfl) (by first | exact wf_ints _ _ | exact wf_bools _ _ | first | exact wf_sls _ _ _ (by omega) | exact wf_jobs _ _ | simp [C.wf]) rfl (by first | rfl)) ?_)
        · have hml : m = (j.getD k []).length := by omega
          subst hml
          repeat ((conv => whnf); first | (refine And.intro (by first | omega | exact Nat.le_of_ble_eq_true rfl | (dsimp only [inK]; omega) | (simp only [mulS_eq]; omega) | (simp only [mulS_eq, setL_length]; omega) | (simp only [setL_length, List.length_map]; omega) | exact ⟨by omega, by omega, by first | exact Nat.le_of_ble_eq_true rfl | (dsimp only; omega) | (simp only [setL_length]; omega) | (simp only [setL_length, List.length_map]; omega)⟩ | exact ⟨by omega, by first | rfl | omega, by omega, Nat.le_of_ble_eq_true rfl, Nat.le_of_ble_eq_true rfl⟩ | exact ⟨rfl, rfl, rfl, Nat.le_of_ble_eq_true rfl, by first | rfl | omega | exact Nat.le_of_ble_eq_true rfl | (dsimp only; omega) | (simp; done) | (simp; omega), by first | rfl | omega | exact Nat.le_of_ble_eq_true rfl | (dsimp only; omega) | (simp; done) | (simp; omega), by omega, Nat.le_of_ble_eq_true rfl⟩ | exact Eq.refl true) ?_) | (with_reducible refine ld (slL hlt) ?_) | (refine Exists.intro _ (And.intro rfl ?_)) | (refine And.intro (And.intro rfl (chk_rowI _ _ _ _)) ?_) | (refine br_t (by omega) ?_) | (refine br_f (by omega) ?_) | (refine bs_t (by omega) ?_) | (refine bs_f (by omega) ?_) | (refine fun (K' : K3) hK' => ?_) | (refine hK' _ _ _ ?_; clear hK' K') | (refine draw_auto tok mixed (by kernel_rfl) ?_) | (refine bs_bt (Eq.refl true) ?_) | (refine bs_bf (Eq.refl false) ?_) | (refine br_bt (Eq.refl true) ?_) | (refine br_bf (Eq.refl false) ?_) | (refine CallK.m ?_) | (refine Two.l ?_) | (refine And.intro (And.intro rfl rfl) ?_))
          refine ⟨k + 1, [], ⟨by omega, fun i hi => ?_⟩, by omega, ?_⟩
          · by_cases h : i = k
            · rw [h]; exact hbm
            · exact hb i (by omega)
          refine ⟨?_, ?_, injB_ent (p := [_]) (by omega) rfl rfl, rfl, by first | exact Nat.le_of_ble_eq_true rfl | exact Nat.le_refl _ | omega⟩
          · repeat (first | exact trivial | refine And.intro (covS_syn (by first | rfl | (refine congrArg some (congrArg V.i ?_); omega)) rfl (by first | exact trivial | exact Nat.le_of_ble_eq_true rfl | exact hy | exact (fun p hp => nomatch hp) | (show (_ : Nat) < _; omega))) ?_ | refine And.intro (covS_bool rfl rfl (by first | rfl)) ?_)
          · repeat (first | exact trivial | (exact covL_ent (by omega) (fun k hk => by (try simp only [flatN]); (repeat (first | rw [find_skip (by omega)] | rw [find_hi (by omega) (by rfl)])))) | refine And.intro (covE_id (Nat.le_of_ble_eq_true rfl) (by first | exact wf_ints _ _ | exact wf_bools _ _ | first | exact wf_sls _ _ _ (by omega) | exact wf_jobs _ _ | simp [C.wf]) rfl (by first | rfl)) ?_)
    · have hkl : k = j.length := by omega
      subst hkl
      repeat ((conv => whnf); first | (refine And.intro (by first | omega | exact Nat.le_of_ble_eq_true rfl | (dsimp only [inK]; omega) | (simp only [mulS_eq]; omega) | (simp only [mulS_eq, setL_length]; omega) | (simp only [setL_length, List.length_map]; omega) | exact ⟨by omega, by omega, by first | exact Nat.le_of_ble_eq_true rfl | (dsimp only; omega) | (simp only [setL_length]; omega) | (simp only [setL_length, List.length_map]; omega)⟩ | exact ⟨by omega, by first | rfl | omega, by omega, Nat.le_of_ble_eq_true rfl, Nat.le_of_ble_eq_true rfl⟩ | exact ⟨rfl, rfl, rfl, Nat.le_of_ble_eq_true rfl, by first | rfl | omega | exact Nat.le_of_ble_eq_true rfl | (dsimp only; omega) | (simp; done) | (simp; omega), by first | rfl | omega | exact Nat.le_of_ble_eq_true rfl | (dsimp only; omega) | (simp; done) | (simp; omega), by omega, Nat.le_of_ble_eq_true rfl⟩ | exact Eq.refl true) ?_) | (refine Exists.intro _ (And.intro rfl ?_)) | (refine And.intro (And.intro rfl (chk_rowI _ _ _ _)) ?_) | (refine br_t (by omega) ?_) | (refine br_f (by omega) ?_) | (refine bs_t (by omega) ?_) | (refine bs_f (by omega) ?_) | (refine fun (K' : K3) hK' => ?_) | (refine hK' _ _ _ ?_; clear hK' K') | (refine draw_auto tok mixed (by kernel_rfl) ?_) | (refine bs_bt (Eq.refl true) ?_) | (refine bs_bf (Eq.refl false) ?_) | (refine br_bt (Eq.refl true) ?_) | (refine br_bf (Eq.refl false) ?_) | (refine CallK.m ?_) | (refine Two.l ?_) | (refine And.intro (And.intro rfl rfl) ?_))
      intro ρ; show Value.bool _ = Value.bool _; rw [validL_ok hb (by omega) (by omega)]
end Go.Proofs.Ytjijjncddjkdlaa

/- Shore: all hours. -/
namespace Go.Proofs.Ytjijjncddjkdlaa
open Go.RowKit
set_option linter.unusedVariables false
set_option linter.unusedSimpArgs false
theorem validL_coast {j : Coast} (hj : Sized j) (hv : validL j = true) : CoastOk j := by
  refine ⟨hj.len, fun b hb => ⟨fun k hk => ?_, hj.be b hb⟩⟩
  have hg : jobBad ((j.getD b []).getD k (0, 0)) = false := by
    refine Bool.eq_false_iff.2 fun h => ?_
    rw [validL_bad hb hk h] at hv; cases hv
  simp only [jobBad, Bool.or_eq_false_iff, Bool.not_eq_false', decide_eq_true_eq] at hg
  omega
def hoursB (l : List Job) : Nat → Int
  | 0 => 0
  | m + 1 => hoursB l m + (l.getD m (0, 0)).1
def hoursC (j : Coast) : Nat → Int
  | 0 => 0
  | k + 1 => hoursC j k + hoursB (j.getD k []) (j.getD k []).length
end Go.Proofs.Ytjijjncddjkdlaa

/- Shore: Hours. -/
namespace Go.Proofs.Ytjijjncddjkdlaa
open Go.RowKit
set_option linter.unusedVariables false
set_option linter.unusedSimpArgs false
/-- What the functions that hand over a number and an error give. -/
def numE (ok : Bool) (n : Int) : V := if ok then .tup [.c (.i n), .c (.i 0)] else .tup [.c (.i 0), .c (.i 60)]
theorem hasC0 {j : Coast} (hj : Sized j) : HasC (⟨0, .ro 1, slsC 1 j⟩ :: entC 1 j) j := ⟨rfl, fun k hk => by rw [find_skip (by omega)]; exact entC_find hk⟩
end Go.Proofs.Ytjijjncddjkdlaa

/- Shore: isOrder. -/
namespace Go.Proofs.Ytjijjncddjkdlaa
open Go.RowKit
set_option linter.unusedVariables false
set_option linter.unusedSimpArgs false
def goodAt (j : Coast) (o : List Int) (i : Nat) : Bool := decide (0 ≤ o.getD i 0 ∧ o.getD i 0 ≤ (j.length : Int) - 1) && decide (cntO o i (beachO o i) < (j.getD (beachO o i) []).length)
def isOrdB (j : Coast) (o : List Int) : Bool := decide (o.length ≤ 100) && (List.range o.length).all (goodAt j o) && decide ((o.length : Int) = (manyN j j.length : Int))
/-- What is left of each beach, once its first k have been set. -/
def left1 (j : Coast) (k : Nat) : List Int := (List.range j.length).map fun b => if b < k then ((j.getD b []).length : Int) else 0
def left2 (j : Coast) (o : List Int) (i : Nat) : List Int := (List.range j.length).map fun b => ((j.getD b []).length : Int) - (cntO o i b : Int)
theorem goodAt_b {j : Coast} {o : List Int} {i : Nat} (h : goodAt j o i = true) : o.getD i 0 = beachO o i ∧ beachO o i < j.length ∧ cntO o i (beachO o i) < (j.getD (beachO o i) []).length := by
  simp only [goodAt, Bool.and_eq_true, decide_eq_true_eq] at h
  have : o.getD i 0 = beachO o i := by unfold beachO; omega
  exact ⟨this, by omega, h.2⟩
theorem cnt_le {j : Coast} {o : List Int} {b : Nat} : ∀ {i : Nat}, i ≤ o.length → (∀ m, m < i → goodAt j o m = true) → cntO o i b ≤ (j.getD b []).length
  | 0, _, _ => by simp [cntO]
  | i + 1, hi, h => by
    have ih := cnt_le (b := b) (i := i) (by omega) (fun m hm => h m (by omega))
    obtain ⟨g1, g2, g3⟩ := goodAt_b (h i (by omega))
    have h3 := cntO_succ (o := o) (b := b) (show i < o.length by omega)
    by_cases hb : o.getD i 0 = (b : Int)
    · have : beachO o i = b := by rw [hb] at g1; omega
      rw [this] at g3
      rw [if_pos hb] at h3; omega
    · rw [if_neg hb] at h3; omega
end Go.Proofs.Ytjijjncddjkdlaa

/- Shore: harm, a range over a function. -/
namespace Go.Proofs.Ytjijjncddjkdlaa
open Go.RowKit
set_option linter.unusedVariables false
set_option linter.unusedSimpArgs false
set_option maxRecDepth 10000 in
theorem harm_spec (j : Coast) (o : List Int) (hj : CoastOk j) (ho : OrdOk j o) : Spec Try.prog 57 [V.c (.sl 0 j.length), V.c (.sl 21 o.length)] (⟨0, .ro 1, slsC 1 j⟩ :: ⟨21, .ro 0, o.map C.i⟩ :: entC 1 j) 32 (Is (V.i (harmO j o o.length))) := by
  have hj20 := hj.len
  have ho100 := ho.len
  have hsl := slsC_len (b := 1) (j := j)
  refine Spec.of tok Try.func57 rfl rfl rfl fun n0 cx => vc_ok tok ?_
  repeat ((conv => whnf); first | (refine And.intro (by first | omega | exact Nat.le_of_ble_eq_true rfl | (dsimp only [inK]; omega) | (simp only [mulS_eq]; omega) | (simp only [mulS_eq, setL_length]; omega) | (simp only [setL_length, List.length_map]; omega) | exact ⟨by omega, by omega, by first | exact Nat.le_of_ble_eq_true rfl | (dsimp only; omega) | (simp only [setL_length]; omega) | (simp only [setL_length, List.length_map]; omega)⟩ | exact ⟨by omega, by first | rfl | omega, by omega, Nat.le_of_ble_eq_true rfl, Nat.le_of_ble_eq_true rfl⟩ | exact ⟨rfl, rfl, rfl, Nat.le_of_ble_eq_true rfl, by first | rfl | omega | exact Nat.le_of_ble_eq_true rfl | (dsimp only; omega) | (simp; done) | (simp; omega), by first | rfl | omega | exact Nat.le_of_ble_eq_true rfl | (dsimp only; omega) | (simp; done) | (simp; omega), by omega, Nat.le_of_ble_eq_true rfl⟩ | exact Eq.refl true) ?_) | (refine Exists.intro _ (And.intro rfl ?_)) | (refine And.intro (And.intro rfl (chk_rowI _ _ _ _)) ?_) | (refine br_t (by omega) ?_) | (refine br_f (by omega) ?_) | (refine bs_t (by omega) ?_) | (refine bs_f (by omega) ?_) | (refine fun (K' : K3) hK' => ?_) | (refine hK' _ _ _ ?_; clear hK' K') | (refine CallM.eq (by kernel_rfl) (visits_spec _ _ _ _ _ _) ?_) | (refine draw_auto tok mixed (by kernel_rfl) ?_) | (with_reducible refine updK_ent (by omega) ?_) | (refine bs_bt (Eq.refl true) ?_) | (refine bs_bf (Eq.refl false) ?_) | (refine br_bt (Eq.refl true) ?_) | (refine br_bf (Eq.refl false) ?_) | (refine CallK.m ?_) | (refine Two.l ?_) | (refine And.intro (And.intro rfl rfl) ?_))
  refine Tri.rangeFunc tok (by exact rfl) (by kernel_rfl) (by exact rfl) (by exact rfl) (by exact rfl) (by exact rfl) (by exact rfl) (by exact rfl) ?_
  intro y cxi oo ob od hy hY
  refine vc_ok tok ?_
  repeat ((conv => whnf); first | (refine And.intro (by first | omega | exact Nat.le_of_ble_eq_true rfl | (dsimp only [inK]; omega) | (simp only [mulS_eq]; omega) | (simp only [mulS_eq, setL_length]; omega) | (simp only [setL_length, List.length_map]; omega) | exact ⟨by omega, by omega, by first | exact Nat.le_of_ble_eq_true rfl | (dsimp only; omega) | (simp only [setL_length]; omega) | (simp only [setL_length, List.length_map]; omega)⟩ | exact ⟨by omega, by first | rfl | omega, by omega, Nat.le_of_ble_eq_true rfl, Nat.le_of_ble_eq_true rfl⟩ | exact ⟨rfl, rfl, rfl, Nat.le_of_ble_eq_true rfl, by first | rfl | omega | exact Nat.le_of_ble_eq_true rfl | (dsimp only; omega) | (simp; done) | (simp; omega), by first | rfl | omega | exact Nat.le_of_ble_eq_true rfl | (dsimp only; omega) | (simp; done) | (simp; omega), by omega, Nat.le_of_ble_eq_true rfl⟩ | exact Eq.refl true) ?_) | (refine Exists.intro _ (And.intro rfl ?_)) | (refine And.intro (And.intro rfl (chk_rowI _ _ _ _)) ?_) | (refine br_t (by omega) ?_) | (refine br_f (by omega) ?_) | (refine bs_t (by omega) ?_) | (refine bs_f (by omega) ?_) | (refine fun (K' : K3) hK' => ?_) | (refine hK' _ _ _ ?_; clear hK' K') | (refine draw_auto tok mixed (by kernel_rfl) ?_) | (refine bs_bt (Eq.refl true) ?_) | (refine bs_bf (Eq.refl false) ?_) | (refine br_bt (Eq.refl true) ?_) | (refine br_bf (Eq.refl false) ?_) | (refine CallK.m ?_) | (refine Two.l ?_) | (refine And.intro (And.intro rfl rfl) ?_))
  refine Tri.loop (γ := Nat) (fun i => i ≤ o.length) (fun i => [(0, V.c (.v y)), (1, V.c (.ptr 33 0)), (2, V.c (.ptr 34 0)), (4, V.c (.sl 36 j.length)), (5, V.i (hourO j o i)), (12, V.c (.sl 21 o.length)), (13, V.i o.length), (14, V.i (i : Nat))])
    (fun i => ⟨36, .vec 3 1, (nextO j o i).map C.i⟩ :: ⟨35, .obj oo, []⟩ :: ⟨34, .own 35, [.sl 21 o.length]⟩ :: ⟨33, .own 57, [.sl 0 j.length]⟩ :: ⟨32, .own 3, [C.i (harmO j o i)]⟩ :: ⟨0, .ro 1, slsC 1 j⟩ :: ⟨21, .ro 0, o.map C.i⟩ :: entC 1 j) 37 (fun i => o.length - i) 0 (R0 := []) ?_ ?_ ?_
  · omega
  · skip
    refine ⟨?_, ?_, injB_ent (p := [_, _, _, _, _, _, _]) (by omega) rfl rfl, rfl, by first | exact Nat.le_of_ble_eq_true rfl | exact Nat.le_refl _ | omega⟩
    · repeat (first | exact trivial | refine And.intro (covS_syn (by first | rfl) rfl (by first | exact trivial | exact Nat.le_of_ble_eq_true rfl | exact hy | exact (fun p hp => nomatch hp) | (show (_ : Nat) < _; omega))) ?_ | refine And.intro (covS_bool rfl rfl (by first | rfl)) ?_)
    · repeat (first | exact trivial | (exact covL_ent (by omega) (fun k hk => by (try simp only [flatN]); (repeat (first | rw [find_skip (by omega)] | rw [find_hi (by omega) (by rfl)])))) | refine And.intro (covE_id (Nat.le_of_ble_eq_true rfl) (by first | exact wf_ints _ _ | exact wf_bools _ _ | first | exact wf_sls _ _ _ (by omega) | exact wf_jobs _ _ | simp [C.wf]) rfl (by first | rfl | (exact nextO_zero))) ?_)
  · intro i hi
    refine vc_ok tok ?_
    by_cases hlt : i < o.length
    · obtain ⟨hb1, hb2⟩ := ho.beach i hlt
      have hpl := ho.place i hlt
      have hnl := nextO_len (j := j) (o := o) (i := i)
      have hnm : ((nextO j o i).map C.i).length = j.length := by simp [hnl]
      have hom : (o.map C.i).length = o.length := by simp
      have hjl := jobC_len (j.getD (beachO o i) [])
      have hjb := jobO_bd hj ho hlt
      have hhb := hourO_bd hj ho i hi
      have hhs : hourO j o (i + 1) = hourO j o i + ((j.getD (beachO o i) []).getD (cntO o i (beachO o i)) (0, 0)).1 := rfl
      have hms : harmO j o (i + 1) = harmO j o i + ((j.getD (beachO o i) []).getD (cntO o i (beachO o i)) (0, 0)).2 * hourO j o (i + 1) := rfl
      have hmb := harmO_bd hj ho (i + 1) hlt
      have hmb0 := harmO_bd hj ho i hi
      unfold jobO at hjb
      have hh1 := hourO_bd hj ho (i + 1) hlt
      have hmul := mul_bd (A := 100) (B := 10000) hjb.2.2.1 hjb.2.2.2 hh1.1 (by omega)
      rw [hhs] at hmul
      have hcn : (cntO o i (beachO o i) : Int) ≤ 100 := by have := (hj.jobs _ hb2).2; omega
      repeat ((conv => whnf); first | (refine And.intro (by first | omega | exact Nat.le_of_ble_eq_true rfl | (dsimp only [inK]; omega) | (simp only [mulS_eq]; omega) | (simp only [mulS_eq, setL_length]; omega) | (simp only [setL_length, List.length_map]; omega) | exact ⟨by omega, by omega, by first | exact Nat.le_of_ble_eq_true rfl | (dsimp only; omega) | (simp only [setL_length]; omega) | (simp only [setL_length, List.length_map]; omega)⟩ | exact ⟨by omega, by first | rfl | omega, by omega, Nat.le_of_ble_eq_true rfl, Nat.le_of_ble_eq_true rfl⟩ | exact ⟨rfl, rfl, rfl, Nat.le_of_ble_eq_true rfl, by first | rfl | omega | exact Nat.le_of_ble_eq_true rfl | (dsimp only; omega) | (simp; done) | (simp; omega), by first | rfl | omega | exact Nat.le_of_ble_eq_true rfl | (dsimp only; omega) | (simp; done) | (simp; omega), by omega, Nat.le_of_ble_eq_true rfl⟩ | exact Eq.refl true) ?_) | (with_reducible refine ld (intL hlt) ?_) | (with_reducible refine ld (slLz hb1 hb2) ?_) | (with_reducible refine ld (nextL hb1 hb2) ?_) | (with_reducible refine ld (jobT rfl hpl) ?_) | (refine Exists.intro _ (And.intro rfl ?_)) | (refine And.intro (And.intro rfl (chk_rowI _ _ _ _)) ?_) | (refine br_t (by omega) ?_) | (refine br_f (by omega) ?_) | (refine bs_t (by omega) ?_) | (refine bs_f (by omega) ?_) | (refine fun (K' : K3) hK' => ?_) | (refine hK' _ _ _ ?_; clear hK' K') | (refine draw_auto tok mixed (by kernel_rfl) ?_) | (with_reducible refine updK_ent (by omega) ?_) | (refine onV_ld (c := ⟨1 + beachO o i, .ro 2, jobC (j.getD (beachO o i) [])⟩) (by ((try (conv => lhs; arg 1; whnf)); (repeat (first | rw [find_skip (by omega)] | rw [find_hi (by omega) (by rfl)])); exact entC_find hb2)) ?_) | (refine bs_bt (Eq.refl true) ?_) | (refine bs_bf (Eq.refl false) ?_) | (refine br_bt (Eq.refl true) ?_) | (refine br_bf (Eq.refl false) ?_) | (refine CallK.m ?_) | (refine Two.l ?_) | (refine And.intro (And.intro rfl rfl) ?_))
      refine hY _ _ _ _ (Nat.le_of_ble_eq_true rfl) rfl ⟨rfl, trivial⟩ ?_
      intro cxb hcx
      refine vc_ok tok ?_
      repeat ((conv => whnf); first | (refine And.intro (by first | omega | exact Nat.le_of_ble_eq_true rfl | (dsimp only [inK]; omega) | (simp only [mulS_eq]; omega) | (simp only [mulS_eq, setL_length]; omega) | (simp only [setL_length, List.length_map]; omega) | exact ⟨by omega, by omega, by first | exact Nat.le_of_ble_eq_true rfl | (dsimp only; omega) | (simp only [setL_length]; omega) | (simp only [setL_length, List.length_map]; omega)⟩ | exact ⟨by omega, by first | rfl | omega, by omega, Nat.le_of_ble_eq_true rfl, Nat.le_of_ble_eq_true rfl⟩ | exact ⟨rfl, rfl, rfl, Nat.le_of_ble_eq_true rfl, by first | rfl | omega | exact Nat.le_of_ble_eq_true rfl | (dsimp only; omega) | (simp; done) | (simp; omega), by first | rfl | omega | exact Nat.le_of_ble_eq_true rfl | (dsimp only; omega) | (simp; done) | (simp; omega), by omega, Nat.le_of_ble_eq_true rfl⟩ | exact Eq.refl true) ?_) | (refine Exists.intro _ (And.intro rfl ?_)) | (refine And.intro (And.intro rfl (chk_rowI _ _ _ _)) ?_) | (refine br_t (by omega) ?_) | (refine br_f (by omega) ?_) | (refine bs_t (by omega) ?_) | (refine bs_f (by omega) ?_) | (refine fun (K' : K3) hK' => ?_) | (refine hK' _ _ _ ?_; clear hK' K') | (refine draw_auto tok mixed (by kernel_rfl) ?_) | (with_reducible refine updK_ent (by omega) ?_) | (with_reducible refine updO_ent (by omega) ?_) | (refine And.intro (Eq.refl oo) ?_) | (refine bs_bt (Eq.refl true) ?_) | (refine bs_bf (Eq.refl false) ?_) | (refine br_bt (Eq.refl true) ?_) | (refine br_bf (Eq.refl false) ?_) | (refine CallK.m ?_) | (refine Two.l ?_) | (refine And.intro (And.intro rfl rfl) ?_))
      refine vc_ok tok ?_
      repeat ((conv => whnf); first | (refine And.intro (by first | omega | exact Nat.le_of_ble_eq_true rfl | (dsimp only [inK]; omega) | (simp only [mulS_eq]; omega) | (simp only [mulS_eq, setL_length]; omega) | (simp only [setL_length, List.length_map]; omega) | exact ⟨by omega, by omega, by first | exact Nat.le_of_ble_eq_true rfl | (dsimp only; omega) | (simp only [setL_length]; omega) | (simp only [setL_length, List.length_map]; omega)⟩ | exact ⟨by omega, by first | rfl | omega, by omega, Nat.le_of_ble_eq_true rfl, Nat.le_of_ble_eq_true rfl⟩ | exact ⟨rfl, rfl, rfl, Nat.le_of_ble_eq_true rfl, by first | rfl | omega | exact Nat.le_of_ble_eq_true rfl | (dsimp only; omega) | (simp; done) | (simp; omega), by first | rfl | omega | exact Nat.le_of_ble_eq_true rfl | (dsimp only; omega) | (simp; done) | (simp; omega), by omega, Nat.le_of_ble_eq_true rfl⟩ | exact Eq.refl true) ?_) | (refine Exists.intro _ (And.intro rfl ?_)) | (refine And.intro (And.intro rfl (chk_rowI _ _ _ _)) ?_) | (refine br_t (by omega) ?_) | (refine br_f (by omega) ?_) | (refine bs_t (by omega) ?_) | (refine bs_f (by omega) ?_) | (refine fun (K' : K3) hK' => ?_) | (refine hK' _ _ _ ?_; clear hK' K') | (refine draw_auto tok mixed (by kernel_rfl) ?_) | (with_reducible refine updK_ent (by omega) ?_) | (with_reducible refine updO_ent (by omega) ?_) | (refine And.intro (Eq.refl ob) ?_) | (refine bs_bt (Eq.refl true) ?_) | (refine bs_bf (Eq.refl false) ?_) | (refine br_bt (Eq.refl true) ?_) | (refine br_bf (Eq.refl false) ?_) | (refine CallK.m ?_) | (refine Two.l ?_) | (refine And.intro (And.intro rfl rfl) ?_))
      refine ⟨i + 1, [], by omega, by omega, ?_⟩
      refine ⟨?_, ?_, injB_ent (p := [_, _, _, _, _, _, _]) (by omega) rfl rfl, rfl, by first | exact Nat.le_of_ble_eq_true rfl | exact Nat.le_refl _ | omega⟩
      · repeat (first | exact trivial | refine And.intro (covS_syn (by first | rfl | (refine congrArg some (congrArg V.i ?_); omega)) rfl (by first | exact trivial | exact Nat.le_of_ble_eq_true rfl | exact hy | exact (fun p hp => nomatch hp) | (show (_ : Nat) < _; omega))) ?_ | refine And.intro (covS_bool rfl rfl (by first | rfl)) ?_)
      · repeat (first | exact trivial | (exact covL_ent (by omega) (fun k hk => by (try simp only [flatN]); (repeat (first | rw [find_skip (by omega)] | rw [find_hi (by omega) (by rfl)])))) | refine And.intro (covE_id (Nat.le_of_ble_eq_true rfl) (by first | exact wf_ints _ _ | exact wf_bools _ _ | first | exact wf_sls _ _ _ (by omega) | exact wf_jobs _ _ | simp [C.wf]) rfl (by first | rfl | (exact nextS ho hlt hb1 rfl))) ?_)
    · have hil : i = o.length := by omega
      subst hil
      repeat ((conv => whnf); first | (refine And.intro (by first | omega | exact Nat.le_of_ble_eq_true rfl | (dsimp only [inK]; omega) | (simp only [mulS_eq]; omega) | (simp only [mulS_eq, setL_length]; omega) | (simp only [setL_length, List.length_map]; omega) | exact ⟨by omega, by omega, by first | exact Nat.le_of_ble_eq_true rfl | (dsimp only; omega) | (simp only [setL_length]; omega) | (simp only [setL_length, List.length_map]; omega)⟩ | exact ⟨by omega, by first | rfl | omega, by omega, Nat.le_of_ble_eq_true rfl, Nat.le_of_ble_eq_true rfl⟩ | exact ⟨rfl, rfl, rfl, Nat.le_of_ble_eq_true rfl, by first | rfl | omega | exact Nat.le_of_ble_eq_true rfl | (dsimp only; omega) | (simp; done) | (simp; omega), by first | rfl | omega | exact Nat.le_of_ble_eq_true rfl | (dsimp only; omega) | (simp; done) | (simp; omega), by omega, Nat.le_of_ble_eq_true rfl⟩ | exact Eq.refl true) ?_) | (refine Exists.intro _ (And.intro rfl ?_)) | (refine And.intro (And.intro rfl (chk_rowI _ _ _ _)) ?_) | (refine br_t (by omega) ?_) | (refine br_f (by omega) ?_) | (refine bs_t (by omega) ?_) | (refine bs_f (by omega) ?_) | (refine fun (K' : K3) hK' => ?_) | (refine hK' _ _ _ ?_; clear hK' K') | (refine draw_auto tok mixed (by kernel_rfl) ?_) | (refine Or.inl ?_) | (refine And.intro (Eq.refl oo) ?_) | (with_reducible refine rmK_ent (by omega) ?_) | (refine bs_bt (Eq.refl true) ?_) | (refine bs_bf (Eq.refl false) ?_) | (refine br_bt (Eq.refl true) ?_) | (refine br_bf (Eq.refl false) ?_) | (refine CallK.m ?_) | (refine Two.l ?_) | (refine And.intro (And.intro rfl rfl) ?_))
      intro ρ; rfl
end Go.Proofs.Ytjijjncddjkdlaa

/- Shore: ordered, IsOrder, Harm. -/
namespace Go.Proofs.Ytjijjncddjkdlaa
open Go.RowKit
set_option linter.unusedVariables false
set_option linter.unusedSimpArgs false
structure HasO (L : List E) (j : Coast) (o : List Int) : Prop where
  c : HasC L j
  o : find L 21 = some ⟨21, .ro 0, o.map C.i⟩
theorem HasO.ro {L : List E} {j : Coast} {o : List Int} (h : HasO L j o) (hj : Sized j) : roL [] 32 L (⟨0, .ro 1, slsC 1 j⟩ :: ⟨21, .ro 0, o.map C.i⟩ :: entC 1 j) := by
  obtain ⟨h1, h2⟩ := h.c.ro hj
  exact ⟨h1, roE_id (by omega) (wf_ints _ _) h.o (.inl rfl) rfl, h2⟩
theorem injO {j : Coast} {o : List Int} (hj : Sized j) : injB [] (⟨0, .ro 1, slsC 1 j⟩ :: ⟨21, .ro 0, o.map C.i⟩ :: entC 1 j) = true := injB_ent (p := [_, _]) hj.len rfl rfl
theorem isOrd_ok {j : Coast} {o : List Int} (h : isOrdB j o = true) : OrdOk j o := by
  simp only [isOrdB, Bool.and_eq_true, decide_eq_true_eq] at h
  obtain ⟨⟨h1, h2⟩, h3⟩ := h
  have hg : ∀ i, i < o.length → goodAt j o i = true := fun i hi => List.all_eq_true.1 h2 i (List.mem_range.2 hi)
  exact ⟨h1, fun i hi => ⟨(goodAt_b (hg i hi)).1, (goodAt_b (hg i hi)).2.1⟩, fun i hi => (goodAt_b (hg i hi)).2.2⟩
/-- What the functions of an order give: a number and an error. -/
def numO (ok is : Bool) (n : Int) : V := if ok then (if is then .tup [.c (.i n), .c (.i 0)] else .tup [.c (.i 0), .c (.i 61)]) else .tup [.c (.i 0), .c (.i 60)]
end Go.Proofs.Ytjijjncddjkdlaa

/- Shore: the reference's isOrder. -/
namespace Go.Proofs.Ytjijjncddjkdlaa
open Go.RowKit
set_option linter.unusedVariables false
set_option linter.unusedSimpArgs false
/-- The reference's word for an order: counts, of at most 101 numbers. -/
def inB (j : Coast) (o : List Int) (i : Nat) : Bool := decide (0 ≤ o.getD i 0 ∧ o.getD i 0 < (j.length : Int))
def risOrdB (j : Coast) (o : List Int) : Bool := (List.range (min o.length 101)).all (inB j o) && (List.range j.length).all fun b => decide (cntO o (min o.length 101) b = (j.getD b []).length)
end Go.Proofs.Ytjijjncddjkdlaa

/- Shore: SameInts, asked. -/
namespace Go.Proofs.Ytjijjncddjkdlaa
open Go.RowKit
set_option linter.unusedVariables false
set_option linter.unusedSimpArgs false
end Go.Proofs.Ytjijjncddjkdlaa

/- Shore: the reference's asked, IsOrder. -/
namespace Go.Proofs.Ytjijjncddjkdlaa
open Go.RowKit
set_option linter.unusedVariables false
set_option linter.unusedSimpArgs false
end Go.Proofs.Ytjijjncddjkdlaa

/- Shore: best. -/
namespace Go.Proofs.Ytjijjncddjkdlaa
open Go.RowKit
set_option linter.unusedVariables false
set_option linter.unusedSimpArgs false
theorem bool_or (b : Bool) : b = false ∨ b = true := by cases b <;> simp
def natsC (l : List Nat) : List Int := l.map Int.ofNat
@[simp] theorem natsC_len (l : List Nat) : (natsC l).length = l.length := by simp [natsC]
theorem natsC_get (l : List Nat) (k : Nat) : (natsC l).getD k 0 = (l.getD k 0 : Nat) := by
  simp only [natsC, List.getD_eq_getElem?_getD, List.getElem?_map]
  cases l[k]? <;> rfl
theorem natsL {l : List Nat} {k : Nat} {z : Int} (hz : z = k) (h : k < l.length) : ((natsC l).map C.i)[mulS z.toNat 1]? = some (C.i (l.getD k 0 : Nat)) := by
  rw [intLz hz (by rw [natsC_len]; exact h), natsC_get]
theorem natsS {l : List Nat} {b w : Nat} {z v : Int} (hz : z = b) (hv : v = w) : setL ((natsC l).map C.i) (mulS z.toNat 1) [C.i v] = (natsC (l.set b w)).map C.i := by
  subst hz hv
  rw [mulS_eq]
  simp only [setL, natsC, Int.toNat_natCast, Nat.mul_one, List.map_set]
  rfl
theorem natsA {l : List Nat} {b : Nat} {z : Int} (hz : z = b) : (natsC (l ++ [b])).map C.i = (natsC l).map C.i ++ [C.i z] := by
  subst hz; simp [natsC]
theorem nats_zero {n : Nat} : repC n [C.i 0] = (natsC (List.replicate n 0)).map C.i := by
  induction n with
  | zero => rfl
  | succ n ih => rw [List.replicate_succ, natsC, List.map_cons, List.map_cons, ← natsC, ← ih]; rfl
/-- A renaming that leaves the beaches alone. -/
def okR (R : Rn) : Bool := R.all fun p => Nat.ble 21 p.1 && (match p.2 with | some v => Nat.ble 21 v | none => true)
theorem renL_low : ∀ {R : Rn} {l : Nat}, okR R = true → l ≤ 20 → renL R l = some l
  | [], l, _, _ => rfl
  | p :: R, l, h, hl => by
    simp only [okR, List.all_cons, Bool.and_eq_true] at h
    have h1 := Nat.le_of_ble_eq_true h.1.1
    have : Nat.beq p.1 l = false := by
      cases hb : Nat.beq p.1 l with
      | false => rfl
      | true => have := Nat.eq_of_beq_eq_true hb; omega
    simp only [renL, this, cond_false]
    exact renL_low h.2 hl
theorem renL_high : ∀ {R : Rn} {l v : Nat}, okR R = true → 21 ≤ l → renL R l = some v → 21 ≤ v
  | [], l, v, _, hl, e => by cases e; exact hl
  | p :: R, l, v, h, hl, e => by
    simp only [okR, List.all_cons, Bool.and_eq_true] at h
    simp only [renL] at e
    cases hb : Nat.beq p.1 l with
    | true =>
      rw [hb] at e; simp only [cond_true] at e
      have := h.1.2; rw [e] at this
      exact Nat.le_of_ble_eq_true this
    | false =>
      rw [hb] at e; simp only [cond_false] at e
      exact renL_high h.2 hl e
theorem beq_ne {a b : Nat} (h : a ≠ b) : Nat.beq a b = false := by
  cases hb : Nat.beq a b with
  | false => rfl
  | true => exact absurd (Nat.eq_of_beq_eq_true hb) h
theorem injB_entCR {R : Rn} (hR : okR R = true) : ∀ {b : Nat} {j : Coast}, b + j.length ≤ 21 → injB R (entC b j) = true
  | b, [], _ => rfl
  | b, x :: r, h => by
    simp only [List.length_cons] at h
    simp only [entC, injB, Bool.and_eq_true]
    refine ⟨List.all_eq_true.2 fun e he => ?_, injB_entCR hR (by omega)⟩
    obtain ⟨k, hk, rfl⟩ := entC_mem he
    simp only [renL_low hR (show b ≤ 20 by omega), renL_low hR (show b + 1 + k ≤ 20 by omega), beq_ne (show b + 1 + k ≠ b by omega), beq_ne (show b ≠ b + 1 + k by omega)]
    rfl
theorem injB_entR {R : Rn} (hR : okR R = true) {j : Coast} (hj : j.length ≤ 20) : ∀ {p : List E}, (p.all fun e => Nat.beq e.lab 0 || Nat.ble 21 e.lab) = true → injB R p = true → injB R (p ++ entC 1 j) = true
  | [], _, _ => injB_entCR hR (by omega)
  | x :: p, h1, h2 => by
    simp only [List.all_cons, Bool.and_eq_true] at h1
    simp only [injB, Bool.and_eq_true] at h2
    simp only [List.cons_append, injB, Bool.and_eq_true]
    refine ⟨List.all_eq_true.2 fun e he => ?_, injB_entR hR hj h1.2 h2.2⟩
    rcases List.mem_append.1 he with he | he
    · exact List.all_eq_true.1 h2.1 e he
    · obtain ⟨k, hk, rfl⟩ := entC_mem he
      have hx : x.lab = 0 ∨ 21 ≤ x.lab := by
        have := h1.1
        simp only [Bool.or_eq_true] at this
        exact this.imp Nat.eq_of_beq_eq_true Nat.le_of_ble_eq_true
      simp only [renL_low hR (show 1 + k ≤ 20 by omega), beq_ne (show 1 + k ≠ x.lab by omega)]
      cases hv : renL R x.lab with
      | none => rfl
      | some v =>
        have : v ≠ 1 + k := by
          rcases hx with h0 | h0
          · rw [h0, renL_low hR (by omega)] at hv; cases hv; omega
          · have := renL_high hR h0 hv; omega
        simp only [beq_ne this]
        rfl
theorem covL_entR {R : Rn} (hR : okR R = true) {nx : Nat} {L : List E} {b : Nat} {j : Coast} (hb : b + j.length ≤ 21) (hnx : b + j.length ≤ nx) (hL : ∀ k, k < j.length → find L (b + k) = find (entC b j) (b + k)) : covL R nx L (entC b j) := by
  refine covL_all fun e he => ?_
  obtain ⟨k, hk, rfl⟩ := entC_mem he
  exact covE_some (renL_low hR (by simp only; omega)) (by simp only; omega) (wf_jobs _ _) ((hL k hk).trans (entC_find hk)) (ren_jobs _ _)
theorem ren_sls_of {R : Rn} (hR : ∀ l, l ≤ 20 → renL R l = some l) : ∀ {b : Nat} {j : Coast}, b + j.length ≤ 21 → seqO ((slsC b j).map (C.ren R)) = some (slsC b j)
  | b, [], _ => rfl
  | b, x :: r, h => by
    simp only [List.length_cons] at h
    simp only [slsC, List.map_cons, C.ren, hR b (show b ≤ 20 by omega), seqO, ren_sls_of hR (show b + 1 + r.length ≤ 21 by omega)]
theorem ren_sls {R : Rn} (hR : okR R = true) : ∀ {b : Nat} {j : Coast}, b + j.length ≤ 21 → seqO ((slsC b j).map (C.ren R)) = some (slsC b j)
  | b, [], _ => rfl
  | b, x :: r, h => by
    simp only [List.length_cons] at h
    simp only [slsC, List.map_cons, C.ren, renL_low hR (show b ≤ 20 by omega), seqO, ren_sls hR (show b + 1 + r.length ≤ 21 by omega)]
/-- The lead of a beach from a job on: hours, harm, last. -/
def leadS (l : List Job) (f : Nat) : Pc := (runS l f (l.length - f)).2
theorem leadS_bd {l : List Job} {f : Nat} (hj : JobsOk l) (hf : f ≤ l.length) (hl : l.length ≤ 100) : 0 ≤ (leadS l f).1 ∧ (leadS l f).1 ≤ 20000 ∧ 0 ≤ (leadS l f).2.1 ∧ (leadS l f).2.1 ≤ 20000 := by
  have := runS_bd (f := f) hj (l.length - f) (by omega)
  unfold leadS; omega
theorem leadS_end {l : List Job} {f : Nat} (hf : l.length ≤ f) : leadS l f = (0, 0, 0) := by
  unfold leadS; rw [show l.length - f = 0 by omega]; rfl
theorem runS_pos {l : List Job} {f : Nat} (hj : JobsOk l) : ∀ n, f + (n + 1) ≤ l.length → 0 < (runS l f (n + 1)).1.1 ∧ 0 < (runS l f (n + 1)).2.1 ∧ (f : Int) ≤ (runS l f (n + 1)).2.2.2 ∧ (runS l f (n + 1)).2.2.2 < ((f + (n + 1) : Nat) : Int)
  | 0, h => by
    have hb := hj (f + 0) (by omega)
    have e : aboveB (runS l f 0).2 ((runS l f 0).1.1 + (l.getD (f + 0) (0, 0)).1, (runS l f 0).1.2.1 + (l.getD (f + 0) (0, 0)).2, ((f + 0 : Nat) : Int)) = false := by
      have hb2 := hj f (by omega)
      simp [runS, aboveB]; rw [← List.getD_eq_getElem?_getD]; omega
    rw [runS]
    simp only [e]
    simp only [runS, Bool.false_eq_true, if_false]
    refine ⟨by omega, by omega, by omega, by omega⟩
  | n + 1, h => by
    have ih := runS_pos (f := f) hj n (by omega)
    have hb := hj (f + (n + 1)) (by omega)
    rw [runS]
    simp only
    refine ⟨by omega, ?_⟩
    split
    · exact ⟨ih.2.1, ih.2.2.1, by omega⟩
    · exact ⟨by simp only; omega, by simp only; omega, by simp only; omega⟩
theorem leadS_pos {l : List Job} {f : Nat} (hj : JobsOk l) (hf : f < l.length) : 0 < (leadS l f).1 ∧ (f : Int) ≤ (leadS l f).2.2 ∧ (leadS l f).2.2 < (l.length : Int) := by
  obtain ⟨n, hn⟩ : ∃ n, l.length - f = n + 1 := ⟨l.length - f - 1, by omega⟩
  have := runS_pos (f := f) hj n (by omega)
  unfold leadS; rw [hn]
  refine ⟨this.2.1, this.2.2.1, by have := this.2.2.2; omega⟩
/-- The greatest lead of the first k beaches, and its beach. -/
def topS (j : Coast) (nx : List Nat) : Nat → Pc × Nat
  | 0 => ((0, 0, 0), 0)
  | k + 1 => let p := leadS (j.getD k []) (nx.getD k 0); if 0 < p.1 ∧ aboveB p (topS j nx k).1 = true then (p, k) else topS j nx k
structure NxOk (j : Coast) (nx : List Nat) : Prop where
  len : nx.length = j.length
  le : ∀ b, b < j.length → nx.getD b 0 ≤ (j.getD b []).length
theorem topS_cases {j : Coast} {nx : List Nat} (hj : CoastOk j) (hn : NxOk j nx) : ∀ k, k ≤ j.length →
    (topS j nx k = ((0, 0, 0), 0) ∧ ∀ b, b < k → nx.getD b 0 = (j.getD b []).length) ∨
    (0 < (topS j nx k).1.1 ∧ (topS j nx k).2 < k ∧ nx.getD (topS j nx k).2 0 < (j.getD (topS j nx k).2 []).length ∧ (topS j nx k).1 = leadS (j.getD (topS j nx k).2 []) (nx.getD (topS j nx k).2 0))
  | 0, _ => .inl ⟨rfl, fun b hb => by omega⟩
  | k + 1, hk => by
    have ih := topS_cases hj hn k (by omega)
    have hle := hn.le k (by omega)
    simp only [topS]
    by_cases hp : nx.getD k 0 < (j.getD k []).length
    · have h1 := leadS_pos (hj.jobs k (by omega)).1 hp
      by_cases ha : aboveB (leadS (j.getD k []) (nx.getD k 0)) (topS j nx k).1 = true
      · rw [if_pos ⟨h1.1, ha⟩]
        exact .inr ⟨h1.1, by simp only; omega, hp, rfl⟩
      · rw [if_neg (fun h => ha h.2)]
        rcases ih with ⟨e, _⟩ | ⟨a1, a2, a3, a4⟩
        · rw [e] at ha; exact absurd rfl ha
        · exact .inr ⟨a1, by omega, a3, a4⟩
    · have h1 : leadS (j.getD k []) (nx.getD k 0) = (0, 0, 0) := leadS_end (by omega)
      rw [h1, if_neg (fun h => absurd h.1 (by simp only; omega))]
      rcases ih with ⟨e, h⟩ | ⟨a1, a2, a3, a4⟩
      · exact .inl ⟨e, fun b hb => by
          by_cases he : b = k
          · subst he; omega
          · exact h b (by omega)⟩
      · exact .inr ⟨a1, by omega, a3, a4⟩
theorem topS_bd {j : Coast} {nx : List Nat} (hj : CoastOk j) (hn : NxOk j nx) {k : Nat} (hk : k ≤ j.length) : 0 ≤ (topS j nx k).1.1 ∧ (topS j nx k).1.1 ≤ 20000 ∧ 0 ≤ (topS j nx k).1.2.1 ∧ (topS j nx k).1.2.1 ≤ 20000 := by
  rcases topS_cases hj hn k hk with ⟨e, _⟩ | ⟨a1, a2, a3, a4⟩
  · rw [e]; exact ⟨by simp only; omega, by simp only; omega, by simp only; omega, by simp only; omega⟩
  · rw [a4]; exact leadS_bd (hj.jobs _ (by omega)).1 (by omega) (hj.jobs _ (by omega)).2
/-- How many jobs the greatest lead has. -/
def takeS (j : Coast) (nx : List Nat) : Nat := ((topS j nx j.length).1.2.2 + 1).toNat - nx.getD (topS j nx j.length).2 0
/-- The order by leads, and how many jobs of each beach are in it, after some leads. -/
def bestF (j : Coast) : Nat → List Nat × List Nat
  | 0 => ([], List.replicate j.length 0)
  | i + 1 =>
    let s := bestF j i
    if s.1.length < manyN j j.length then
      let b := (topS j s.2 j.length).2
      (s.1 ++ List.replicate (takeS j s.2) b, s.2.set b (s.2.getD b 0 + takeS j s.2))
    else s
def bestO (j : Coast) : List Nat := (bestF j (manyN j j.length)).1
theorem sum_le_many {j : Coast} {nx : List Nat} (hn : NxOk j nx) : nx.sum ≤ manyN j j.length ∧ (nx.sum = manyN j j.length ↔ ∀ b, b < j.length → nx.getD b 0 = (j.getD b []).length) := by
  obtain ⟨h1, h2⟩ := hn
  have key : ∀ (j : Coast) (nx : List Nat), nx.length = j.length → (∀ b, b < j.length → nx.getD b 0 ≤ (j.getD b []).length) → nx.sum ≤ (j.map List.length).sum ∧ (nx.sum = (j.map List.length).sum ↔ ∀ b, b < j.length → nx.getD b 0 = (j.getD b []).length) := by
    intro j
    induction j with
    | nil => intro nx h1 _; rw [List.length_nil, List.length_eq_zero_iff] at h1; subst h1; simp
    | cons x j ih =>
      intro nx h1 h2
      match nx, h1 with
      | y :: nx, h1 =>
        simp only [List.length_cons, Nat.add_right_cancel_iff] at h1
        have h0 : y ≤ x.length := h2 0 (by simp)
        obtain ⟨i1, i2⟩ := ih nx h1 (fun b hb => h2 (b + 1) (by simp; omega))
        simp only [List.sum_cons, List.map_cons]
        refine ⟨by omega, ?_⟩
        constructor
        · intro h b hb
          match b with
          | 0 => show y = x.length; omega
          | b + 1 =>
            simp only [List.length_cons] at hb
            exact i2.1 (by omega) b (by omega)
        · intro h
          have e0 : y = x.length := h 0 (by simp)
          have := i2.2 (fun b hb => h (b + 1) (by simp; omega))
          omega
  unfold manyN
  rw [List.take_length]
  exact key j nx h1 h2
theorem set_sum {l : List Nat} {b m : Nat} (hb : b < l.length) : (l.set b (l.getD b 0 + m)).sum = l.sum + m := by
  induction l generalizing b with
  | nil => simp at hb
  | cons x l ih =>
    cases b with
    | zero => simp; omega
    | succ b =>
      simp only [List.length_cons, Nat.add_lt_add_iff_right] at hb
      simp only [List.set_cons_succ, List.getD_cons_succ, List.sum_cons, ih hb]; omega
theorem getD_set {l : List Nat} {b c v : Nat} (hb : b < l.length) : (l.set b v).getD c 0 = if c = b then v else l.getD c 0 := by
  simp only [List.getD_eq_getElem?_getD, List.getElem?_set]
  by_cases h : c = b
  · subst h; simp [hb]
  · rw [if_neg (fun e => h e.symm), if_neg h]
/-- What holds after some leads. -/
structure BOk (j : Coast) (s : List Nat × List Nat) : Prop where
  nx : NxOk j s.2
  sum : s.1.length = s.2.sum
theorem top_some {j : Coast} {s : List Nat × List Nat} (hj : CoastOk j) (h : BOk j s) (hlt : s.1.length < manyN j j.length) :
    let t := topS j s.2 j.length
    0 < t.1.1 ∧ t.2 < j.length ∧ s.2.getD t.2 0 < (j.getD t.2 []).length ∧ t.1 = leadS (j.getD t.2 []) (s.2.getD t.2 0) := by
  rcases topS_cases hj h.nx j.length (Nat.le_refl _) with ⟨_, e⟩ | h2
  · have := (sum_le_many h.nx).2.2 e
    have := h.sum
    omega
  · exact h2
theorem take_bd {j : Coast} {s : List Nat × List Nat} (hj : CoastOk j) (h : BOk j s) (hlt : s.1.length < manyN j j.length) :
    1 ≤ takeS j s.2 ∧ s.2.getD (topS j s.2 j.length).2 0 + takeS j s.2 ≤ (j.getD (topS j s.2 j.length).2 []).length ∧ ((s.2.getD (topS j s.2 j.length).2 0 + takeS j s.2 : Nat) : Int) = (topS j s.2 j.length).1.2.2 + 1 := by
  obtain ⟨a1, a2, a3, a4⟩ := top_some hj h hlt
  have h5 := leadS_pos (hj.jobs _ a2).1 a3
  rw [← a4] at h5
  unfold takeS; omega
theorem bestF_ok {j : Coast} (hj : CoastOk j) : ∀ i, BOk j (bestF j i)
  | 0 => ⟨⟨by simp [bestF], fun b hb => by simp [bestF, List.getD_eq_getElem?_getD, hb]⟩, by simp [bestF]⟩
  | i + 1 => by
    have ih := bestF_ok hj i
    simp only [bestF]
    split
    case isFalse => exact ih
    case isTrue hlt =>
      obtain ⟨a1, a2, a3, a4⟩ := top_some hj ih hlt
      obtain ⟨t1, t2, t3⟩ := take_bd hj ih hlt
      have hl := ih.nx.len
      refine ⟨⟨by simpa using hl, fun b hb => ?_⟩, ?_⟩
      · simp only
        rw [getD_set (by omega)]
        split
        · next h => subst h; exact t2
        · exact ih.nx.le b hb
      · simp only [List.length_append, List.length_replicate]
        rw [set_sum (by omega), ih.sum]
theorem bestF_grow {j : Coast} (hj : CoastOk j) : ∀ i, (bestF j i).1.length ≤ manyN j j.length ∧ (i ≤ (bestF j i).1.length ∨ (bestF j i).1.length = manyN j j.length)
  | 0 => ⟨by simp [bestF], .inl (by simp)⟩
  | i + 1 => by
    have ih := bestF_grow hj i
    have hk := bestF_ok hj (i + 1)
    have h1 := (sum_le_many hk.nx).1
    rw [← hk.sum] at h1
    refine ⟨h1, ?_⟩
    simp only [bestF] at *
    split
    case isTrue hlt =>
      obtain ⟨t1, t2, t3⟩ := take_bd hj (bestF_ok hj i) hlt
      rw [if_pos hlt] at h1
      simp only [List.length_append, List.length_replicate] at h1 ⊢
      omega
    case isFalse hlt => omega
theorem bestF_done {j : Coast} {i : Nat} (h : ¬ (bestF j i).1.length < manyN j j.length) : ∀ k, bestF j (i + k) = bestF j i
  | 0 => rfl
  | k + 1 => by
    have ih := bestF_done h k
    rw [show i + (k + 1) = (i + k) + 1 by omega]
    simp only [bestF]
    rw [ih, if_neg h]
theorem bestO_of {j : Coast} (hj : CoastOk j) {i : Nat} (h : ¬ (bestF j i).1.length < manyN j j.length) : (bestF j i).1 = bestO j := by
  unfold bestO
  by_cases hi : i ≤ manyN j j.length
  · obtain ⟨k, hk⟩ := Nat.exists_eq_add_of_le hi
    rw [hk, bestF_done h k]
  · have h2 := bestF_grow hj (manyN j j.length)
    obtain ⟨k, hk⟩ := Nat.exists_eq_add_of_le (show manyN j j.length ≤ i by omega)
    rw [hk, bestF_done (by omega) k]
theorem bestO_len {j : Coast} (hj : CoastOk j) : (bestO j).length = manyN j j.length := by
  have := bestF_grow hj (manyN j j.length)
  unfold bestO; omega
end Go.Proofs.Ytjijjncddjkdlaa

/- Shore: best, walked. -/
namespace Go.Proofs.Ytjijjncddjkdlaa
open Go.RowKit
set_option linter.unusedVariables false
set_option linter.unusedSimpArgs false
def intsR (l : List Int) (v : V) (L' : List E) : Prop := (v = V.c C.nil ∧ l = []) ∨ ∃ lab, v = V.c (C.sl lab l.length) ∧ find L' lab = some ⟨lab, .vec 3 1, l.map C.i⟩
theorem topS_yes {j : Coast} {nx : List Nat} {k : Nat} (h1 : 0 < (leadS (j.getD k []) (nx.getD k 0)).1) (h2 : aboveB (leadS (j.getD k []) (nx.getD k 0)) (topS j nx k).1 = true) : topS j nx (k + 1) = (leadS (j.getD k []) (nx.getD k 0), k) := by
  simp only [topS]; rw [if_pos ⟨h1, h2⟩]
theorem topS_no1 {j : Coast} {nx : List Nat} {k : Nat} (h1 : ¬ 0 < (leadS (j.getD k []) (nx.getD k 0)).1) : topS j nx (k + 1) = topS j nx k := by
  simp only [topS]; rw [if_neg (fun h => h1 h.1)]
theorem topS_no2 {j : Coast} {nx : List Nat} {k : Nat} (h2 : aboveB (leadS (j.getD k []) (nx.getD k 0)) (topS j nx k).1 = false) : topS j nx (k + 1) = topS j nx k := by
  simp only [topS]; rw [if_neg (fun h => by rw [h.2] at h2; cases h2)]
/-- After m jobs of the greatest lead. -/
def midF (j : Coast) (i m : Nat) : List Nat × List Nat :=
  let b := (topS j (bestF j i).2 j.length).2
  ((bestF j i).1 ++ List.replicate m b, (bestF j i).2.set b ((bestF j i).2.getD b 0 + m))
theorem midF_zero {j : Coast} {i : Nat} : midF j i 0 = bestF j i := by
  simp only [midF, List.replicate_zero, List.append_nil, Nat.add_zero]
  congr 1
  apply List.ext_getElem (by simp)
  intro n h1 h2
  rw [List.getElem_set]
  split
  · next h => subst h; rw [List.getD_eq_getElem?_getD, List.getElem?_eq_getElem h2]; rfl
  · rfl
theorem midF_last {j : Coast} {i : Nat} (h : (bestF j i).1.length < manyN j j.length) : midF j i (takeS j (bestF j i).2) = bestF j (i + 1) := by
  simp only [bestF]; rw [if_pos h]; rfl
theorem midF_len {j : Coast} {i m : Nat} : (midF j i m).1.length = (bestF j i).1.length + m ∧ (midF j i m).2.length = (bestF j i).2.length := by simp [midF]
@[simp] theorem midF_len1 {j : Coast} {i m : Nat} : (midF j i m).1.length = (bestF j i).1.length + m := midF_len.1
theorem midF_row {j : Coast} {i m : Nat} : (natsC (midF j i (m + 1)).1).map C.i = (natsC (midF j i m).1).map C.i ++ [C.i ((topS j (bestF j i).2 j.length).2 : Nat)] := by
  rw [← natsA rfl]
  simp only [midF, List.append_assoc]
  rw [← List.replicate_succ']
theorem midF_get {j : Coast} {i m : Nat} (hb : (topS j (bestF j i).2 j.length).2 < (bestF j i).2.length) : (midF j i m).2.getD (topS j (bestF j i).2 j.length).2 0 = (bestF j i).2.getD (topS j (bestF j i).2 j.length).2 0 + m := by
  simp only [midF]; rw [getD_set hb, if_pos rfl]
theorem midF_set {j : Coast} {i m : Nat} {z v : Int} (hz : z = (topS j (bestF j i).2 j.length).2) (hv : v = ((bestF j i).2.getD (topS j (bestF j i).2 j.length).2 0 + (m + 1) : Nat)) : setL ((natsC (midF j i m).2).map C.i) (mulS z.toNat 1) [C.i v] = (natsC (midF j i (m + 1)).2).map C.i := by
  rw [natsS hz hv]; simp only [midF, List.set_set]
theorem leadS_spec (l : List Job) (f : Nat) (hl : l.length ≤ 100) (hf : f ≤ l.length) (hj : JobsOk l) :
    Spec Try.prog 53 [V.c (.sl 0 l.length), V.i f] [⟨0, .ro 2, jobC l⟩] 1 (Is (V.agg [C.i (leadS l f).1, C.i (leadS l f).2.1, C.i (leadS l f).2.2])) := lead_spec l f hl hf hj
set_option maxHeartbeats 1000000 in
set_option maxRecDepth 100000 in
theorem best_spec (j : Coast) (hj : CoastOk j) (hs : Sized j) (hm12 : manyN j j.length ≤ 100) : Spec Try.prog 58 [V.c (.sl 0 j.length)] (⟨0, .ro 1, slsC 1 j⟩ :: entC 1 j) 32 (fun v L' _ => intsR (natsC (bestO j)) v L') := by
  have hj20 := hj.len
  have hsl := slsC_len (b := 1) (j := j)
  refine Spec.of tok Try.func58 rfl rfl rfl fun n0 cx => vc_ok tok ?_
  repeat ((conv => whnf); first | (refine And.intro (by first | omega | exact Nat.le_of_ble_eq_true rfl | (dsimp only [inK]; omega) | (simp only [mulS_eq]; omega) | (simp only [mulS_eq, setL_length]; omega) | (simp only [setL_length, List.length_map]; omega) | exact ⟨by omega, by omega, by first | exact Nat.le_of_ble_eq_true rfl | (dsimp only; omega) | (simp only [setL_length]; omega) | (simp only [setL_length, List.length_map]; omega)⟩ | exact ⟨by omega, by first | rfl | omega, by omega, Nat.le_of_ble_eq_true rfl, Nat.le_of_ble_eq_true rfl⟩ | exact ⟨rfl, rfl, rfl, Nat.le_of_ble_eq_true rfl, by first | rfl | omega | exact Nat.le_of_ble_eq_true rfl | (dsimp only; omega) | (simp; done) | (simp; omega), by first | rfl | omega | exact Nat.le_of_ble_eq_true rfl | (dsimp only; omega) | (simp; done) | (simp; omega), by omega, Nat.le_of_ble_eq_true rfl⟩ | exact Eq.refl true) ?_) | (refine Exists.intro _ (And.intro rfl ?_)) | (refine And.intro (And.intro rfl (chk_rowI _ _ _ _)) ?_) | (refine br_t (by omega) ?_) | (refine br_f (by omega) ?_) | (refine bs_t (by omega) ?_) | (refine bs_f (by omega) ?_) | (refine fun (K' : K3) hK' => ?_) | (refine hK' _ _ _ ?_; clear hK' K') | (refine draw_auto tok mixed (by kernel_rfl) ?_) | (refine bs_bt (Eq.refl true) ?_) | (refine bs_bf (Eq.refl false) ?_) | (refine br_bt (Eq.refl true) ?_) | (refine br_bf (Eq.refl false) ?_) | (refine CallK.m ?_) | (refine Two.l ?_) | (refine And.intro (And.intro rfl rfl) ?_))
  refine Tri.loop (γ := Nat) (fun _ => True) (fun i => [(0, V.c (.sl 0 j.length)), (3, V.c (.sl 33 (bestF j i).1.length)), (4, V.c (.sl 32 j.length))])
    (fun i => ⟨33, .vec 3 1, (natsC (bestF j i).1).map C.i⟩ :: ⟨32, .vec 3 1, (natsC (bestF j i).2).map C.i⟩ :: ⟨0, .ro 1, slsC 1 j⟩ :: entC 1 j) 34 (fun i => manyN j j.length - (bestF j i).1.length) 0 (R0 := [(33, none)]) ?_ ?_ ?_
  · trivial
  · skip
    refine ⟨?_, ?_, injB_entR (p := [_, _, _]) rfl (by omega) rfl rfl, rfl, by first | exact Nat.le_of_ble_eq_true rfl | exact Nat.le_refl _ | omega⟩
    · repeat (first | exact trivial | refine And.intro (covS_syn (by first | rfl) rfl (by first | exact trivial | exact Nat.le_of_ble_eq_true rfl | exact hy | exact (fun p hp => nomatch hp) | (show (_ : Nat) < _; omega))) ?_ | refine And.intro (covS_bool rfl rfl (by first | rfl)) ?_)
    · repeat (first | exact trivial | (exact covL_entR rfl (by omega) (by omega) (fun k hk => by (try simp only [flatN]); (repeat (first | rw [find_skip (by omega)] | rw [find_hi (by omega) (by rfl)])))) | (refine And.intro (covE_some rfl (Nat.le_of_ble_eq_true rfl) (wf_sls _ _ _ (by omega)) rfl (ren_sls rfl (by omega))) ?_) | refine And.intro (covE_nil rfl (Nat.le_of_ble_eq_true rfl) rfl rfl) ?_ | refine And.intro (covE_some rfl (Nat.le_of_ble_eq_true rfl) (by first | exact wf_ints _ _ | exact wf_bools _ _ | first | exact wf_sls _ _ _ (by omega) | exact wf_jobs _ _ | simp [C.wf]) rfl (by first | exact ren_ints _ _ | exact ren_bools _ _ | exact ren_shares _ _ | (refine (ren_ints _ _).trans (congrArg some ?_); exact nats_zero.symm) | rfl)) ?_)
  · rintro i -
    refine vc_ok tok ?_
    have hok := bestF_ok hj i
    have hgr := bestF_grow hj i
    have hnl := hok.nx.len
    by_cases hlt : (bestF j i).1.length < manyN j j.length
    · obtain ⟨a1, a2, a3, a4⟩ := top_some hj hok hlt
      obtain ⟨t1, t2, t3⟩ := take_bd hj hok hlt
      repeat ((conv => whnf); first | (refine And.intro (by first | omega | exact Nat.le_of_ble_eq_true rfl | (dsimp only [inK]; omega) | (simp only [mulS_eq]; omega) | (simp only [mulS_eq, setL_length]; omega) | (simp only [setL_length, List.length_map]; omega) | exact ⟨by omega, by omega, by first | exact Nat.le_of_ble_eq_true rfl | (dsimp only; omega) | (simp only [setL_length]; omega) | (simp only [setL_length, List.length_map]; omega)⟩ | exact ⟨by omega, by first | rfl | omega, by omega, Nat.le_of_ble_eq_true rfl, Nat.le_of_ble_eq_true rfl⟩ | exact ⟨rfl, rfl, rfl, Nat.le_of_ble_eq_true rfl, by first | rfl | omega | exact Nat.le_of_ble_eq_true rfl | (dsimp only; omega) | (simp; done) | (simp; omega), by first | rfl | omega | exact Nat.le_of_ble_eq_true rfl | (dsimp only; omega) | (simp; done) | (simp; omega), by omega, Nat.le_of_ble_eq_true rfl⟩ | exact Eq.refl true) ?_) | (refine Exists.intro _ (And.intro rfl ?_)) | (refine And.intro (And.intro rfl (chk_rowI _ _ _ _)) ?_) | (refine br_t (by omega) ?_) | (refine br_f (by omega) ?_) | (refine bs_t (by omega) ?_) | (refine bs_f (by omega) ?_) | (refine fun (K' : K3) hK' => ?_) | (refine hK' _ _ _ ?_; clear hK' K') | (refine draw_auto tok mixed (by kernel_rfl) ?_) | (refine CallK.val (R := []) (many_spec j hs.len hs.be) (by kernel_rfl) rfl (by simp [V.wf, A.wf, C.wf]) ⟨roE_id (by omega) (wf_sls _ _ _ (by omega)) rfl (.inr rfl) rfl, trivial⟩ rfl rfl trivial ?_) | (refine bs_bt (Eq.refl true) ?_) | (refine bs_bf (Eq.refl false) ?_) | (refine br_bt (Eq.refl true) ?_) | (refine br_bf (Eq.refl false) ?_) | (refine CallK.m ?_) | (refine Two.l ?_) | (refine And.intro (And.intro rfl rfl) ?_))
      refine Tri.loop (γ := Nat) (fun k => k ≤ j.length) (fun k => [(0, V.c (.sl 0 j.length)), (3, V.c (.sl 33 (bestF j i).1.length)), (4, V.c (.sl 32 j.length)), (5, V.c (.ptr 34 0)), (6, V.i ((topS j (bestF j i).2 k).2 : Nat)), (18, V.c (.sl 0 j.length)), (19, V.i j.length), (20, V.i (k : Nat))])
        (fun k => ⟨34, .own 62, [C.i (topS j (bestF j i).2 k).1.1, C.i (topS j (bestF j i).2 k).1.2.1, C.i (topS j (bestF j i).2 k).1.2.2]⟩ :: ⟨33, .vec 3 1, (natsC (bestF j i).1).map C.i⟩ :: ⟨32, .vec 3 1, (natsC (bestF j i).2).map C.i⟩ :: ⟨0, .ro 1, slsC 1 j⟩ :: entC 1 j) 35 (fun k => j.length - k) 0 (R0 := []) ?_ ?_ ?_
      · omega
      · skip
        refine ⟨?_, ?_, injB_ent (p := [_, _, _, _]) (by omega) rfl rfl, rfl, by first | exact Nat.le_of_ble_eq_true rfl | exact Nat.le_refl _ | omega⟩
        · repeat (first | exact trivial | refine And.intro (covS_syn (by first | rfl) rfl (by first | exact trivial | exact Nat.le_of_ble_eq_true rfl | exact hy | exact (fun p hp => nomatch hp) | (show (_ : Nat) < _; omega))) ?_ | refine And.intro (covS_bool rfl rfl (by first | rfl)) ?_)
        · repeat (first | exact trivial | (exact covL_ent (by omega) (fun k hk => by (try simp only [flatN]); (repeat (first | rw [find_skip (by omega)] | rw [find_hi (by omega) (by rfl)])))) | refine And.intro (covE_id (Nat.le_of_ble_eq_true rfl) (by first | exact wf_ints _ _ | exact wf_bools _ _ | first | exact wf_sls _ _ _ (by omega) | exact wf_jobs _ _ | simp [C.wf]) rfl (by first | rfl)) ?_)
      · rintro k hk
        refine vc_ok tok ?_
        have htb := topS_bd hj hok.nx hk
        have hnm : ((natsC (bestF j i).2).map C.i).length = j.length := by rw [List.length_map, natsC_len, hnl]
        by_cases hkl : k < j.length
        · have hle := hok.nx.le k hkl
          have hjk := hj.jobs k hkl
          have hlb := leadS_bd hjk.1 hle hjk.2
          by_cases hp : (leadS (j.getD k []) ((bestF j i).2.getD k 0)).1 > 0
          · rcases bool_or (aboveB (leadS (j.getD k []) ((bestF j i).2.getD k 0)) (topS j (bestF j i).2 k).1) with hab | hab
            · have hT := topS_no2 hab
              repeat ((conv => whnf); first | (refine And.intro (by first | omega | exact Nat.le_of_ble_eq_true rfl | (dsimp only [inK]; omega) | (simp only [mulS_eq]; omega) | (simp only [mulS_eq, setL_length]; omega) | (simp only [setL_length, List.length_map]; omega) | exact ⟨by omega, by omega, by first | exact Nat.le_of_ble_eq_true rfl | (dsimp only; omega) | (simp only [setL_length]; omega) | (simp only [setL_length, List.length_map]; omega)⟩ | exact ⟨by omega, by first | rfl | omega, by omega, Nat.le_of_ble_eq_true rfl, Nat.le_of_ble_eq_true rfl⟩ | exact ⟨rfl, rfl, rfl, Nat.le_of_ble_eq_true rfl, by first | rfl | omega | exact Nat.le_of_ble_eq_true rfl | (dsimp only; omega) | (simp; done) | (simp; omega), by first | rfl | omega | exact Nat.le_of_ble_eq_true rfl | (dsimp only; omega) | (simp; done) | (simp; omega), by omega, Nat.le_of_ble_eq_true rfl⟩ | exact Eq.refl true) ?_) | (with_reducible refine ld (slL hkl) ?_) | (with_reducible refine ld (natsL rfl (by omega)) ?_) | (refine Exists.intro _ (And.intro rfl ?_)) | (refine And.intro (And.intro rfl (chk_rowI _ _ _ _)) ?_) | (refine br_t (by omega) ?_) | (refine br_f (by omega) ?_) | (refine bs_t (by omega) ?_) | (refine bs_f (by omega) ?_) | (refine fun (K' : K3) hK' => ?_) | (refine hK' _ _ _ ?_; clear hK' K') | (refine draw_auto tok mixed (by kernel_rfl) ?_) | (refine CallK.val (R := [(0, some (1 + k))]) (leadS_spec (j.getD k []) ((bestF j i).2.getD k 0) hjk.2 hle hjk.1) (by kernel_rfl) rfl (by simp [V.wf, A.wf, C.wf, V.i]) (roE_beach (by omega) (by ((try (conv => lhs; arg 1; whnf)); (repeat (first | rw [find_skip (by omega)] | rw [find_hi (by omega) (by rfl)])); exact entC_find hkl)) (.inr rfl)) rfl rfl (by simp [V.wf, A.wf, C.wf]) ?_) | (refine bs_t hp ?_) | (with_reducible refine updK_ent (by omega) ?_) | (refine CallK.val (R := []) (above_spec (leadS (j.getD k []) ((bestF j i).2.getD k 0)) (topS j (bestF j i).2 k).1 (by omega) (by omega) (by omega) (by omega)) (by kernel_rfl) rfl (by simp [V.wf, A.wf, C.wf]) trivial rfl rfl trivial ?_) | (refine br_bf hab ?_) | (refine bs_bt (Eq.refl true) ?_) | (refine bs_bf (Eq.refl false) ?_) | (refine br_bt (Eq.refl true) ?_) | (refine br_bf (Eq.refl false) ?_) | (refine CallK.m ?_) | (refine Two.l ?_) | (refine And.intro (And.intro rfl rfl) ?_))
              refine ⟨k + 1, [], by omega, by omega, ?_⟩
              rw [hT]
              refine ⟨?_, ?_, injB_ent (p := [_, _, _, _]) (by omega) rfl rfl, rfl, by first | exact Nat.le_of_ble_eq_true rfl | exact Nat.le_refl _ | omega⟩
              · repeat (first | exact trivial | refine And.intro (covS_syn (by first | rfl | (refine congrArg some (congrArg V.i ?_); omega)) rfl (by first | exact trivial | exact Nat.le_of_ble_eq_true rfl | exact hy | exact (fun p hp => nomatch hp) | (show (_ : Nat) < _; omega))) ?_ | refine And.intro (covS_bool rfl rfl (by first | rfl)) ?_)
              · repeat (first | exact trivial | (exact covL_ent (by omega) (fun k hk => by (try simp only [flatN]); (repeat (first | rw [find_skip (by omega)] | rw [find_hi (by omega) (by rfl)])))) | refine And.intro (covE_id (Nat.le_of_ble_eq_true rfl) (by first | exact wf_ints _ _ | exact wf_bools _ _ | first | exact wf_sls _ _ _ (by omega) | exact wf_jobs _ _ | simp [C.wf]) rfl (by first | rfl)) ?_)
            · have hT := topS_yes hp hab
              repeat ((conv => whnf); first | (refine And.intro (by first | omega | exact Nat.le_of_ble_eq_true rfl | (dsimp only [inK]; omega) | (simp only [mulS_eq]; omega) | (simp only [mulS_eq, setL_length]; omega) | (simp only [setL_length, List.length_map]; omega) | exact ⟨by omega, by omega, by first | exact Nat.le_of_ble_eq_true rfl | (dsimp only; omega) | (simp only [setL_length]; omega) | (simp only [setL_length, List.length_map]; omega)⟩ | exact ⟨by omega, by first | rfl | omega, by omega, Nat.le_of_ble_eq_true rfl, Nat.le_of_ble_eq_true rfl⟩ | exact ⟨rfl, rfl, rfl, Nat.le_of_ble_eq_true rfl, by first | rfl | omega | exact Nat.le_of_ble_eq_true rfl | (dsimp only; omega) | (simp; done) | (simp; omega), by first | rfl | omega | exact Nat.le_of_ble_eq_true rfl | (dsimp only; omega) | (simp; done) | (simp; omega), by omega, Nat.le_of_ble_eq_true rfl⟩ | exact Eq.refl true) ?_) | (with_reducible refine ld (slL hkl) ?_) | (with_reducible refine ld (natsL rfl (by omega)) ?_) | (refine Exists.intro _ (And.intro rfl ?_)) | (refine And.intro (And.intro rfl (chk_rowI _ _ _ _)) ?_) | (refine br_t (by omega) ?_) | (refine br_f (by omega) ?_) | (refine bs_t (by omega) ?_) | (refine bs_f (by omega) ?_) | (refine fun (K' : K3) hK' => ?_) | (refine hK' _ _ _ ?_; clear hK' K') | (refine draw_auto tok mixed (by kernel_rfl) ?_) | (refine CallK.val (R := [(0, some (1 + k))]) (leadS_spec (j.getD k []) ((bestF j i).2.getD k 0) hjk.2 hle hjk.1) (by kernel_rfl) rfl (by simp [V.wf, A.wf, C.wf, V.i]) (roE_beach (by omega) (by ((try (conv => lhs; arg 1; whnf)); (repeat (first | rw [find_skip (by omega)] | rw [find_hi (by omega) (by rfl)])); exact entC_find hkl)) (.inr rfl)) rfl rfl (by simp [V.wf, A.wf, C.wf]) ?_) | (refine bs_t hp ?_) | (with_reducible refine updK_ent (by omega) ?_) | (refine CallK.val (R := []) (above_spec (leadS (j.getD k []) ((bestF j i).2.getD k 0)) (topS j (bestF j i).2 k).1 (by omega) (by omega) (by omega) (by omega)) (by kernel_rfl) rfl (by simp [V.wf, A.wf, C.wf]) trivial rfl rfl trivial ?_) | (refine br_bt hab ?_) | (refine bs_bt (Eq.refl true) ?_) | (refine bs_bf (Eq.refl false) ?_) | (refine br_bt (Eq.refl true) ?_) | (refine br_bf (Eq.refl false) ?_) | (refine CallK.m ?_) | (refine Two.l ?_) | (refine And.intro (And.intro rfl rfl) ?_))
              refine ⟨k + 1, [], by omega, by omega, ?_⟩
              rw [hT]
              refine ⟨?_, ?_, injB_ent (p := [_, _, _, _]) (by omega) rfl rfl, rfl, by first | exact Nat.le_of_ble_eq_true rfl | exact Nat.le_refl _ | omega⟩
              · repeat (first | exact trivial | refine And.intro (covS_syn (by first | rfl | (refine congrArg some (congrArg V.i ?_); omega)) rfl (by first | exact trivial | exact Nat.le_of_ble_eq_true rfl | exact hy | exact (fun p hp => nomatch hp) | (show (_ : Nat) < _; omega))) ?_ | refine And.intro (covS_bool rfl rfl (by first | rfl)) ?_)
              · repeat (first | exact trivial | (exact covL_ent (by omega) (fun k hk => by (try simp only [flatN]); (repeat (first | rw [find_skip (by omega)] | rw [find_hi (by omega) (by rfl)])))) | refine And.intro (covE_id (Nat.le_of_ble_eq_true rfl) (by first | exact wf_ints _ _ | exact wf_bools _ _ | first | exact wf_sls _ _ _ (by omega) | exact wf_jobs _ _ | simp [C.wf]) rfl (by first | rfl)) ?_)
          · have hT := topS_no1 hp
            repeat ((conv => whnf); first | (refine And.intro (by first | omega | exact Nat.le_of_ble_eq_true rfl | (dsimp only [inK]; omega) | (simp only [mulS_eq]; omega) | (simp only [mulS_eq, setL_length]; omega) | (simp only [setL_length, List.length_map]; omega) | exact ⟨by omega, by omega, by first | exact Nat.le_of_ble_eq_true rfl | (dsimp only; omega) | (simp only [setL_length]; omega) | (simp only [setL_length, List.length_map]; omega)⟩ | exact ⟨by omega, by first | rfl | omega, by omega, Nat.le_of_ble_eq_true rfl, Nat.le_of_ble_eq_true rfl⟩ | exact ⟨rfl, rfl, rfl, Nat.le_of_ble_eq_true rfl, by first | rfl | omega | exact Nat.le_of_ble_eq_true rfl | (dsimp only; omega) | (simp; done) | (simp; omega), by first | rfl | omega | exact Nat.le_of_ble_eq_true rfl | (dsimp only; omega) | (simp; done) | (simp; omega), by omega, Nat.le_of_ble_eq_true rfl⟩ | exact Eq.refl true) ?_) | (with_reducible refine ld (slL hkl) ?_) | (with_reducible refine ld (natsL rfl (by omega)) ?_) | (refine Exists.intro _ (And.intro rfl ?_)) | (refine And.intro (And.intro rfl (chk_rowI _ _ _ _)) ?_) | (refine br_t (by omega) ?_) | (refine br_f (by omega) ?_) | (refine bs_t (by omega) ?_) | (refine bs_f (by omega) ?_) | (refine fun (K' : K3) hK' => ?_) | (refine hK' _ _ _ ?_; clear hK' K') | (refine draw_auto tok mixed (by kernel_rfl) ?_) | (refine CallK.val (R := [(0, some (1 + k))]) (leadS_spec (j.getD k []) ((bestF j i).2.getD k 0) hjk.2 hle hjk.1) (by kernel_rfl) rfl (by simp [V.wf, A.wf, C.wf, V.i]) (roE_beach (by omega) (by ((try (conv => lhs; arg 1; whnf)); (repeat (first | rw [find_skip (by omega)] | rw [find_hi (by omega) (by rfl)])); exact entC_find hkl)) (.inr rfl)) rfl rfl (by simp [V.wf, A.wf, C.wf]) ?_) | (refine bs_f hp ?_) | (with_reducible refine updK_ent (by omega) ?_) | (refine br_f hp ?_) | (refine bs_bt (Eq.refl true) ?_) | (refine bs_bf (Eq.refl false) ?_) | (refine br_bt (Eq.refl true) ?_) | (refine br_bf (Eq.refl false) ?_) | (refine CallK.m ?_) | (refine Two.l ?_) | (refine And.intro (And.intro rfl rfl) ?_))
            refine ⟨k + 1, [], by omega, by omega, ?_⟩
            rw [hT]
            refine ⟨?_, ?_, injB_ent (p := [_, _, _, _]) (by omega) rfl rfl, rfl, by first | exact Nat.le_of_ble_eq_true rfl | exact Nat.le_refl _ | omega⟩
            · repeat (first | exact trivial | refine And.intro (covS_syn (by first | rfl | (refine congrArg some (congrArg V.i ?_); omega)) rfl (by first | exact trivial | exact Nat.le_of_ble_eq_true rfl | exact hy | exact (fun p hp => nomatch hp) | (show (_ : Nat) < _; omega))) ?_ | refine And.intro (covS_bool rfl rfl (by first | rfl)) ?_)
            · repeat (first | exact trivial | (exact covL_ent (by omega) (fun k hk => by (try simp only [flatN]); (repeat (first | rw [find_skip (by omega)] | rw [find_hi (by omega) (by rfl)])))) | refine And.intro (covE_id (Nat.le_of_ble_eq_true rfl) (by first | exact wf_ints _ _ | exact wf_bools _ _ | first | exact wf_sls _ _ _ (by omega) | exact wf_jobs _ _ | simp [C.wf]) rfl (by first | rfl)) ?_)
        · have hkj : k = j.length := by omega
          subst hkj
          repeat ((conv => whnf); first | (refine And.intro (by first | omega | exact Nat.le_of_ble_eq_true rfl | (dsimp only [inK]; omega) | (simp only [mulS_eq]; omega) | (simp only [mulS_eq, setL_length]; omega) | (simp only [setL_length, List.length_map]; omega) | exact ⟨by omega, by omega, by first | exact Nat.le_of_ble_eq_true rfl | (dsimp only; omega) | (simp only [setL_length]; omega) | (simp only [setL_length, List.length_map]; omega)⟩ | exact ⟨by omega, by first | rfl | omega, by omega, Nat.le_of_ble_eq_true rfl, Nat.le_of_ble_eq_true rfl⟩ | exact ⟨rfl, rfl, rfl, Nat.le_of_ble_eq_true rfl, by first | rfl | omega | exact Nat.le_of_ble_eq_true rfl | (dsimp only; omega) | (simp; done) | (simp; omega), by first | rfl | omega | exact Nat.le_of_ble_eq_true rfl | (dsimp only; omega) | (simp; done) | (simp; omega), by omega, Nat.le_of_ble_eq_true rfl⟩ | exact Eq.refl true) ?_) | (refine Exists.intro _ (And.intro rfl ?_)) | (refine And.intro (And.intro rfl (chk_rowI _ _ _ _)) ?_) | (refine br_t (by omega) ?_) | (refine br_f (by omega) ?_) | (refine bs_t (by omega) ?_) | (refine bs_f (by omega) ?_) | (refine fun (K' : K3) hK' => ?_) | (refine hK' _ _ _ ?_; clear hK' K') | (refine draw_auto tok mixed (by kernel_rfl) ?_) | (refine bs_bt (Eq.refl true) ?_) | (refine bs_bf (Eq.refl false) ?_) | (refine br_bt (Eq.refl true) ?_) | (refine br_bf (Eq.refl false) ?_) | (refine CallK.m ?_) | (refine Two.l ?_) | (refine And.intro (And.intro rfl rfl) ?_))
          refine Tri.loop (γ := Nat) (fun m => m ≤ takeS j (bestF j i).2) (fun m => [(0, V.c (.sl 0 j.length)), (3, V.c (.sl 33 ((bestF j i).1.length + m))), (4, V.c (.sl 32 j.length)), (5, V.c (.ptr 34 0)), (6, V.i ((topS j (bestF j i).2 j.length).2 : Nat))])
            (fun m => ⟨34, .own 62, [C.i (topS j (bestF j i).2 j.length).1.1, C.i (topS j (bestF j i).2 j.length).1.2.1, C.i (topS j (bestF j i).2 j.length).1.2.2]⟩ :: ⟨33, .vec 3 1, (natsC (midF j i m).1).map C.i⟩ :: ⟨32, .vec 3 1, (natsC (midF j i m).2).map C.i⟩ :: ⟨0, .ro 1, slsC 1 j⟩ :: entC 1 j) 35 (fun m => takeS j (bestF j i).2 - m) 0 (R0 := []) ?_ ?_ ?_
          · omega
          · rw [midF_zero]
            refine ⟨?_, ?_, injB_ent (p := [_, _, _, _]) (by omega) rfl rfl, rfl, by first | exact Nat.le_of_ble_eq_true rfl | exact Nat.le_refl _ | omega⟩
            · repeat (first | exact trivial | refine And.intro (covS_syn (by first | rfl) rfl (by first | exact trivial | exact Nat.le_of_ble_eq_true rfl | exact hy | exact (fun p hp => nomatch hp) | (show (_ : Nat) < _; omega))) ?_ | refine And.intro (covS_bool rfl rfl (by first | rfl)) ?_)
            · repeat (first | exact trivial | (exact covL_ent (by omega) (fun k hk => by (try simp only [flatN]); (repeat (first | rw [find_skip (by omega)] | rw [find_hi (by omega) (by rfl)])))) | refine And.intro (covE_id (Nat.le_of_ble_eq_true rfl) (by first | exact wf_ints _ _ | exact wf_bools _ _ | first | exact wf_sls _ _ _ (by omega) | exact wf_jobs _ _ | simp [C.wf]) rfl (by first | rfl)) ?_)
          · rintro m hm
            refine vc_ok tok ?_
            obtain ⟨ml1, ml2⟩ := midF_len (j := j) (i := i) (m := m)
            have hmg := midF_get (j := j) (i := i) (m := m) (by omega)
            have hnm2 : ((natsC (midF j i m).2).map C.i).length = j.length := by rw [List.length_map, natsC_len]; omega
            have hol : ((natsC (midF j i m).1).map C.i).length = (midF j i m).1.length := by rw [List.length_map, natsC_len]
            have hld := natsL (l := (midF j i m).2) (k := (topS j (bestF j i).2 j.length).2) rfl (by omega)
            rw [hmg] at hld
            by_cases hmt : m < takeS j (bestF j i).2
            · have hbl := (hj.jobs _ a2).2
              repeat ((conv => whnf); first | (refine And.intro (by first | omega | exact Nat.le_of_ble_eq_true rfl | (dsimp only [inK]; omega) | (simp only [mulS_eq]; omega) | (simp only [mulS_eq, setL_length]; omega) | (simp only [setL_length, List.length_map]; omega) | exact ⟨by omega, by omega, by first | exact Nat.le_of_ble_eq_true rfl | (dsimp only; omega) | (simp only [setL_length]; omega) | (simp only [setL_length, List.length_map]; omega)⟩ | exact ⟨by omega, by first | rfl | omega, by omega, Nat.le_of_ble_eq_true rfl, Nat.le_of_ble_eq_true rfl⟩ | exact ⟨rfl, rfl, rfl, Nat.le_of_ble_eq_true rfl, by first | rfl | omega | exact Nat.le_of_ble_eq_true rfl | (dsimp only; omega) | (simp; done) | (simp; omega), by first | rfl | omega | exact Nat.le_of_ble_eq_true rfl | (dsimp only; omega) | (simp; done) | (simp; omega), by omega, Nat.le_of_ble_eq_true rfl⟩ | exact Eq.refl true) ?_) | (with_reducible refine ld (hld) ?_) | (refine Exists.intro _ (And.intro rfl ?_)) | (refine And.intro (And.intro rfl (chk_rowI _ _ _ _)) ?_) | (refine br_t (by omega) ?_) | (refine br_f (by omega) ?_) | (refine bs_t (by omega) ?_) | (refine bs_f (by omega) ?_) | (refine fun (K' : K3) hK' => ?_) | (refine hK' _ _ _ ?_; clear hK' K') | (refine draw_auto tok mixed (by kernel_rfl) ?_) | (with_reducible refine updK_ent (by omega) ?_) | (with_reducible refine rmK_ent (by omega) ?_) | (refine bs_bt (Eq.refl true) ?_) | (refine bs_bf (Eq.refl false) ?_) | (refine br_bt (Eq.refl true) ?_) | (refine br_bf (Eq.refl false) ?_) | (refine CallK.m ?_) | (refine Two.l ?_) | (refine And.intro (And.intro rfl rfl) ?_))
              refine ⟨m + 1, [(33, some 36)], by omega, by omega, ?_⟩
              refine ⟨?_, ?_, injB_entR (p := [_, _, _, _]) rfl (by omega) rfl rfl, rfl, by first | exact Nat.le_of_ble_eq_true rfl | exact Nat.le_refl _ | omega⟩
              · repeat (first | exact trivial | refine And.intro (covS_syn (by first | rfl) rfl (by first | exact trivial | exact Nat.le_of_ble_eq_true rfl | exact hy | exact (fun p hp => nomatch hp) | (show (_ : Nat) < _; omega))) ?_ | refine And.intro (covS_bool rfl rfl (by first | rfl)) ?_)
              · repeat (first | exact trivial | (exact covL_entR rfl (by omega) (by omega) (fun k hk => by (try simp only [flatN]); (repeat (first | rw [find_skip (by omega)] | rw [find_hi (by omega) (by rfl)])))) | (refine And.intro (covE_some rfl (Nat.le_of_ble_eq_true rfl) (wf_sls _ _ _ (by omega)) rfl (ren_sls rfl (by omega))) ?_) | refine And.intro (covE_nil rfl (Nat.le_of_ble_eq_true rfl) rfl rfl) ?_ | refine And.intro (covE_some rfl (Nat.le_of_ble_eq_true rfl) (by first | exact wf_ints _ _ | exact wf_bools _ _ | first | exact wf_sls _ _ _ (by omega) | exact wf_jobs _ _ | simp [C.wf]) rfl (by first | exact ren_ints _ _ | exact ren_bools _ _ | exact ren_shares _ _ | (refine (ren_ints _ _).trans (congrArg some ?_); exact midF_row) | (refine (ren_ints _ _).trans (congrArg some ?_); exact (midF_set rfl (by omega)).symm) | rfl)) ?_)
            · have hme : m = takeS j (bestF j i).2 := by omega
              subst hme
              repeat ((conv => whnf); first | (refine And.intro (by first | omega | exact Nat.le_of_ble_eq_true rfl | (dsimp only [inK]; omega) | (simp only [mulS_eq]; omega) | (simp only [mulS_eq, setL_length]; omega) | (simp only [setL_length, List.length_map]; omega) | exact ⟨by omega, by omega, by first | exact Nat.le_of_ble_eq_true rfl | (dsimp only; omega) | (simp only [setL_length]; omega) | (simp only [setL_length, List.length_map]; omega)⟩ | exact ⟨by omega, by first | rfl | omega, by omega, Nat.le_of_ble_eq_true rfl, Nat.le_of_ble_eq_true rfl⟩ | exact ⟨rfl, rfl, rfl, Nat.le_of_ble_eq_true rfl, by first | rfl | omega | exact Nat.le_of_ble_eq_true rfl | (dsimp only; omega) | (simp; done) | (simp; omega), by first | rfl | omega | exact Nat.le_of_ble_eq_true rfl | (dsimp only; omega) | (simp; done) | (simp; omega), by omega, Nat.le_of_ble_eq_true rfl⟩ | exact Eq.refl true) ?_) | (with_reducible refine ld (hld) ?_) | (refine Exists.intro _ (And.intro rfl ?_)) | (refine And.intro (And.intro rfl (chk_rowI _ _ _ _)) ?_) | (refine br_t (by omega) ?_) | (refine br_f (by omega) ?_) | (refine bs_t (by omega) ?_) | (refine bs_f (by omega) ?_) | (refine fun (K' : K3) hK' => ?_) | (refine hK' _ _ _ ?_; clear hK' K') | (refine draw_auto tok mixed (by kernel_rfl) ?_) | (refine bs_bt (Eq.refl true) ?_) | (refine bs_bf (Eq.refl false) ?_) | (refine br_bt (Eq.refl true) ?_) | (refine br_bf (Eq.refl false) ?_) | (refine CallK.m ?_) | (refine Two.l ?_) | (refine And.intro (And.intro rfl rfl) ?_))
              refine ⟨i + 1, [], trivial, ?_, ?_⟩
              · rw [← midF_last hlt, midF_len.1]; omega
              · rw [← midF_last hlt, midF_len1]
                refine ⟨?_, ?_, injB_ent (p := [_, _, _]) (by omega) rfl rfl, rfl, by first | exact Nat.le_of_ble_eq_true rfl | exact Nat.le_refl _ | omega⟩
                · repeat (first | exact trivial | refine And.intro (covS_syn (by first | rfl) rfl (by first | exact trivial | exact Nat.le_of_ble_eq_true rfl | exact hy | exact (fun p hp => nomatch hp) | (show (_ : Nat) < _; omega))) ?_ | refine And.intro (covS_bool rfl rfl (by first | rfl)) ?_)
                · repeat (first | exact trivial | (exact covL_ent (by omega) (fun k hk => by (try simp only [flatN]); (repeat (first | rw [find_skip (by omega)] | rw [find_hi (by omega) (by rfl)])))) | refine And.intro (covE_id (Nat.le_of_ble_eq_true rfl) (by first | exact wf_ints _ _ | exact wf_bools _ _ | first | exact wf_sls _ _ _ (by omega) | exact wf_jobs _ _ | simp [C.wf]) rfl (by first | rfl)) ?_)
    · repeat ((conv => whnf); first | (refine And.intro (by first | omega | exact Nat.le_of_ble_eq_true rfl | (dsimp only [inK]; omega) | (simp only [mulS_eq]; omega) | (simp only [mulS_eq, setL_length]; omega) | (simp only [setL_length, List.length_map]; omega) | exact ⟨by omega, by omega, by first | exact Nat.le_of_ble_eq_true rfl | (dsimp only; omega) | (simp only [setL_length]; omega) | (simp only [setL_length, List.length_map]; omega)⟩ | exact ⟨by omega, by first | rfl | omega, by omega, Nat.le_of_ble_eq_true rfl, Nat.le_of_ble_eq_true rfl⟩ | exact ⟨rfl, rfl, rfl, Nat.le_of_ble_eq_true rfl, by first | rfl | omega | exact Nat.le_of_ble_eq_true rfl | (dsimp only; omega) | (simp; done) | (simp; omega), by first | rfl | omega | exact Nat.le_of_ble_eq_true rfl | (dsimp only; omega) | (simp; done) | (simp; omega), by omega, Nat.le_of_ble_eq_true rfl⟩ | exact Eq.refl true) ?_) | (refine Exists.intro _ (And.intro rfl ?_)) | (refine And.intro (And.intro rfl (chk_rowI _ _ _ _)) ?_) | (refine br_t (by omega) ?_) | (refine br_f (by omega) ?_) | (refine bs_t (by omega) ?_) | (refine bs_f (by omega) ?_) | (refine fun (K' : K3) hK' => ?_) | (refine hK' _ _ _ ?_; clear hK' K') | (refine draw_auto tok mixed (by kernel_rfl) ?_) | (refine CallK.val (R := []) (many_spec j hs.len hs.be) (by kernel_rfl) rfl (by simp [V.wf, A.wf, C.wf]) ⟨roE_id (by omega) (wf_sls _ _ _ (by omega)) rfl (.inr rfl) rfl, trivial⟩ rfl rfl trivial ?_) | (refine bs_bt (Eq.refl true) ?_) | (refine bs_bf (Eq.refl false) ?_) | (refine br_bt (Eq.refl true) ?_) | (refine br_bf (Eq.refl false) ?_) | (refine CallK.m ?_) | (refine Two.l ?_) | (refine And.intro (And.intro rfl rfl) ?_))
      rw [← bestO_of hj hlt]
      exact .inr ⟨33, by rw [natsC_len]; rfl, rfl⟩
end Go.Proofs.Ytjijjncddjkdlaa

