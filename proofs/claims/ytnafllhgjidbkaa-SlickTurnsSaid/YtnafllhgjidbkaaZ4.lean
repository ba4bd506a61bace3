/- Texts of the proof, part 4: T57, T58, T59, T60, T61, T62, M1, L6, T63, L5. -/
import Derived.Test.YtnafllhgjidbkaaZ3
import Derived.Test.YtnafllhgjidbkaaRows
import Derived.WalkKit
import Derived.WalkSpells
import Derived.WalkLawsBesides
import Derived.Deep.QuietTactic
import Derived.BigQuiet
import Derived.Lib.Hide
import Derived.OwnWalk
import Derived.ProofKit
import Derived.OpenShut
import Derived.Lib.SmallJoins
import Derived.Deep.Slices
import Derived.Below
import Derived.Laws.OwnMore
import Derived.Maps.AppendAt
import Derived.Laws.IdiomCopy
import Derived.Laws.CopyRow
import Derived.IntWalk
import Derived.StillTail
import Derived.Scope
import Derived.ChangeKeysEq
import Derived.Laws.Small
import Derived.KernelRfl
import Derived.RangeFuncNested
import Derived.RangeFuncBound
import Derived.RangeFuncCalls
import Derived.RangeFuncLeaves
import Derived.RangeFuncBox
import Derived.Shelf.Abstract
import Derived.Shelf.RegionOpen
import Derived.OwnWalkIn
import Derived.TacticsInMore
import Derived.LoopNIn
import Derived.LoopIn
import Derived.Sort.QuietIn
import Derived.StillTailTactics
import Derived.OrdersIn
import Derived.Deep.RegionHeld3
/- Lists turned in place, and copies of lists: Reverse and Clone. -/
namespace Go.Proofs.Ytnafllhgjidbkaa
open Go.RowKit
set_option linter.unusedVariables false
set_option linter.unusedSimpArgs false
/-- A part of a list, turned at its first x places. -/
def revX {α : Type} (l : List α) (d : α) (o n x : Nat) : List α := (List.range l.length).map fun j => if (o ≤ j ∧ j < o + n) ∧ (j < o + x ∨ o + n ≤ j + x) then l.getD (2 * o + n - 1 - j) d else l.getD j d
theorem revX_len {α : Type} (l : List α) (d : α) (o n x : Nat) : (revX l d o n x).length = l.length := by simp [revX]
theorem revX_get {α : Type} {l : List α} {d : α} {o n x j : Nat} (h : j < l.length) : (revX l d o n x).getD j d = if (o ≤ j ∧ j < o + n) ∧ (j < o + x ∨ o + n ≤ j + x) then l.getD (2 * o + n - 1 - j) d else l.getD j d := by
  simp [revX, List.getD_eq_getElem?_getD, h]
theorem ext_getD {α : Type} {l m : List α} (d : α) (h : l.length = m.length) (hg : ∀ j, j < l.length → l.getD j d = m.getD j d) : l = m := by
  apply List.ext_getElem h
  intro j h1 h2
  have := hg j h1
  simpa [List.getD_eq_getElem?_getD, h1, h2] using this
theorem revX_zero {α : Type} (l : List α) (d : α) (o n : Nat) : revX l d o n 0 = l := by
  refine ext_getD d (revX_len ..) (fun j hj => ?_)
  rw [revX_len] at hj
  rw [revX_get hj, if_neg (by omega)]
theorem getD_set {α : Type} (l : List α) (x j : Nat) (b d : α) (hx : x < l.length) : (l.set x b).getD j d = if j = x then b else l.getD j d := by
  simp only [List.getD_eq_getElem?_getD, List.getElem?_set]
  by_cases h : x = j
  · subst h; simp [hx]
  · rw [if_neg h, if_neg (by omega)]
theorem revX_step {α : Type} {l : List α} {d : α} {o n x : Nat} (hl : o + n ≤ l.length) (hx : 2 * x + 1 < n) :
    ((revX l d o n x).set (o + x) ((revX l d o n x).getD (o + (n - 1 - x)) d)).set (o + (n - 1 - x)) ((revX l d o n x).getD (o + x) d) = revX l d o n (x + 1) := by
  refine ext_getD d (by simp [revX_len]) (fun j hj => ?_)
  simp only [List.length_set, revX_len] at hj
  rw [getD_set _ _ _ _ _ (by simp [revX_len]; omega), getD_set _ _ _ _ _ (by rw [revX_len]; omega), revX_get (by omega), revX_get (by omega), revX_get hj, revX_get hj]
  by_cases h1 : j = o + (n - 1 - x)
  · subst h1
    rw [if_pos rfl, if_neg (by omega), if_pos (by omega)]
    congr 1; omega
  · rw [if_neg h1]
    by_cases h2 : j = o + x
    · subst h2
      rw [if_pos rfl, if_neg (by omega), if_pos (by omega)]
      congr 1; omega
    · rw [if_neg h2]
      by_cases h3 : (o ≤ j ∧ j < o + n) ∧ (j < o + x ∨ o + n ≤ j + x)
      · rw [if_pos h3, if_pos (by omega)]
      · rw [if_neg h3, if_neg (by omega)]
/-- The part is turned once its halves have met. -/
theorem revX_done {α : Type} {l : List α} {d : α} {o n x : Nat} (hx : n ≤ 2 * x + 1) : revX l d o n x = revX l d o n n := by
  refine ext_getD d (by simp [revX_len]) (fun j hj => ?_)
  rw [revX_len] at hj
  rw [revX_get hj, revX_get hj]
  by_cases h3 : (o ≤ j ∧ j < o + n) ∧ (j < o + x ∨ o + n ≤ j + x)
  · rw [if_pos h3, if_pos (by omega)]
  · rw [if_neg h3]
    by_cases h4 : o ≤ j ∧ j < o + n
    · rw [if_pos (by omega)]
      congr 1; omega
    · rw [if_neg (by omega)]
theorem boolSub {l : List Bool} {o k : Nat} {z : Int} (hz : z = k) (h : o + k < l.length) : (l.map C.bool)[addO o (mulS z.toNat 1)]? = some (C.bool (l.getD (o + k) false)) := by
  subst hz
  rw [addO_eq, mulS_eq]
  simp [List.getD_eq_getElem?_getD, h]
theorem bool_swap {l : List Bool} {o i j : Nat} {zi zj : Int} {u v : Bool} (hi : zi = i) (hj : zj = j) : setL (setL (l.map C.bool) (addO o (mulS zi.toNat 1)) [C.bool u]) (addO o (mulS zj.toNat 1)) [C.bool v] = ((l.set (o + i) u).set (o + j) v).map C.bool := by
  subst hi hj
  simp only [addO_eq, mulS_eq, setL, Int.toNat_natCast, Nat.mul_one, List.map_set]
theorem CallK.row {P : Program} {n0 nx nac : Nat} {f : FuncId} {vs vs' : List V} {Lc L : List E} {R : Rn} {K : V → List E → Nat → Prop} {e z n : Nat} {cs : List C} (hok : callB P f = true) (spec : Spec P f vs Lc nac (fun v L' _ => ∃ l, v = V.c (.sl l n) ∧ find L' l = some ⟨l, .vec e z, cs⟩))
    (hv : renVs R vs = some vs') (hvw : ∀ v ∈ vs, v.wf nac) (hL : roL R nac L Lc) (hLc : injB [] Lc = true) (hcw : ∀ m, ∀ c ∈ cs, c.wf m) (hcr : ∀ R, seqO (cs.map (C.ren R)) = some cs) (hcc : ∀ p, cs.all (C.chk p) = true)
    (hK : K (V.c (.sl nx n)) [⟨nx, .vec e z, cs⟩] (nx + 1)) : CallK P n0 f vs' L nx K := by
  refine CallK.mk' hok spec hv hvw hL hLc ?_
  rintro v L' nx' hw ⟨l, rfl, hf⟩
  have hr : renL [(nx, some l)] nx = some l := by simp [renL]
  have hin : inLab nx (nx + 1) nx = true := by simp [inLab, Nat.ble_eq, Nat.blt_eq]
  refine ⟨V.c (.sl nx n), [⟨nx, .vec e z, cs⟩], nx + 1, [(nx, some l)], ⟨Nat.le_succ _, ?_, ?_, ⟨covE_some hr (Nat.lt_succ_self nx) (hcw _) hf (hcr _), trivial⟩, rfl, ?_⟩, hK⟩
  · simp only [V.ren, A.ren, C.ren, hr]
  · simp only [V.chk, A.chk, C.chk]; exact hin
  · simp only [List.all_cons, List.all_nil, Bool.and_true, hin, Kd.isRo, Bool.not_false, Bool.true_and]
    exact hcc _
theorem chk_bools (p : Nat → Bool) (l : List Bool) : (l.map C.bool).all (C.chk p) = true := List.all_eq_true.2 fun c hc => by
  obtain ⟨x, _, rfl⟩ := List.mem_map.1 hc; rfl
theorem chk_shares (p : Nat → Bool) (l : List Five) : (shareC l).all (C.chk p) = true := List.all_eq_true.2 fun c hc => by
  obtain ⟨j, _, hc⟩ := List.mem_flatMap.1 hc
  simp only [fiveC, List.mem_cons, List.not_mem_nil, or_false] at hc
  rcases hc with rfl | rfl | rfl | rfl | rfl <;> rfl
theorem ren_sharesX (R : Rn) (l : List Five) : seqO ((shareC l).map (C.ren R)) = some (shareC l) := seqO_fix fun c hc => by
  obtain ⟨j, _, hc⟩ := List.mem_flatMap.1 hc
  simp only [fiveC, List.mem_cons, List.not_mem_nil, or_false] at hc
  rcases hc with rfl | rfl | rfl | rfl | rfl <;> rfl
theorem share_len (l : List Five) : (shareC l).length = l.length * 5 := by
  induction l with
  | nil => rfl
  | cons x r ih => simp only [shareC, List.flatMap_cons, List.length_append, List.length_cons] at *; rw [ih]; simp only [fiveC, List.length_cons, List.length_nil]; omega
set_option maxRecDepth 100000 in
theorem cloneb_spec (ls : List Bool) (h0 : 0 < ls.length) (hn : ls.length ≤ 1000) :
    Spec Try.prog 64 [V.c (.sl 0 ls.length)] [⟨0, .ro 0, ls.map C.bool⟩] 1 (fun v L' _ => ∃ l, v = V.c (.sl l ls.length) ∧ find L' l = some ⟨l, .vec 4 1, ls.map C.bool⟩) := by
  have hlen : (ls.map C.bool).length = ls.length := List.length_map ..
  have ht : ([] : List C) ++ (ls.map C.bool).take (ls.length * 1) = ls.map C.bool := by rw [List.nil_append, Nat.mul_one, ← hlen, List.take_length]
  have hz : 0 + ls.length = ls.length := Nat.zero_add _
  refine Spec.of tok Try.func64 rfl rfl rfl fun n0 => vc_ok tok ?_
  repeat ((conv => whnf); first
      | (refine And.intro (by first | omega | exact Nat.le_of_ble_eq_true rfl | (dsimp only [inK]; omega) | (simp only [mulS_eq]; omega) | (simp only [mulS_eq, setL_length]; omega) | (simp only [setL_length, List.length_map]; omega) | exact ⟨by omega, by omega, by first | exact Nat.le_of_ble_eq_true rfl | (dsimp only; omega) | (simp only [setL_length]; omega) | (simp only [setL_length, List.length_map]; omega)⟩ | exact ⟨by omega, by first | rfl | omega, by omega, Nat.le_of_ble_eq_true rfl, Nat.le_of_ble_eq_true rfl⟩ | exact ⟨rfl, rfl, rfl, Nat.le_of_ble_eq_true rfl, by first | rfl | omega | exact Nat.le_of_ble_eq_true rfl | (simp; done) | (simp; omega), by first | rfl | omega | exact Nat.le_of_ble_eq_true rfl | (simp; done) | (simp; omega), by omega, Nat.le_of_ble_eq_true rfl⟩ | exact Eq.refl true) ?_)
      | (refine Exists.intro _ (And.intro rfl ?_))
      | (refine And.intro (And.intro rfl (chk_rowI _ _ _ _)) ?_)
      | (refine br_t (by omega) ?_)
      | (refine br_f (by omega) ?_)
      | (refine bs_t (by omega) ?_)
      | (refine bs_f (by omega) ?_)
      | (refine fun (K' : K3) hK' => ?_)
      | (refine hK' _ _ _ ?_; clear hK' K')
      | (refine draw_auto tok mixed (by kernel_rfl) ?_)
      | (refine CallK.m ?_)
      | (refine And.intro (And.intro rfl rfl) ?_))
  refine ⟨2, congrArg (fun m => V.c (.sl 2 m)) hz, ?_⟩
  exact congrArg (fun m => some (E.mk 2 (.vec 4 1) m)) ht
set_option maxRecDepth 100000 in
theorem clones_spec (fs : List Five) (h0 : 0 < fs.length) (hn : fs.length ≤ 1000) :
    Spec Try.prog 65 [V.c (.sl 0 fs.length)] [⟨0, .ro 0, shareC fs⟩] 1 (fun v L' _ => ∃ l, v = V.c (.sl l fs.length) ∧ find L' l = some ⟨l, .vec 74 5, shareC fs⟩) := by
  have hlen := share_len fs
  have ht : ([] : List C) ++ (shareC fs).take (fs.length * 5) = shareC fs := by rw [List.nil_append, ← hlen, List.take_length]
  have hz : 0 + fs.length = fs.length := Nat.zero_add _
  refine Spec.of tok Try.func65 rfl rfl rfl fun n0 => vc_ok tok ?_
  repeat ((conv => whnf); first
      | (refine And.intro (by first | omega | exact Nat.le_of_ble_eq_true rfl | (dsimp only [inK]; omega) | (simp only [mulS_eq]; omega) | (simp only [mulS_eq, setL_length]; omega) | (simp only [setL_length, List.length_map]; omega) | exact ⟨by omega, by omega, by first | exact Nat.le_of_ble_eq_true rfl | (dsimp only; omega) | (simp only [setL_length]; omega) | (simp only [setL_length, List.length_map]; omega)⟩ | exact ⟨by omega, by first | rfl | omega, by omega, Nat.le_of_ble_eq_true rfl, Nat.le_of_ble_eq_true rfl⟩ | exact ⟨rfl, rfl, rfl, Nat.le_of_ble_eq_true rfl, by first | rfl | omega | exact Nat.le_of_ble_eq_true rfl | (simp; done) | (simp; omega), by first | rfl | omega | exact Nat.le_of_ble_eq_true rfl | (simp; done) | (simp; omega), by omega, Nat.le_of_ble_eq_true rfl⟩ | exact Eq.refl true) ?_)
      | (refine Exists.intro _ (And.intro rfl ?_))
      | (refine And.intro (And.intro rfl (chk_rowI _ _ _ _)) ?_)
      | (refine br_t (by omega) ?_)
      | (refine br_f (by omega) ?_)
      | (refine bs_t (by omega) ?_)
      | (refine bs_f (by omega) ?_)
      | (refine fun (K' : K3) hK' => ?_)
      | (refine hK' _ _ _ ?_; clear hK' K')
      | (refine draw_auto tok mixed (by kernel_rfl) ?_)
      | (refine CallK.m ?_)
      | (refine And.intro (And.intro rfl rfl) ?_))
  refine ⟨2, congrArg (fun m => V.c (.sl 2 m)) hz, ?_⟩
  exact congrArg (fun m => some (E.mk 2 (.vec 74 5) m)) ht
theorem cloneb_k {n0 nx a : Nat} {k : Kd} {ls : List Bool} {L : List E} {K : V → List E → Nat → Prop} (h0 : 0 < ls.length) (hn : ls.length ≤ 1000) (ha : find L a = some ⟨a, k, ls.map C.bool⟩) (hK : K (V.c (.sl nx ls.length)) [⟨nx, .vec 4 1, ls.map C.bool⟩] (nx + 1)) :
    CallK Try.prog n0 64 [V.c (.sl a ls.length)] L nx K :=
  CallK.row (R := [(0, some a)]) (by kernel_rfl) (cloneb_spec ls h0 hn) rfl (by intro v hv; simp only [List.mem_singleton] at hv; subst hv; exact Nat.one_pos) ⟨⟨Nat.one_pos, wf_bools _ _, k, _, ha, .inl rfl, ren_bools _ _⟩, trivial⟩ rfl (fun m => wf_bools m _) (fun R => ren_bools R _) (fun p => chk_bools p _) hK
theorem clones_k {n0 nx a : Nat} {k : Kd} {fs : List Five} {L : List E} {K : V → List E → Nat → Prop} (h0 : 0 < fs.length) (hn : fs.length ≤ 1000) (ha : find L a = some ⟨a, k, shareC fs⟩) (hK : K (V.c (.sl nx fs.length)) [⟨nx, .vec 74 5, shareC fs⟩] (nx + 1)) :
    CallK Try.prog n0 65 [V.c (.sl a fs.length)] L nx K :=
  CallK.row (R := [(0, some a)]) (by kernel_rfl) (clones_spec fs h0 hn) rfl (by intro v hv; simp only [List.mem_singleton] at hv; subst hv; exact Nat.one_pos) ⟨⟨Nat.one_pos, wf_shares _ _, k, _, ha, .inl rfl, ren_sharesX _ _⟩, trivial⟩ rfl (fun m => wf_shares m _) (fun R => ren_sharesX R _) (fun p => chk_shares p _) hK
/-- What lies before Mirror's turns. -/
@[reducible] def ctxM (B : Bay) (ls : List Bool) (fs : List C) : List E :=
  [⟨0, .ro 0, B.Land.map C.bool⟩, ⟨1, .ro 0, shareC B.Share⟩, ⟨2, .own 25, [C.i B.W, C.i B.H, C.sl 0 B.Land.length, C.sl 1 B.Share.length]⟩, ⟨3, .own 25, [C.i 0, C.i 0, C.nil, C.nil]⟩,
    ⟨4, .vec 4 1, ls.map C.bool⟩, ⟨5, .vec 74 5, fs⟩, ⟨6, .own 25, [C.i B.W, C.i B.H, C.sl 4 B.Land.length, C.sl 5 B.Share.length]⟩]
set_option maxRecDepth 100000 in
theorem revb_spec (B : Bay) (ls : List Bool) (fs : List C) (o n k : Nat) (hfs : ∀ c ∈ fs, c.wf 7) (hl : o + n ≤ ls.length) (hn : n ≤ 1000) (hrf : seqO (fs.map (C.ren [])) = some fs) :
    SpecM Try.prog 66 [V.c (.sub 4 o n k)] (ctxM B ls fs) 7 (fun v L' nx' => v = V.tup [] ∧ L' = ctxM B (revX ls false o n n) fs ∧ nx' = 7) := by
  refine SpecM.of tok Try.func66 rfl rfl rfl fun n0 => vc_ok tok ?_
  repeat ((conv => whnf); first
      | (refine And.intro (by first | omega | exact Nat.le_of_ble_eq_true rfl | (dsimp only [inK]; omega) | (simp only [mulS_eq]; omega) | (simp only [mulS_eq, setL_length]; omega) | (simp only [setL_length, List.length_map]; omega) | exact ⟨by omega, by omega, by first | exact Nat.le_of_ble_eq_true rfl | (dsimp only; omega) | (simp only [setL_length]; omega) | (simp only [setL_length, List.length_map]; omega)⟩ | exact ⟨by omega, by first | rfl | omega, by omega, Nat.le_of_ble_eq_true rfl, Nat.le_of_ble_eq_true rfl⟩ | exact ⟨rfl, rfl, rfl, Nat.le_of_ble_eq_true rfl, by first | rfl | omega | exact Nat.le_of_ble_eq_true rfl | (simp; done) | (simp; omega), by first | rfl | omega | exact Nat.le_of_ble_eq_true rfl | (simp; done) | (simp; omega), by omega, Nat.le_of_ble_eq_true rfl⟩ | exact Eq.refl true) ?_)
      | (refine Exists.intro _ (And.intro rfl ?_))
      | (refine And.intro (And.intro rfl (chk_rowI _ _ _ _)) ?_)
      | (refine br_t (by omega) ?_)
      | (refine br_f (by omega) ?_)
      | (refine bs_t (by omega) ?_)
      | (refine bs_f (by omega) ?_)
      | (refine fun (K' : K3) hK' => ?_)
      | (refine hK' _ _ _ ?_; clear hK' K')
      | (refine draw_auto tok mixed (by kernel_rfl) ?_)
      | (refine CallK.m ?_)
      | (refine And.intro (And.intro rfl rfl) ?_))
  refine Tri.loop (γ := Nat) (fun x => 2 * x ≤ n + 1 ∧ (1 ≤ n ∨ x = 0)) (fun x => [(0, V.c (.sub 4 o n k)), (2, V.i (x : Int)), (3, V.i ((n : Int) - 1 - x))])
    (fun x => ctxM B (revX ls false o n x) fs) 7 (fun x => n + 1 - 2 * x) 0 (R0 := []) ?_ ?_ ?_
  · exact ⟨by omega, by omega⟩
  · rw [revX_zero]
    refine ⟨?_, ?_, rfl, rfl, Nat.le_of_ble_eq_true rfl⟩
    · repeat (first | exact trivial | refine And.intro (covS_syn (by first | rfl | (refine congrArg some (congrArg V.i ?_); omega)) rfl (by first | exact trivial | exact Nat.le_of_ble_eq_true rfl)) ?_ | refine And.intro (covS_bool rfl rfl (by first | rfl)) ?_)
    · repeat (first | exact trivial | refine And.intro (covE_id (Nat.le_of_ble_eq_true rfl) (by first | exact wf_ints _ _ | exact wf_bools _ _ | first | exact wf_shares _ _ | exact hfs | simp [C.wf]) rfl (by first | rfl | (fail))) ?_)
  · rintro x ⟨hx, hx1⟩
    refine vc_ok tok ?_
    by_cases hlt : 2 * x + 1 < n
    · have hb : o + (n - 1 - x) < (revX ls false o n x).length := by rw [revX_len]; omega
      have ha : o + x < (revX ls false o n x).length := by rw [revX_len]; omega
      have hj : (n : Int) - 1 - x = ((n - 1 - x : Nat) : Int) := by omega
      have hlen : ((revX ls false o n x).map C.bool).length = ls.length := by rw [List.length_map, revX_len]
      have hset := revX_step (l := ls) (d := false) hl hlt
      repeat ((conv => whnf); first
          | (refine And.intro (by first | omega | exact Nat.le_of_ble_eq_true rfl | (dsimp only [inK]; omega) | (simp only [mulS_eq]; omega) | (simp only [mulS_eq, setL_length]; omega) | (simp only [setL_length, List.length_map]; omega) | exact ⟨by omega, by omega, by first | exact Nat.le_of_ble_eq_true rfl | (dsimp only; omega) | (simp only [setL_length]; omega) | (simp only [setL_length, List.length_map]; omega)⟩ | exact ⟨by omega, by first | rfl | omega, by omega, Nat.le_of_ble_eq_true rfl, Nat.le_of_ble_eq_true rfl⟩ | exact ⟨rfl, rfl, rfl, Nat.le_of_ble_eq_true rfl, by first | rfl | omega | exact Nat.le_of_ble_eq_true rfl | (simp; done) | (simp; omega), by first | rfl | omega | exact Nat.le_of_ble_eq_true rfl | (simp; done) | (simp; omega), by omega, Nat.le_of_ble_eq_true rfl⟩ | exact Eq.refl true) ?_)
          | (with_reducible refine ld (boolSub hj hb) ?_)
          | (with_reducible refine ld (boolSub rfl ha) ?_)
          | (refine Exists.intro _ (And.intro rfl ?_))
          | (refine And.intro (And.intro rfl (chk_rowI _ _ _ _)) ?_)
          | (refine br_t (by omega) ?_)
          | (refine br_f (by omega) ?_)
          | (refine bs_t (by omega) ?_)
          | (refine bs_f (by omega) ?_)
          | (refine fun (K' : K3) hK' => ?_)
          | (refine hK' _ _ _ ?_; clear hK' K')
          | (refine draw_late 14 [4] tok mixed (by kernel_rfl) ?_)
          | (refine draw_auto tok mixed (by kernel_rfl) ?_)
          | (refine And.intro (by dsimp only; simp only [addO_eq, mulS_eq, setL_length, List.length_map, revX_len]; omega) ?_)
          | (refine CallK.m ?_)
          | (refine And.intro (And.intro rfl rfl) ?_))
      refine ⟨x + 1, [], ⟨by omega, by omega⟩, by omega, ?_⟩
      refine ⟨?_, ?_, rfl, rfl, Nat.le_of_ble_eq_true rfl⟩
      · repeat (first | exact trivial | refine And.intro (covS_syn (by first | rfl | (refine congrArg some (congrArg V.i ?_); omega)) rfl (by first | exact trivial | exact Nat.le_of_ble_eq_true rfl)) ?_ | refine And.intro (covS_bool rfl rfl (by first | rfl)) ?_)
      · repeat (first | exact trivial | refine And.intro (covE_id (Nat.le_of_ble_eq_true rfl) (by first | exact wf_ints _ _ | exact wf_bools _ _ | first | exact wf_shares _ _ | exact hfs | simp [C.wf]) rfl (by first | rfl | ((rw [← hset]; exact bool_swap rfl hj)))) ?_)
    · have hd := revX_done (l := ls) (d := false) (o := o) (n := n) (x := x) (by omega)
      repeat ((conv => whnf); first
          | (refine And.intro (by first | omega | exact Nat.le_of_ble_eq_true rfl | (dsimp only [inK]; omega) | (simp only [mulS_eq]; omega) | (simp only [mulS_eq, setL_length]; omega) | (simp only [setL_length, List.length_map]; omega) | exact ⟨by omega, by omega, by first | exact Nat.le_of_ble_eq_true rfl | (dsimp only; omega) | (simp only [setL_length]; omega) | (simp only [setL_length, List.length_map]; omega)⟩ | exact ⟨by omega, by first | rfl | omega, by omega, Nat.le_of_ble_eq_true rfl, Nat.le_of_ble_eq_true rfl⟩ | exact ⟨rfl, rfl, rfl, Nat.le_of_ble_eq_true rfl, by first | rfl | omega | exact Nat.le_of_ble_eq_true rfl | (simp; done) | (simp; omega), by first | rfl | omega | exact Nat.le_of_ble_eq_true rfl | (simp; done) | (simp; omega), by omega, Nat.le_of_ble_eq_true rfl⟩ | exact Eq.refl true) ?_)
          | (refine Exists.intro _ (And.intro rfl ?_))
          | (refine And.intro (And.intro rfl (chk_rowI _ _ _ _)) ?_)
          | (refine br_t (by omega) ?_)
          | (refine br_f (by omega) ?_)
          | (refine bs_t (by omega) ?_)
          | (refine bs_f (by omega) ?_)
          | (refine fun (K' : K3) hK' => ?_)
          | (refine hK' _ _ _ ?_; clear hK' K')
          | (refine draw_auto tok mixed (by kernel_rfl) ?_)
          | (refine CallK.m ?_)
          | (refine And.intro (And.intro rfl rfl) ?_))
      exact ⟨rfl, by rw [hd], rfl⟩
def d0 : Five := (0, 0, 0, 0, 0)
theorem share_at : ∀ {l : List Five} {j : Nat}, j < l.length → ∀ i, i < 5 → (shareC l)[j * 5 + i]? = (fiveC (l.getD j d0))[i]?
  | x :: r, 0, _, i, hi => by
    show (fiveC x ++ shareC r)[0 * 5 + i]? = _
    rw [Nat.zero_mul, Nat.zero_add, List.getElem?_append_left (by simpa [fiveC] using hi)]
    rfl
  | x :: r, j + 1, h, i, hi => by
    show (fiveC x ++ shareC r)[(j + 1) * 5 + i]? = _
    have hl : (fiveC x).length = 5 := rfl
    rw [List.getElem?_append_right (by rw [hl]; omega), hl, show (j + 1) * 5 + i - 5 = j * 5 + i by omega, share_at (by simpa using h) i hi]
    rfl
theorem takeShare {l : List Five} {off o k : Nat} {z : Int} (ho : off = o * 5) (hz : z = k) (h : o + k < l.length) : takeC (shareC l) (addO off (mulS z.toNat 5)) 5 = some (fiveC (l.getD (o + k) d0)) := by
  subst hz ho
  rw [addO_eq, mulS_eq, show o * 5 + (k : Int).toNat * 5 = (o + k) * 5 by rw [Int.toNat_natCast, Nat.add_mul]]
  exact takeC_of rfl (fun i hi => share_at h i hi)
theorem share_set : ∀ {l : List Five} {j : Nat} (v : Five), j < l.length → setL (shareC l) (j * 5) (fiveC v) = shareC (l.set j v)
  | x :: r, 0, v, _ => by
    simp only [shareC, List.flatMap_cons, fiveC, setL, Nat.zero_mul, List.cons_append, List.nil_append, List.set_cons_zero, List.set_cons_succ, Nat.zero_add, Nat.reduceAdd]
  | x :: r, j + 1, v, h => by
    have hl : (fiveC x).length = 5 := rfl
    have ih := share_set (l := r) (j := j) v (by simpa using h)
    have e : shareC (x :: r) = fiveC x ++ shareC r := rfl
    have e2 : shareC ((x :: r).set (j + 1) v) = fiveC x ++ shareC (r.set j v) := rfl
    rw [e, e2, ← ih]
    have key : ∀ (vs cs : List C) (o : Nat), setL (fiveC x ++ cs) (5 + o) vs = fiveC x ++ setL cs o vs := by
      intro vs
      induction vs with
      | nil => intro cs o; rfl
      | cons w t iht =>
        intro cs o
        simp only [setL]
        have hs : (fiveC x ++ cs).set (5 + o) w = fiveC x ++ cs.set o w := by rw [List.set_append, if_neg (by rw [hl]; omega), hl, show 5 + o - 5 = o by omega]
        rw [hs, show 5 + o + 1 = 5 + (o + 1) by omega]
        exact iht _ _
    rw [show (j + 1) * 5 = 5 + j * 5 by omega]
    exact key _ _ _
theorem share_swap {l : List Five} {off o i j : Nat} {zi zj : Int} {u v : Five} (ho : off = o * 5) (hi : zi = i) (hj : zj = j) (h1 : o + i < l.length) (h2 : o + j < l.length) :
    setL (setL (shareC l) (addO off (mulS zi.toNat 5)) (fiveC u)) (addO off (mulS zj.toNat 5)) (fiveC v) = shareC ((l.set (o + i) u).set (o + j) v) := by
  subst hi hj ho
  rw [addO_eq, mulS_eq, addO_eq, mulS_eq, show o * 5 + (i : Int).toNat * 5 = (o + i) * 5 by rw [Int.toNat_natCast, Nat.add_mul], show o * 5 + (j : Int).toNat * 5 = (o + j) * 5 by rw [Int.toNat_natCast, Nat.add_mul], share_set _ h1, share_set _ (by simpa using h2)]
set_option maxRecDepth 100000 in
theorem revs_spec (B : Bay) (ls : List Bool) (fs : List Five) (off o n k : Nat) (ho : off = o * 5) (hl : o + n ≤ fs.length) (hn : n ≤ 1000) :
    SpecM Try.prog 67 [V.c (.sub 5 off n k)] (ctxM B ls (shareC fs)) 7 (fun v L' nx' => v = V.tup [] ∧ L' = ctxM B ls (shareC (revX fs d0 o n n)) ∧ nx' = 7) := by
  refine SpecM.of tok Try.func67 rfl rfl rfl fun n0 => vc_ok tok ?_
  have hfs := wf_shares 7 (revX fs d0 o n n)
  repeat ((conv => whnf); first
      | (refine And.intro (by first | omega | exact Nat.le_of_ble_eq_true rfl | (dsimp only [inK]; omega) | (simp only [mulS_eq]; omega) | (simp only [mulS_eq, setL_length]; omega) | (simp only [setL_length, List.length_map]; omega) | exact ⟨by omega, by omega, by first | exact Nat.le_of_ble_eq_true rfl | (dsimp only; omega) | (simp only [setL_length]; omega) | (simp only [setL_length, List.length_map]; omega)⟩ | exact ⟨by omega, by first | rfl | omega, by omega, Nat.le_of_ble_eq_true rfl, Nat.le_of_ble_eq_true rfl⟩ | exact ⟨rfl, rfl, rfl, Nat.le_of_ble_eq_true rfl, by first | rfl | omega | exact Nat.le_of_ble_eq_true rfl | (simp; done) | (simp; omega), by first | rfl | omega | exact Nat.le_of_ble_eq_true rfl | (simp; done) | (simp; omega), by omega, Nat.le_of_ble_eq_true rfl⟩ | exact Eq.refl true) ?_)
      | (refine Exists.intro _ (And.intro rfl ?_))
      | (refine And.intro (And.intro rfl (chk_rowI _ _ _ _)) ?_)
      | (refine br_t (by omega) ?_)
      | (refine br_f (by omega) ?_)
      | (refine bs_t (by omega) ?_)
      | (refine bs_f (by omega) ?_)
      | (refine fun (K' : K3) hK' => ?_)
      | (refine hK' _ _ _ ?_; clear hK' K')
      | (refine draw_auto tok mixed (by kernel_rfl) ?_)
      | (refine CallK.m ?_)
      | (refine And.intro (And.intro rfl rfl) ?_))
  refine Tri.loop (γ := Nat) (fun x => 2 * x ≤ n + 1 ∧ (1 ≤ n ∨ x = 0)) (fun x => [(0, V.c (.sub 5 off n k)), (2, V.i (x : Int)), (3, V.i ((n : Int) - 1 - x))])
    (fun x => ctxM B ls (shareC (revX fs d0 o n x))) 7 (fun x => n + 1 - 2 * x) 0 (R0 := []) ?_ ?_ ?_
  · exact ⟨by omega, by omega⟩
  · rw [revX_zero]
    refine ⟨?_, ?_, rfl, rfl, Nat.le_of_ble_eq_true rfl⟩
    · repeat (first | exact trivial | refine And.intro (covS_syn (by first | rfl | (refine congrArg some (congrArg V.i ?_); omega)) rfl (by first | exact trivial | exact Nat.le_of_ble_eq_true rfl)) ?_ | refine And.intro (covS_bool rfl rfl (by first | rfl)) ?_)
    · repeat (first | exact trivial | refine And.intro (covE_id (Nat.le_of_ble_eq_true rfl) (by first | exact wf_ints _ _ | exact wf_bools _ _ | first | exact wf_shares _ _ | exact hfs | simp [C.wf]) rfl (by first | rfl | (fail))) ?_)
  · rintro x ⟨hx, hx1⟩
    refine vc_ok tok ?_
    by_cases hlt : 2 * x + 1 < n
    · have hb : o + (n - 1 - x) < (revX fs d0 o n x).length := by rw [revX_len]; omega
      have ha : o + x < (revX fs d0 o n x).length := by rw [revX_len]; omega
      have hj : (n : Int) - 1 - x = ((n - 1 - x : Nat) : Int) := by omega
      have hlen : (shareC (revX fs d0 o n x)).length = fs.length * 5 := by rw [share_len, revX_len]
      have hset := revX_step (l := fs) (d := d0) hl hlt
      repeat ((conv => whnf); first
          | (refine And.intro (by first | omega | exact Nat.le_of_ble_eq_true rfl | (dsimp only [inK]; omega) | (simp only [mulS_eq]; omega) | (simp only [mulS_eq, setL_length]; omega) | (simp only [setL_length, List.length_map]; omega) | exact ⟨by omega, by omega, by first | exact Nat.le_of_ble_eq_true rfl | (dsimp only; omega) | (simp only [setL_length]; omega) | (simp only [setL_length, List.length_map]; omega)⟩ | exact ⟨by omega, by first | rfl | omega, by omega, Nat.le_of_ble_eq_true rfl, Nat.le_of_ble_eq_true rfl⟩ | exact ⟨rfl, rfl, rfl, Nat.le_of_ble_eq_true rfl, by first | rfl | omega | exact Nat.le_of_ble_eq_true rfl | (simp; done) | (simp; omega), by first | rfl | omega | exact Nat.le_of_ble_eq_true rfl | (simp; done) | (simp; omega), by omega, Nat.le_of_ble_eq_true rfl⟩ | exact Eq.refl true) ?_)
          | (with_reducible refine ld (takeShare ho hj hb) ?_)
          | (with_reducible refine ld (takeShare ho rfl ha) ?_)
          | (refine Exists.intro _ (And.intro rfl ?_))
          | (refine And.intro (And.intro rfl (chk_rowI _ _ _ _)) ?_)
          | (refine br_t (by omega) ?_)
          | (refine br_f (by omega) ?_)
          | (refine bs_t (by omega) ?_)
          | (refine bs_f (by omega) ?_)
          | (refine fun (K' : K3) hK' => ?_)
          | (refine hK' _ _ _ ?_; clear hK' K')
          | (refine draw_late 14 [5] tok mixed (by kernel_rfl) ?_)
          | (refine draw_auto tok mixed (by kernel_rfl) ?_)
          | (refine And.intro (by dsimp only; simp only [addO_eq, mulS_eq, setL_length, hlen]; omega) ?_)
          | (refine CallK.m ?_)
          | (refine And.intro (And.intro rfl rfl) ?_))
      refine ⟨x + 1, [], ⟨by omega, by omega⟩, by omega, ?_⟩
      refine ⟨?_, ?_, rfl, rfl, Nat.le_of_ble_eq_true rfl⟩
      · repeat (first | exact trivial | refine And.intro (covS_syn (by first | rfl | (refine congrArg some (congrArg V.i ?_); omega)) rfl (by first | exact trivial | exact Nat.le_of_ble_eq_true rfl)) ?_ | refine And.intro (covS_bool rfl rfl (by first | rfl)) ?_)
      · repeat (first | exact trivial | refine And.intro (covE_id (Nat.le_of_ble_eq_true rfl) (by first | exact wf_ints _ _ | exact wf_bools _ _ | first | exact wf_shares _ _ | exact hfs | simp [C.wf]) rfl (by first | rfl | ((rw [← hset]; exact share_swap ho rfl hj ha hb)))) ?_)
    · have hd := revX_done (l := fs) (d := d0) (o := o) (n := n) (x := x) (by omega)
      repeat ((conv => whnf); first
          | (refine And.intro (by first | omega | exact Nat.le_of_ble_eq_true rfl | (dsimp only [inK]; omega) | (simp only [mulS_eq]; omega) | (simp only [mulS_eq, setL_length]; omega) | (simp only [setL_length, List.length_map]; omega) | exact ⟨by omega, by omega, by first | exact Nat.le_of_ble_eq_true rfl | (dsimp only; omega) | (simp only [setL_length]; omega) | (simp only [setL_length, List.length_map]; omega)⟩ | exact ⟨by omega, by first | rfl | omega, by omega, Nat.le_of_ble_eq_true rfl, Nat.le_of_ble_eq_true rfl⟩ | exact ⟨rfl, rfl, rfl, Nat.le_of_ble_eq_true rfl, by first | rfl | omega | exact Nat.le_of_ble_eq_true rfl | (simp; done) | (simp; omega), by first | rfl | omega | exact Nat.le_of_ble_eq_true rfl | (simp; done) | (simp; omega), by omega, Nat.le_of_ble_eq_true rfl⟩ | exact Eq.refl true) ?_)
          | (refine Exists.intro _ (And.intro rfl ?_))
          | (refine And.intro (And.intro rfl (chk_rowI _ _ _ _)) ?_)
          | (refine br_t (by omega) ?_)
          | (refine br_f (by omega) ?_)
          | (refine bs_t (by omega) ?_)
          | (refine bs_f (by omega) ?_)
          | (refine fun (K' : K3) hK' => ?_)
          | (refine hK' _ _ _ ?_; clear hK' K')
          | (refine draw_auto tok mixed (by kernel_rfl) ?_)
          | (refine CallK.m ?_)
          | (refine And.intro (And.intro rfl rfl) ?_))
      exact ⟨rfl, by rw [hd], rfl⟩
end Go.Proofs.Ytnafllhgjidbkaa

/- The mirrored bay. -/
namespace Go.Proofs.Ytnafllhgjidbkaa
open Go.RowKit
set_option linter.unusedVariables false
set_option linter.unusedSimpArgs false
def swp (x : Five) : Five := (x.1, x.2.1, x.2.2.2.2, x.2.2.2.1, x.2.2.1)
def mirI (W i : Nat) : Nat := i - i % W + W - 1 - i % W
/-- The first y rows, turned. -/
def mirRows {α : Type} (l : List α) (d : α) (W y : Nat) : List α := (List.range l.length).map fun j => if j < y * W then l.getD (mirI W j) d else l.getD j d
theorem mirRows_len {α : Type} (l : List α) (d : α) (W y : Nat) : (mirRows l d W y).length = l.length := by simp [mirRows]
theorem mirRows_get {α : Type} {l : List α} {d : α} {W y j : Nat} (h : j < l.length) : (mirRows l d W y).getD j d = if j < y * W then l.getD (mirI W j) d else l.getD j d := by
  simp [mirRows, List.getD_eq_getElem?_getD, h]
theorem mirRows_zero {α : Type} (l : List α) (d : α) (W : Nat) : mirRows l d W 0 = l := by
  refine ext_getD d (mirRows_len ..) (fun j hj => ?_)
  rw [mirRows_len] at hj
  rw [mirRows_get hj, if_neg (by omega)]
theorem mirI_row {W y r : Nat} (hr : r < W) : mirI W (y * W + r) = y * W + (W - 1 - r) := by
  unfold mirI
  rw [show (y * W + r) % W = r by rw [Nat.add_comm, Nat.add_mul_mod_self_right, Nat.mod_eq_of_lt hr]]
  omega
theorem mirRows_step {α : Type} {l : List α} {d : α} {W y : Nat} (hl : y * W + W ≤ l.length) : revX (mirRows l d W y) d (y * W) W W = mirRows l d W (y + 1) := by
  have hsucc : (y + 1) * W = y * W + W := Nat.succ_mul y W
  refine ext_getD d (by rw [revX_len, mirRows_len, mirRows_len]) (fun j hj => ?_)
  rw [revX_len, mirRows_len] at hj
  rw [revX_get (by rw [mirRows_len]; exact hj), mirRows_get (y := y + 1) hj, hsucc]
  by_cases h1 : j < y * W
  · rw [if_neg (by omega), mirRows_get hj, if_pos h1, if_pos (by omega)]
  · by_cases h2 : j < y * W + W
    · rw [if_pos (by omega), if_pos h2, mirRows_get (by omega), if_neg (by omega)]
      obtain ⟨r, rfl⟩ : ∃ r, j = y * W + r := ⟨j - y * W, by omega⟩
      rw [mirI_row (by omega)]
      congr 1; omega
    · rw [if_neg (by omega), mirRows_get hj, if_neg h1, if_neg h2]
def swRows (l : List Five) (k : Nat) : List Five := (List.range l.length).map fun j => if j < k then swp (l.getD j d0) else l.getD j d0
theorem swRows_len (l : List Five) (k : Nat) : (swRows l k).length = l.length := by simp [swRows]
theorem swRows_get {l : List Five} {k j : Nat} (h : j < l.length) : (swRows l k).getD j d0 = if j < k then swp (l.getD j d0) else l.getD j d0 := by
  simp [swRows, List.getD_eq_getElem?_getD, h]
theorem swRows_zero (l : List Five) : swRows l 0 = l := by
  refine ext_getD d0 (swRows_len ..) (fun j hj => ?_)
  rw [swRows_len] at hj
  rw [swRows_get hj, if_neg (by omega)]
theorem swRows_step {l : List Five} {k : Nat} (hk : k < l.length) : (swRows l k).set k (swp ((swRows l k).getD k d0)) = swRows l (k + 1) := by
  refine ext_getD d0 (by rw [List.length_set, swRows_len, swRows_len]) (fun j hj => ?_)
  rw [List.length_set, swRows_len] at hj
  have hkk : (swRows l k).getD k d0 = l.getD k d0 := by rw [swRows_get hk, if_neg (by omega)]
  rw [hkk, getD_set _ _ _ _ _ (by rw [swRows_len]; exact hk), swRows_get (k := k) hj, swRows_get (k := k + 1) hj]
  by_cases h : j = k
  · subst h; rw [if_pos rfl, if_pos (by omega)]
  · rw [if_neg h]
    by_cases h2 : j < k
    · rw [if_pos h2, if_pos (by omega)]
    · rw [if_neg h2, if_neg (by omega)]
theorem share_part : ∀ {l : List Five} {j : Nat}, j < l.length → setL (setL (shareC l) (j * 5 + 2) [C.i (l.getD j d0).2.2.2.2]) (j * 5 + 4) [C.i (l.getD j d0).2.2.1] = shareC (l.set j (swp (l.getD j d0)))
  | x :: r, 0, _ => by
    simp only [shareC, List.flatMap_cons, fiveC, setL, Nat.zero_mul, List.cons_append, List.nil_append, List.set_cons_zero, List.set_cons_succ, Nat.zero_add, Nat.reduceAdd, List.getD_cons_zero, swp]
  | x :: r, j + 1, h => by
    have hl : (fiveC x).length = 5 := rfl
    have ih := share_part (l := r) (j := j) (by simpa using h)
    have e : shareC (x :: r) = fiveC x ++ shareC r := rfl
    have e2 : ∀ v, shareC ((x :: r).set (j + 1) v) = fiveC x ++ shareC (r.set j v) := fun v => rfl
    have hs : ∀ (cs : List C) (o : Nat) (w : C), (fiveC x ++ cs).set (5 + o) w = fiveC x ++ cs.set o w := fun cs o w => by rw [List.set_append, if_neg (by rw [hl]; omega), hl, show 5 + o - 5 = o by omega]
    simp only [setL] at ih ⊢
    rw [e, e2, List.getD_cons_succ, ← ih, show (j + 1) * 5 + 2 = 5 + (j * 5 + 2) by omega, show (j + 1) * 5 + 4 = 5 + (j * 5 + 4) by omega, hs, hs]
theorem share_swp {l : List Five} {i : Nat} {z : Int} {a b : Int} (hz : z = i) (hi : i < l.length) (ha : a = (l.getD i d0).2.2.2.2) (hb : b = (l.getD i d0).2.2.1) :
    setL (setL (shareC l) (addO (mulS z.toNat 5) 2) [C.i a]) (addO (mulS z.toNat 5) 4) [C.i b] = shareC (l.set i (swp (l.getD i d0))) := by
  subst hz ha hb
  rw [addO_eq, addO_eq, mulS_eq, Int.toNat_natCast]
  exact share_part hi
def mirB (B : Bay) : Bay := ⟨B.W, B.H, mirRows B.Land false B.W.toNat B.H.toNat, swRows (mirRows B.Share d0 B.W.toNat B.H.toNat) B.Share.length⟩
noncomputable def mirE (B : Bay) : Int := if validB B = true then 0 else 20
noncomputable def mirR (B : Bay) : Bay := if validB B = true then mirB B else ⟨0, 0, [], []⟩
def bayQ (M : Bay) (Er : Int) (v : V) (L' : List E) : Prop :=
  ∃ o1 o2 : C, v = V.tup [A.agg [C.i M.W, C.i M.H, o1, o2], A.c (C.i Er)] ∧ ((o1 = C.nil ∧ M.Land = []) ∨ ∃ l, o1 = C.sl l M.Land.length ∧ find L' l = some ⟨l, .vec 4 1, M.Land.map C.bool⟩) ∧
    ((o2 = C.nil ∧ M.Share = []) ∨ ∃ l, o2 = C.sl l M.Share.length ∧ find L' l = some ⟨l, .vec 74 5, shareC M.Share⟩)
theorem chk_rowS (p : Nat → Bool) (l : List Five) (lab : Nat) (kd : Kd) : (([⟨lab, kd, shareC l⟩] : List E).all fun e => e.cs.all (C.chk p)) = true := by
  simp only [List.all_cons, List.all_nil, Bool.and_true]
  exact chk_shares p l
theorem valid_k {n0 nx a b : Nat} {ka kb : Kd} {L : List E} {K : V → List E → Nat → Prop} {B : Bay} (hll : B.Land.length ≤ 100) (hsl : B.Share.length ≤ 100)
    (ha : find L a = some ⟨a, ka, B.Land.map C.bool⟩) (hb : find L b = some ⟨b, kb, shareC B.Share⟩) (hK : K (V.c (.bool (validB B))) [] nx) :
    CallK Try.prog n0 35 [V.agg [C.i B.W, C.i B.H, C.sl a B.Land.length, C.sl b B.Share.length]] L nx K :=
  CallK.old (u := V.c (.bool (validB B))) (by kernel_rfl) trivial (fun ρ w hp => valid_any _ B w (bay_of hp ha hb hll hsl)) hK
set_option maxRecDepth 100000 in
theorem mirror_spec (B : Bay) (hll : B.Land.length ≤ 100) (hsl : B.Share.length ≤ 100) :
    Spec Try.prog 23 [V.agg [C.i B.W, C.i B.H, C.sl 0 B.Land.length, C.sl 1 B.Share.length]] [⟨0, .ro 0, B.Land.map C.bool⟩, ⟨1, .ro 0, shareC B.Share⟩] 2 (fun v L' _ => bayQ (mirR B) (mirE B) v L') := by
  cases hvb : validB B
  · have hE : mirE B = 20 := by unfold mirE; rw [hvb]; rfl
    have hR : mirR B = ⟨0, 0, [], []⟩ := by unfold mirR; rw [hvb]; rfl
    have hb : (!validB B) = true := by rw [hvb]; rfl
    rw [hE, hR]
    refine Spec.of tok Try.func23 rfl rfl rfl fun n0 => vc_ok tok ?_
    repeat ((conv => whnf); first
        | (refine And.intro (by first | omega | exact Nat.le_of_ble_eq_true rfl | (dsimp only [inK]; omega) | (simp only [mulS_eq]; omega) | (simp only [mulS_eq, setL_length]; omega) | (simp only [setL_length, List.length_map]; omega) | exact ⟨by omega, by omega, by first | exact Nat.le_of_ble_eq_true rfl | (dsimp only; omega) | (simp only [setL_length]; omega) | (simp only [setL_length, List.length_map]; omega)⟩ | exact ⟨by omega, by first | rfl | omega, by omega, Nat.le_of_ble_eq_true rfl, Nat.le_of_ble_eq_true rfl⟩ | exact ⟨rfl, rfl, rfl, Nat.le_of_ble_eq_true rfl, by first | rfl | omega | exact Nat.le_of_ble_eq_true rfl | (simp; done) | (simp; omega), by first | rfl | omega | exact Nat.le_of_ble_eq_true rfl | (simp; done) | (simp; omega), by omega, Nat.le_of_ble_eq_true rfl⟩ | exact Eq.refl true) ?_)
        | (refine Exists.intro _ (And.intro rfl ?_))
        | (refine And.intro (And.intro rfl (chk_rowI _ _ _ _)) ?_)
        | (refine br_t (by omega) ?_)
        | (refine br_f (by omega) ?_)
        | (refine bs_t (by omega) ?_)
        | (refine bs_f (by omega) ?_)
        | (refine fun (K' : K3) hK' => ?_)
        | (refine hK' _ _ _ ?_; clear hK' K')
        | (refine draw_auto tok mixed (by kernel_rfl) ?_)
        | (refine valid_k hll hsl rfl rfl ?_)
        | (refine br_bt hb ?_)
        | (refine CallK.m ?_)
        | (refine And.intro (And.intro rfl rfl) ?_))
    exact ⟨C.nil, C.nil, rfl, .inl ⟨rfl, rfl⟩, .inl ⟨rfl, rfl⟩⟩
  have hb : (!validB B) = false := by rw [hvb]; rfl
  have hval : validP B := by simpa [validB] using hvb
  have hE : mirE B = 0 := by unfold mirE; rw [hvb]; rfl
  have hR : mirR B = mirB B := by unfold mirR; rw [hvb]; rfl
  rw [hE, hR]
  have hN : B.Land.length = B.Share.length := by have := hval.2.2.1; have := hval.2.2.2.1; omega
  have hN36 := mul36 hval.1.1 hval.1.2 hval.2.1.1 hval.2.1.2
  have hSS := hval.2.2.2.1
  have hBW := hval.1
  have hBH := hval.2.1
  obtain ⟨W, hW⟩ : ∃ W : Nat, B.W = W := ⟨B.W.toNat, by omega⟩
  obtain ⟨H, hH⟩ : ∃ H : Nat, B.H = H := ⟨B.H.toNat, by omega⟩
  have hWH : B.Share.length = H * W := by
    have : ((H * W : Nat) : Int) = B.W * B.H := by rw [hW, hH, Int.natCast_mul, Int.mul_comm]
    omega
  have hWt : B.W.toNat = W := by omega
  have hHt : B.H.toNat = H := by omega
  have hsh := share_len B.Share
  refine Spec.of tok Try.func23 rfl rfl rfl fun n0 => vc_ok tok ?_
  repeat ((conv => whnf); first
      | (refine And.intro (by first | omega | exact Nat.le_of_ble_eq_true rfl | (dsimp only [inK]; omega) | (simp only [mulS_eq]; omega) | (simp only [mulS_eq, setL_length]; omega) | (simp only [setL_length, List.length_map]; omega) | exact ⟨by omega, by omega, by first | exact Nat.le_of_ble_eq_true rfl | (dsimp only; omega) | (simp only [setL_length]; omega) | (simp only [setL_length, List.length_map]; omega)⟩ | exact ⟨by omega, by first | rfl | omega, by omega, Nat.le_of_ble_eq_true rfl, Nat.le_of_ble_eq_true rfl⟩ | exact ⟨rfl, rfl, rfl, Nat.le_of_ble_eq_true rfl, by first | rfl | omega | exact Nat.le_of_ble_eq_true rfl | (simp; done) | (simp; omega), by first | rfl | omega | exact Nat.le_of_ble_eq_true rfl | (simp; done) | (simp; omega), by omega, Nat.le_of_ble_eq_true rfl⟩ | exact Eq.refl true) ?_)
      | (refine Exists.intro _ (And.intro rfl ?_))
      | (refine And.intro (And.intro rfl (chk_rowI _ _ _ _)) ?_)
      | (refine br_t (by omega) ?_)
      | (refine br_f (by omega) ?_)
      | (refine bs_t (by omega) ?_)
      | (refine bs_f (by omega) ?_)
      | (refine fun (K' : K3) hK' => ?_)
      | (refine hK' _ _ _ ?_; clear hK' K')
      | (refine draw_auto tok mixed (by kernel_rfl) ?_)
      | (refine valid_k hll hsl rfl rfl ?_)
      | (refine br_bf hb ?_)
      | (refine HD_mk (fun _ h => cloneb_k (by omega) (by omega) rfl h) ?_)
      | (refine HD_mk (fun _ h => clones_k (by omega) (by omega) rfl h) ?_)
      | (refine And.intro (And.intro rfl (chk_rowS _ _ _ _)) ?_)
      | (refine CallK.m ?_)
      | (refine And.intro (And.intro rfl rfl) ?_))
  refine Tri.loop (γ := Nat) (fun y => y ≤ H) (fun y => [(1, V.c (.ptr 2 0)), (2, V.c (.ptr 3 0)), (4, V.c (.ptr 6 0)), (24, V.i B.H), (25, V.i (y : Int))])
    (fun y => ctxM B (mirRows B.Land false W y) (shareC (mirRows B.Share d0 W y))) 7 (fun y => H - y) 0 (R0 := []) ?_ ?_ ?_
  · exact Nat.zero_le _
  · rw [mirRows_zero, mirRows_zero]
    have hfs := wf_shares 7 B.Share
    refine ⟨?_, ?_, rfl, rfl, Nat.le_of_ble_eq_true rfl⟩
    · repeat (first | exact trivial | refine And.intro (covS_syn (by first | rfl) rfl (by first | exact trivial | exact Nat.le_of_ble_eq_true rfl)) ?_ | refine And.intro (covS_bool rfl rfl (by first | rfl)) ?_)
    · repeat (first | exact trivial | refine And.intro (covE_id (Nat.le_of_ble_eq_true rfl) (by first | exact wf_ints _ _ | exact wf_bools _ _ | first | exact wf_shares _ _ | exact hfs | simp [C.wf]) rfl (by first | rfl | (fail))) ?_)
  · rintro y hy
    refine vc_ok tok ?_
    by_cases hlt : y < H
    · have hlt' : (y : Int) < B.H := by omega
      obtain ⟨m, hm⟩ : ∃ m, m = y * W := ⟨_, rfl⟩
      have hle : m + W ≤ B.Share.length := by rw [hWH, hm, ← Nat.succ_mul]; exact Nat.mul_le_mul_right _ hlt
      have e1 : (y : Int) * B.W = (m : Int) := by rw [hW, hm]; exact (Int.natCast_mul _ _).symm
      have e2 : ((y : Int) + 1) * B.W = ((m + W : Nat) : Int) := by rw [hW, hm, ← Nat.succ_mul]; exact (Int.natCast_mul _ _).symm
      have s1 := mirRows_step (l := B.Land) (d := false) (W := W) (y := y) (by omega)
      have s2 := mirRows_step (l := B.Share) (d := d0) (W := W) (y := y) (by omega)
      rw [← hm] at s1 s2
      have hfs := wf_shares 7 (mirRows B.Share d0 W (y + 1))
      have hlb : ((mirRows B.Land false W y).map C.bool).length = B.Land.length := by rw [List.length_map, mirRows_len]
      have hls : (shareC (mirRows B.Share d0 W y)).length = B.Share.length * 5 := by rw [share_len, mirRows_len]
      repeat ((conv => whnf); first
          | (refine And.intro (by first | omega | exact Nat.le_of_ble_eq_true rfl | (dsimp only [inK]; omega) | (simp only [mulS_eq]; omega) | (simp only [mulS_eq, setL_length]; omega) | (simp only [setL_length, List.length_map]; omega) | exact ⟨by omega, by omega, by first | exact Nat.le_of_ble_eq_true rfl | (dsimp only; omega) | (simp only [setL_length]; omega) | (simp only [setL_length, List.length_map]; omega)⟩ | exact ⟨by omega, by first | rfl | omega, by omega, Nat.le_of_ble_eq_true rfl, Nat.le_of_ble_eq_true rfl⟩ | exact ⟨rfl, rfl, rfl, Nat.le_of_ble_eq_true rfl, by first | rfl | omega | exact Nat.le_of_ble_eq_true rfl | (simp; done) | (simp; omega), by first | rfl | omega | exact Nat.le_of_ble_eq_true rfl | (simp; done) | (simp; omega), by omega, Nat.le_of_ble_eq_true rfl⟩ | exact Eq.refl true) ?_)
          | (refine Exists.intro _ (And.intro rfl ?_))
          | (refine And.intro (And.intro rfl (chk_rowI _ _ _ _)) ?_)
          | (refine br_t (by omega) ?_)
          | (refine br_f (by omega) ?_)
          | (refine bs_t (by omega) ?_)
          | (refine bs_f (by omega) ?_)
          | (refine fun (K' : K3) hK' => ?_)
          | (refine hK' _ _ _ ?_; clear hK' K')
          | (refine CallM.eq (by kernel_rfl) (revb_spec B (mirRows B.Land false W y) (shareC (mirRows B.Share d0 W y)) _ _ _ (wf_shares _ _) (by rw [mulS_eq, mirRows_len]; omega) (by omega) seqO_id) ?_)
          | (refine CallM.eq (by kernel_rfl) (revs_spec B _ (mirRows B.Share d0 W y) _ ((y : Int) * B.W).toNat _ _ (by rw [mulS_eq]) (by rw [mirRows_len]; omega) (by omega)) ?_)
          | (refine draw_auto tok mixed (by kernel_rfl) ?_)
          | (refine And.intro ⟨rfl, by decide, by omega, by omega, by dsimp only; omega⟩ ?_)
          | (refine CallK.m ?_)
          | (refine And.intro (And.intro rfl rfl) ?_))
      have t1 : ((y : Int) * B.W).toNat = m := by omega
      have t2 : (((y : Int) + 1) * B.W).toNat - ((y : Int) * B.W).toNat = W := by omega
      have q1 : revX (mirRows B.Land false W y) false (mulS ((y : Int) * B.W).toNat 1) ((((y : Int) + 1) * B.W).toNat - ((y : Int) * B.W).toNat) ((((y : Int) + 1) * B.W).toNat - ((y : Int) * B.W).toNat) = mirRows B.Land false W (y + 1) := by
        rw [mulS_eq, t2, t1, Nat.mul_one]; exact s1
      have q2 : revX (mirRows B.Share d0 W y) d0 ((y : Int) * B.W).toNat ((((y : Int) + 1) * B.W).toNat - ((y : Int) * B.W).toNat) ((((y : Int) + 1) * B.W).toNat - ((y : Int) * B.W).toNat) = mirRows B.Share d0 W (y + 1) := by
        rw [t2, t1]; exact s2
      refine ⟨y + 1, [], by omega, by omega, ?_⟩
      refine ⟨?_, ?_, rfl, rfl, Nat.le_of_ble_eq_true rfl⟩
      · repeat (first | exact trivial | refine And.intro (covS_syn (by first | rfl) rfl (by first | exact trivial | exact Nat.le_of_ble_eq_true rfl)) ?_ | refine And.intro (covS_bool rfl rfl (by first | rfl)) ?_)
      · repeat (first | exact trivial | refine And.intro (covE_id (Nat.le_of_ble_eq_true rfl) (by first | exact wf_ints _ _ | exact wf_bools _ _ | first | exact wf_shares _ _ | exact hfs | simp [C.wf]) rfl (by first | rfl | (exact congrArg (List.map C.bool) q1) | (exact congrArg shareC q2))) ?_)
    · obtain rfl : y = H := by omega
      have hlt' : ¬ ((y : Int) < B.H) := by omega
      have hRl : (mirRows B.Share d0 W y).length = B.Share.length := mirRows_len ..
      repeat ((conv => whnf); first
          | (refine And.intro (by first | omega | exact Nat.le_of_ble_eq_true rfl | (dsimp only [inK]; omega) | (simp only [mulS_eq]; omega) | (simp only [mulS_eq, setL_length]; omega) | (simp only [setL_length, List.length_map]; omega) | exact ⟨by omega, by omega, by first | exact Nat.le_of_ble_eq_true rfl | (dsimp only; omega) | (simp only [setL_length]; omega) | (simp only [setL_length, List.length_map]; omega)⟩ | exact ⟨by omega, by first | rfl | omega, by omega, Nat.le_of_ble_eq_true rfl, Nat.le_of_ble_eq_true rfl⟩ | exact ⟨rfl, rfl, rfl, Nat.le_of_ble_eq_true rfl, by first | rfl | omega | exact Nat.le_of_ble_eq_true rfl | (simp; done) | (simp; omega), by first | rfl | omega | exact Nat.le_of_ble_eq_true rfl | (simp; done) | (simp; omega), by omega, Nat.le_of_ble_eq_true rfl⟩ | exact Eq.refl true) ?_)
          | (refine Exists.intro _ (And.intro rfl ?_))
          | (refine And.intro (And.intro rfl (chk_rowI _ _ _ _)) ?_)
          | (refine br_t (by omega) ?_)
          | (refine br_f (by omega) ?_)
          | (refine bs_t (by omega) ?_)
          | (refine bs_f (by omega) ?_)
          | (refine fun (K' : K3) hK' => ?_)
          | (refine hK' _ _ _ ?_; clear hK' K')
          | (refine draw_auto tok mixed (by kernel_rfl) ?_)
          | (refine CallK.m ?_)
          | (refine And.intro (And.intro rfl rfl) ?_))
      refine Tri.loop (γ := Nat) (fun i => i ≤ B.Share.length) (fun i => [(2, V.c (.ptr 3 0)), (4, V.c (.ptr 6 0)), (56, V.c (.sl 5 B.Share.length)), (57, V.i (B.Share.length : Int)), (58, V.i (i : Int))])
        (fun i => ctxM B (mirRows B.Land false W y) (shareC (swRows (mirRows B.Share d0 W y) i))) 7 (fun i => B.Share.length - i) 0 (R0 := []) ?_ ?_ ?_
      · exact Nat.zero_le _
      · rw [swRows_zero]
        have hfs := wf_shares 7 (mirRows B.Share d0 W y)
        refine ⟨?_, ?_, rfl, rfl, Nat.le_of_ble_eq_true rfl⟩
        · repeat (first | exact trivial | refine And.intro (covS_syn (by first | rfl) rfl (by first | exact trivial | exact Nat.le_of_ble_eq_true rfl)) ?_ | refine And.intro (covS_bool rfl rfl (by first | rfl)) ?_)
        · repeat (first | exact trivial | refine And.intro (covE_id (Nat.le_of_ble_eq_true rfl) (by first | exact wf_ints _ _ | exact wf_bools _ _ | first | exact wf_shares _ _ | exact hfs | simp [C.wf]) rfl (by first | rfl | (fail))) ?_)
      · rintro i hi
        refine vc_ok tok ?_
        by_cases hil : i < B.Share.length
        · have hsl' : (shareC (swRows (mirRows B.Share d0 W y) i)).length = B.Share.length * 5 := by rw [share_len, swRows_len, hRl]
          have hiS : i < (swRows (mirRows B.Share d0 W y) i).length := by rw [swRows_len]; omega
          have hstep := swRows_step (l := mirRows B.Share d0 W y) (k := i) (by omega)
          have htk : takeC (shareC (swRows (mirRows B.Share d0 W y) i)) (mulS ((i : Nat) : Int).toNat 5) 5 = some (fiveC ((swRows (mirRows B.Share d0 W y) i).getD i d0)) := by
            rw [mulS_eq, Int.toNat_natCast]
            exact takeC_of rfl (fun j hj => share_at hiS j hj)
          have hfs := wf_shares 7 (swRows (mirRows B.Share d0 W y) (i + 1))
          repeat ((conv => whnf); first
              | (refine And.intro (by first | omega | exact Nat.le_of_ble_eq_true rfl | (dsimp only [inK]; omega) | (simp only [mulS_eq]; omega) | (simp only [mulS_eq, setL_length]; omega) | (simp only [setL_length, List.length_map]; omega) | exact ⟨by omega, by omega, by first | exact Nat.le_of_ble_eq_true rfl | (dsimp only; omega) | (simp only [setL_length]; omega) | (simp only [setL_length, List.length_map]; omega)⟩ | exact ⟨by omega, by first | rfl | omega, by omega, Nat.le_of_ble_eq_true rfl, Nat.le_of_ble_eq_true rfl⟩ | exact ⟨rfl, rfl, rfl, Nat.le_of_ble_eq_true rfl, by first | rfl | omega | exact Nat.le_of_ble_eq_true rfl | (simp; done) | (simp; omega), by first | rfl | omega | exact Nat.le_of_ble_eq_true rfl | (simp; done) | (simp; omega), by omega, Nat.le_of_ble_eq_true rfl⟩ | exact Eq.refl true) ?_)
              | (with_reducible refine ld htk ?_)
              | (refine Exists.intro _ (And.intro rfl ?_))
              | (refine And.intro (And.intro rfl (chk_rowI _ _ _ _)) ?_)
              | (refine br_t (by omega) ?_)
              | (refine br_f (by omega) ?_)
              | (refine bs_t (by omega) ?_)
              | (refine bs_f (by omega) ?_)
              | (refine fun (K' : K3) hK' => ?_)
              | (refine hK' _ _ _ ?_; clear hK' K')
              | (refine draw_late 14 [5] tok mixed (by kernel_rfl) ?_)
              | (refine draw_auto tok mixed (by kernel_rfl) ?_)
              | (refine And.intro (by dsimp only; simp only [addO_eq, mulS_eq, setL_length, hsl']; omega) ?_)
              | (refine CallK.m ?_)
              | (refine And.intro (And.intro rfl rfl) ?_))
          refine ⟨i + 1, [], by omega, by omega, ?_⟩
          refine ⟨?_, ?_, rfl, rfl, Nat.le_of_ble_eq_true rfl⟩
          · repeat (first | exact trivial | refine And.intro (covS_syn (by first | rfl) rfl (by first | exact trivial | exact Nat.le_of_ble_eq_true rfl)) ?_ | refine And.intro (covS_bool rfl rfl (by first | rfl)) ?_)
          · repeat (first | exact trivial | refine And.intro (covE_id (Nat.le_of_ble_eq_true rfl) (by first | exact wf_ints _ _ | exact wf_bools _ _ | first | exact wf_shares _ _ | exact hfs | simp [C.wf]) rfl (by first | rfl | ((rw [← hstep]; exact share_swp rfl hiS rfl rfl)))) ?_)
        · obtain rfl : i = B.Share.length := by omega
          have hL : (mirB B).Land = mirRows B.Land false W y := by show mirRows B.Land false B.W.toNat B.H.toNat = _; rw [hWt, hHt]
          have hS : (mirB B).Share = swRows (mirRows B.Share d0 W y) B.Share.length := by show swRows (mirRows B.Share d0 B.W.toNat B.H.toNat) B.Share.length = _; rw [hWt, hHt]
          have hLl : (mirB B).Land.length = B.Land.length := by rw [hL, mirRows_len]
          have hSl : (mirB B).Share.length = B.Share.length := by rw [hS, swRows_len, mirRows_len]
          repeat ((conv => whnf); first
              | (refine And.intro (by first | omega | exact Nat.le_of_ble_eq_true rfl | (dsimp only [inK]; omega) | (simp only [mulS_eq]; omega) | (simp only [mulS_eq, setL_length]; omega) | (simp only [setL_length, List.length_map]; omega) | exact ⟨by omega, by omega, by first | exact Nat.le_of_ble_eq_true rfl | (dsimp only; omega) | (simp only [setL_length]; omega) | (simp only [setL_length, List.length_map]; omega)⟩ | exact ⟨by omega, by first | rfl | omega, by omega, Nat.le_of_ble_eq_true rfl, Nat.le_of_ble_eq_true rfl⟩ | exact ⟨rfl, rfl, rfl, Nat.le_of_ble_eq_true rfl, by first | rfl | omega | exact Nat.le_of_ble_eq_true rfl | (simp; done) | (simp; omega), by first | rfl | omega | exact Nat.le_of_ble_eq_true rfl | (simp; done) | (simp; omega), by omega, Nat.le_of_ble_eq_true rfl⟩ | exact Eq.refl true) ?_)
              | (refine Exists.intro _ (And.intro rfl ?_))
              | (refine And.intro (And.intro rfl (chk_rowI _ _ _ _)) ?_)
              | (refine br_t (by omega) ?_)
              | (refine br_f (by omega) ?_)
              | (refine bs_t (by omega) ?_)
              | (refine bs_f (by omega) ?_)
              | (refine fun (K' : K3) hK' => ?_)
              | (refine hK' _ _ _ ?_; clear hK' K')
              | (refine draw_auto tok mixed (by kernel_rfl) ?_)
              | (refine CallK.m ?_)
              | (refine And.intro (And.intro rfl rfl) ?_))
          refine ⟨C.sl 4 B.Land.length, C.sl 5 B.Share.length, rfl, .inr ⟨4, by rw [hLl], ?_⟩, .inr ⟨5, by rw [hSl], ?_⟩⟩
          · rw [hL]; rfl
          · rw [hS]; rfl
end Go.Proofs.Ytnafllhgjidbkaa

/- The reference's mirrored bay. -/
namespace Go.Proofs.Ytnafllhgjidbkaa
open Go.RowKit
set_option linter.unusedVariables false
set_option linter.unusedSimpArgs false
theorem mir_take {α : Type} {l : List α} {k : Nat} {d x : α} (h : k < l.length) (hx : l.getD k d = x) : l.take (k + 1) = l.take k ++ [x] := by
  rw [List.take_add_one, ← hx]
  simp [List.getD_eq_getElem?_getD, h]
theorem mirI_lt {W H i : Nat} (hi : i < H * W) : mirI W i < H * W := by
  have hW : 0 < W := by rcases Nat.eq_zero_or_pos W with h | h; · subst h; simp at hi
                        · exact h
  have h1 := Nat.mod_lt i hW
  have h2 := Nat.div_add_mod i W
  have h3 : i / W < H := Nat.div_lt_of_lt_mul (by rw [Nat.mul_comm]; exact hi)
  have h4 : W * (i / W) + W ≤ H * W := by
    have := Nat.mul_le_mul_left W (show i / W + 1 ≤ H from h3)
    rw [Nat.mul_succ, Nat.mul_comm W H] at this; exact this
  unfold mirI
  omega
theorem mirI_int {W i : Nat} {BW : Int} (hW : BW = W) (h0 : 0 < W) : (i : Int) - (i : Int) % BW + BW - 1 - (i : Int) % BW = ((mirI W i : Nat) : Int) := by
  subst hW
  have h1 := Nat.mod_lt i h0
  have h2 : ((i : Int) % (W : Int)) = ((i % W : Nat) : Int) := rfl
  have h3 := Nat.mod_le i W
  rw [h2]
  unfold mirI
  omega
theorem mirB_land {B : Bay} {W H : Nat} (hW : B.W.toNat = W) (hH : B.H.toNat = H) (hl : B.Land.length = H * W) {k : Nat} (hk : k < H * W) : (mirB B).Land.getD k false = B.Land.getD (mirI W k) false := by
  show (mirRows B.Land false B.W.toNat B.H.toNat).getD k false = _
  rw [mirRows_get (by omega), hW, hH, if_pos hk]
theorem mirB_share {B : Bay} {W H : Nat} (hW : B.W.toNat = W) (hH : B.H.toNat = H) (hl : B.Share.length = H * W) {k : Nat} (hk : k < H * W) : (mirB B).Share.getD k d0 = swp (B.Share.getD (mirI W k) d0) := by
  show (swRows (mirRows B.Share d0 B.W.toNat B.H.toNat) B.Share.length).getD k d0 = _
  rw [swRows_get (by rw [mirRows_len]; omega), if_pos (by omega), mirRows_get (by omega), hW, hH, if_pos hk]
theorem mirB_len (B : Bay) : (mirB B).Land.length = B.Land.length ∧ (mirB B).Share.length = B.Share.length := ⟨mirRows_len .., by show (swRows _ _).length = _; rw [swRows_len, mirRows_len]⟩
theorem takeShare0 {l : List Five} {k : Nat} {z : Int} (hz : z = k) (h : k < l.length) : takeC (shareC l) (mulS z.toNat 5) 5 = some (fiveC (l.getD k d0)) := by
  subst hz
  rw [mulS_eq, Int.toNat_natCast]
  exact takeC_of rfl (fun i hi => share_at h i hi)
theorem share_take {l : List Five} {k : Nat} {x : Five} (h : k < l.length) (hx : l.getD k d0 = x) : shareC (l.take (k + 1)) = shareC (l.take k) ++ fiveC x := by
  rw [mir_take h hx]
  simp [shareC]
theorem bool_take {l : List Bool} {k : Nat} {x : Bool} (h : k < l.length) (hx : l.getD k false = x) : (l.take (k + 1)).map C.bool = (l.take k).map C.bool ++ [C.bool x] := by
  rw [mir_take h hx, List.map_append]; rfl
set_option maxRecDepth 100000 in
theorem rmirror_spec (B : Bay) (hll : B.Land.length ≤ 100) (hsl : B.Share.length ≤ 100) :
    Spec Try.prog 24 [V.agg [C.i B.W, C.i B.H, C.sl 0 B.Land.length, C.sl 1 B.Share.length]] [⟨0, .ro 0, B.Land.map C.bool⟩, ⟨1, .ro 0, shareC B.Share⟩] 2 (fun v L' _ => bayQ (mirR B) (mirE B) v L') := by
  cases hvb : validB B
  · have hE : mirE B = 20 := by unfold mirE; rw [hvb]; rfl
    have hR : mirR B = ⟨0, 0, [], []⟩ := by unfold mirR; rw [hvb]; rfl
    have hb : (!validB B) = true := by rw [hvb]; rfl
    rw [hE, hR]
    refine Spec.of tok Try.func24 rfl rfl rfl fun n0 => vc_ok tok ?_
    repeat ((conv => whnf); first
        | (refine And.intro (by first | omega | exact Nat.le_of_ble_eq_true rfl | (dsimp only [inK]; omega) | (simp only [mulS_eq]; omega) | (simp only [mulS_eq, setL_length]; omega) | (simp only [setL_length, List.length_map]; omega) | exact ⟨by omega, by omega, by first | exact Nat.le_of_ble_eq_true rfl | (dsimp only; omega) | (simp only [setL_length]; omega) | (simp only [setL_length, List.length_map]; omega)⟩ | exact ⟨by omega, by first | rfl | omega, by omega, Nat.le_of_ble_eq_true rfl, Nat.le_of_ble_eq_true rfl⟩ | exact ⟨rfl, rfl, rfl, Nat.le_of_ble_eq_true rfl, by first | rfl | omega | exact Nat.le_of_ble_eq_true rfl | (simp; done) | (simp; omega), by first | rfl | omega | exact Nat.le_of_ble_eq_true rfl | (simp; done) | (simp; omega), by omega, Nat.le_of_ble_eq_true rfl⟩ | exact Eq.refl true) ?_)
        | (refine Exists.intro _ (And.intro rfl ?_))
        | (refine And.intro (And.intro rfl (chk_rowI _ _ _ _)) ?_)
        | (refine br_t (by omega) ?_)
        | (refine br_f (by omega) ?_)
        | (refine bs_t (by omega) ?_)
        | (refine bs_f (by omega) ?_)
        | (refine fun (K' : K3) hK' => ?_)
        | (refine hK' _ _ _ ?_; clear hK' K')
        | (refine draw_auto tok mixed (by kernel_rfl) ?_)
        | (refine rvalid_k hll hsl rfl rfl ?_)
        | (refine br_bt hb ?_)
        | (refine CallK.m ?_)
        | (refine And.intro (And.intro rfl rfl) ?_))
    exact ⟨C.nil, C.nil, rfl, .inl ⟨rfl, rfl⟩, .inl ⟨rfl, rfl⟩⟩
  have hb : (!validB B) = false := by rw [hvb]; rfl
  have hval : validP B := by simpa [validB] using hvb
  have hE : mirE B = 0 := by unfold mirE; rw [hvb]; rfl
  have hR : mirR B = mirB B := by unfold mirR; rw [hvb]; rfl
  rw [hE, hR]
  have hN : B.Land.length = B.Share.length := by have := hval.2.2.1; have := hval.2.2.2.1; omega
  have hN36 := mul36 hval.1.1 hval.1.2 hval.2.1.1 hval.2.1.2
  have hSS := hval.2.2.2.1
  have hBW := hval.1
  have hBH := hval.2.1
  obtain ⟨W, hW⟩ : ∃ W : Nat, B.W = W := ⟨B.W.toNat, by omega⟩
  obtain ⟨H, hH⟩ : ∃ H : Nat, B.H = H := ⟨B.H.toNat, by omega⟩
  have hWH : B.Share.length = H * W := by
    have : ((H * W : Nat) : Int) = B.W * B.H := by rw [hW, hH, Int.natCast_mul, Int.mul_comm]
    omega
  have hWt : B.W.toNat = W := by omega
  have hHt : B.H.toNat = H := by omega
  have hW0 : 0 < W := by omega
  obtain ⟨hLl, hSl⟩ := mirB_len B
  have gL : ∀ k, k < B.Share.length → mirI W k < B.Share.length ∧ (mirB B).Land.getD k false = B.Land.getD (mirI W k) false ∧ (mirB B).Share.getD k d0 = swp (B.Share.getD (mirI W k) d0) := fun k hk => by
    rw [hWH] at hk
    exact ⟨by rw [hWH]; exact mirI_lt hk, mirB_land hWt hHt (by omega) hk, mirB_share hWt hHt hWH hk⟩
  have hMW : (mirB B).W = B.W := rfl
  have hMH : (mirB B).H = B.H := rfl
  generalize hM : mirB B = M at *
  have hWW := hWH
  clear hWH
  have hsh := share_len B.Share
  have hlb : (B.Land.map C.bool).length = B.Land.length := List.length_map ..
  refine Spec.of tok Try.func24 rfl rfl rfl fun n0 => vc_ok tok ?_
  repeat ((conv => whnf); first
      | (refine And.intro (by first | omega | exact Nat.le_of_ble_eq_true rfl | (dsimp only [inK]; omega) | (simp only [mulS_eq]; omega) | (simp only [mulS_eq, setL_length]; omega) | (simp only [setL_length, List.length_map]; omega) | exact ⟨by omega, by omega, by first | exact Nat.le_of_ble_eq_true rfl | (dsimp only; omega) | (simp only [setL_length]; omega) | (simp only [setL_length, List.length_map]; omega)⟩ | exact ⟨by omega, by first | rfl | omega, by omega, Nat.le_of_ble_eq_true rfl, Nat.le_of_ble_eq_true rfl⟩ | exact ⟨rfl, rfl, rfl, Nat.le_of_ble_eq_true rfl, by first | rfl | omega | exact Nat.le_of_ble_eq_true rfl | (simp; done) | (simp; omega), by first | rfl | omega | exact Nat.le_of_ble_eq_true rfl | (simp; done) | (simp; omega), by omega, Nat.le_of_ble_eq_true rfl⟩ | exact Eq.refl true) ?_)
      | (refine Exists.intro _ (And.intro rfl ?_))
      | (refine And.intro (And.intro rfl (chk_rowI _ _ _ _)) ?_)
      | (refine br_t (by omega) ?_)
      | (refine br_f (by omega) ?_)
      | (refine bs_t (by omega) ?_)
      | (refine bs_f (by omega) ?_)
      | (refine fun (K' : K3) hK' => ?_)
      | (refine hK' _ _ _ ?_; clear hK' K')
      | (refine draw_auto tok mixed (by kernel_rfl) ?_)
      | (refine rvalid_k hll hsl rfl rfl ?_)
      | (refine br_bf hb ?_)
      | (refine CallK.m ?_)
      | (refine And.intro (And.intro rfl rfl) ?_))
  refine Tri.loop (γ := Nat) (fun i => i ≤ B.Share.length) (fun i => [(1, V.c (.ptr 2 0)), (2, V.c (.ptr 3 0)), (4, V.c (.ptr 4 0)), (5, V.i (i : Int))])
    (fun i => [⟨0, .ro 0, B.Land.map C.bool⟩, ⟨1, .ro 0, shareC B.Share⟩, ⟨2, .own 25, [C.i B.W, C.i B.H, C.sl 0 B.Land.length, C.sl 1 B.Share.length]⟩, ⟨3, .own 25, [C.i 0, C.i 0, C.nil, C.nil]⟩,
      ⟨4, .own 25, [C.i B.W, C.i B.H, C.sl 5 i, C.sl 6 i]⟩, ⟨5, .vec 4 1, (M.Land.take i).map C.bool⟩, ⟨6, .vec 74 5, shareC (M.Share.take i)⟩]) 7 (fun i => B.Share.length - i) 0 (R0 := [(5, none), (6, none)]) ?_ ?_ ?_
  · exact Nat.zero_le _
  · skip
    refine ⟨?_, ?_, rfl, rfl, Nat.le_of_ble_eq_true rfl⟩
    · repeat (first | exact trivial | refine And.intro (covS_syn (by first | rfl | (refine congrArg some (congrArg V.i ?_); fail)) rfl (by first | exact trivial | exact Nat.le_of_ble_eq_true rfl)) ?_ | refine And.intro (covS_bool rfl rfl (by first | rfl | (fail))) ?_)
    · repeat (first | exact trivial | (refine And.intro (covE_some rfl (Nat.le_of_ble_eq_true rfl) (wf_shares _ _) rfl (ren_sharesX _ _)) ?_) | refine And.intro (covE_nil rfl (Nat.le_of_ble_eq_true rfl) rfl rfl) ?_ | refine And.intro (covE_some rfl (Nat.le_of_ble_eq_true rfl) (by first | exact wf_ints _ _ | exact wf_bools _ _ | first | exact wf_shares _ _ | exact hfs | simp [C.wf]) rfl (by first | exact ren_ints _ _ | exact ren_bools _ _ | exact ren_shares _ _ | (refine (ren_ints _ _).trans (congrArg some ?_); fail) | rfl)) ?_)
  · rintro i hi
    refine vc_ok tok ?_
    by_cases hil : i < B.Share.length
    · obtain ⟨g1, g2, g3⟩ := gL i hil
      have hz := mirI_int (i := i) hW hW0
      have hm0 : 0 ≤ (i : Int) % B.W := Int.emod_nonneg _ (by omega)
      have hm1 : (i : Int) % B.W < B.W := Int.emod_lt_of_pos _ (by omega)
      have hm2 : (i : Int) % B.W ≤ i := by rw [hW]; exact Int.ofNat_le.2 (Nat.mod_le i W)
      have hil' : (i : Int) < (B.Land.length : Int) := by omega
      have r1 := bool_take (l := M.Land) (k := i) (by omega) g2
      have r2 := share_take (l := M.Share) (k := i) (by omega) g3
      have hS5 : (shareC (M.Share.take i)).length = i * 5 := by rw [share_len, List.length_take]; omega
      have hg1L : mirI W i < B.Land.length := by omega
      clear gL
      repeat ((conv => whnf); first
          | (refine And.intro (by first | omega | exact Nat.le_of_ble_eq_true rfl | (dsimp only [inK]; omega) | (simp only [mulS_eq]; omega) | (simp only [mulS_eq, setL_length]; omega) | (simp only [setL_length, List.length_map]; omega) | exact ⟨by omega, by omega, by first | exact Nat.le_of_ble_eq_true rfl | (dsimp only; omega) | (simp only [setL_length]; omega) | (simp only [setL_length, List.length_map]; omega)⟩ | exact ⟨by omega, by first | rfl | omega, by omega, Nat.le_of_ble_eq_true rfl, Nat.le_of_ble_eq_true rfl⟩ | exact ⟨rfl, rfl, rfl, Nat.le_of_ble_eq_true rfl, by first | rfl | omega | exact Nat.le_of_ble_eq_true rfl | (simp; done) | (simp; omega), by first | rfl | omega | exact Nat.le_of_ble_eq_true rfl | (simp; done) | (simp; omega), by omega, Nat.le_of_ble_eq_true rfl⟩ | exact Eq.refl true) ?_)
          | (with_reducible refine ld (takeShare0 hz g1) ?_)
          | (with_reducible refine ld (boolLz hz hg1L) ?_)
          | (refine Exists.intro _ (And.intro rfl ?_))
          | (refine And.intro (And.intro rfl (chk_rowI _ _ _ _)) ?_)
          | (refine br_t (by omega) ?_)
          | (refine br_f (by omega) ?_)
          | (refine bs_t (by omega) ?_)
          | (refine bs_f (by omega) ?_)
          | (refine fun (K' : K3) hK' => ?_)
          | (refine hK' _ _ _ ?_; clear hK' K')
          | (refine draw_auto tok mixed (by kernel_rfl) ?_)
          | (refine CallK.m ?_)
          | (refine And.intro (And.intro rfl rfl) ?_))
      refine ⟨i + 1, [(5, some 9), (6, some 11)], by omega, by omega, ?_⟩
      refine ⟨?_, ?_, rfl, rfl, Nat.le_of_ble_eq_true rfl⟩
      · repeat (first | exact trivial | refine And.intro (covS_syn (by first | rfl | (refine congrArg some (congrArg V.i ?_); fail)) rfl (by first | exact trivial | exact Nat.le_of_ble_eq_true rfl)) ?_ | refine And.intro (covS_bool rfl rfl (by first | rfl | (fail))) ?_)
      · repeat (first | exact trivial | (refine And.intro (covE_some rfl (Nat.le_of_ble_eq_true rfl) (wf_shares _ _) rfl (ren_sharesX _ _)) ?_) | (refine And.intro (covE_some rfl (Nat.le_of_ble_eq_true rfl) (wf_bools _ _) rfl ((ren_bools _ _).trans (congrArg some r1))) ?_) | (refine And.intro (covE_some rfl (Nat.le_of_ble_eq_true rfl) (wf_shares _ _) rfl ((ren_sharesX _ _).trans (congrArg some r2))) ?_) | refine And.intro (covE_nil rfl (Nat.le_of_ble_eq_true rfl) rfl rfl) ?_ | refine And.intro (covE_some rfl (Nat.le_of_ble_eq_true rfl) (by first | exact wf_ints _ _ | exact wf_bools _ _ | first | exact wf_shares _ _ | exact hfs | simp [C.wf]) rfl (by first | exact ren_ints _ _ | exact ren_bools _ _ | exact ren_shares _ _ | (refine (ren_ints _ _).trans (congrArg some ?_); fail) | rfl)) ?_)
    · obtain rfl : i = B.Share.length := by omega
      have hil' : ¬ ((B.Share.length : Int) < (B.Land.length : Int)) := by omega
      have k1 : M.Land.take B.Share.length = M.Land := List.take_of_length_le (by omega)
      have k2 : M.Share.take B.Share.length = M.Share := List.take_of_length_le (by omega)
      repeat ((conv => whnf); first
          | (refine And.intro (by first | omega | exact Nat.le_of_ble_eq_true rfl | (dsimp only [inK]; omega) | (simp only [mulS_eq]; omega) | (simp only [mulS_eq, setL_length]; omega) | (simp only [setL_length, List.length_map]; omega) | exact ⟨by omega, by omega, by first | exact Nat.le_of_ble_eq_true rfl | (dsimp only; omega) | (simp only [setL_length]; omega) | (simp only [setL_length, List.length_map]; omega)⟩ | exact ⟨by omega, by first | rfl | omega, by omega, Nat.le_of_ble_eq_true rfl, Nat.le_of_ble_eq_true rfl⟩ | exact ⟨rfl, rfl, rfl, Nat.le_of_ble_eq_true rfl, by first | rfl | omega | exact Nat.le_of_ble_eq_true rfl | (simp; done) | (simp; omega), by first | rfl | omega | exact Nat.le_of_ble_eq_true rfl | (simp; done) | (simp; omega), by omega, Nat.le_of_ble_eq_true rfl⟩ | exact Eq.refl true) ?_)
          | (refine Exists.intro _ (And.intro rfl ?_))
          | (refine And.intro (And.intro rfl (chk_rowI _ _ _ _)) ?_)
          | (refine br_t (by omega) ?_)
          | (refine br_f (by omega) ?_)
          | (refine bs_t (by omega) ?_)
          | (refine bs_f (by omega) ?_)
          | (refine fun (K' : K3) hK' => ?_)
          | (refine hK' _ _ _ ?_; clear hK' K')
          | (refine draw_auto tok mixed (by kernel_rfl) ?_)
          | (refine CallK.m ?_)
          | (refine And.intro (And.intro rfl rfl) ?_))
      refine ⟨C.sl 5 B.Share.length, C.sl 6 B.Share.length, by rw [hMW, hMH]; rfl, .inr ⟨5, by rw [hLl, hN], ?_⟩, .inr ⟨6, by rw [hSl], ?_⟩⟩
      · conv => rhs; rw [← k1]
        rfl
      · conv => rhs; rw [← k2]
        rfl
end Go.Proofs.Ytnafllhgjidbkaa

/- Bays that are the same; and what law 4 asks of its callees. -/
namespace Go.Proofs.Ytnafllhgjidbkaa
open Go.RowKit
set_option linter.unusedVariables false
set_option linter.unusedSimpArgs false
set_option maxRecDepth 100000 in
theorem eqbays_spec (M : Bay) (hl : M.Land.length ≤ 100) (hs : M.Share.length ≤ 100) :
    Spec Try.prog 25 [V.agg [C.i M.W, C.i M.H, C.sl 0 M.Land.length, C.sl 1 M.Share.length], V.agg [C.i M.W, C.i M.H, C.sl 2 M.Land.length, C.sl 3 M.Share.length]]
      [⟨0, .ro 0, M.Land.map C.bool⟩, ⟨1, .ro 0, shareC M.Share⟩, ⟨2, .ro 0, M.Land.map C.bool⟩, ⟨3, .ro 0, shareC M.Share⟩] 4 (Is (V.c (.bool true))) := by
  have hsh := share_len M.Share
  have hlb : (M.Land.map C.bool).length = M.Land.length := List.length_map ..
  refine Spec.of tok Try.func25 rfl rfl rfl fun n0 => vc_ok tok ?_
  repeat ((conv => whnf); first
      | (refine And.intro (by first | omega | exact Nat.le_of_ble_eq_true rfl | (dsimp only [inK]; omega) | (simp only [mulS_eq]; omega) | (simp only [mulS_eq, setL_length]; omega) | (simp only [setL_length, List.length_map]; omega) | exact ⟨by omega, by omega, by first | exact Nat.le_of_ble_eq_true rfl | (dsimp only; omega) | (simp only [setL_length]; omega) | (simp only [setL_length, List.length_map]; omega)⟩ | exact ⟨by omega, by first | rfl | omega, by omega, Nat.le_of_ble_eq_true rfl, Nat.le_of_ble_eq_true rfl⟩ | exact ⟨rfl, rfl, rfl, Nat.le_of_ble_eq_true rfl, by first | rfl | omega | exact Nat.le_of_ble_eq_true rfl | (simp; done) | (simp; omega), by first | rfl | omega | exact Nat.le_of_ble_eq_true rfl | (simp; done) | (simp; omega), by omega, Nat.le_of_ble_eq_true rfl⟩ | exact Eq.refl true) ?_)
      | (refine Exists.intro _ (And.intro rfl ?_))
      | (refine And.intro (And.intro rfl (chk_rowI _ _ _ _)) ?_)
      | (refine br_t (by omega) ?_)
      | (refine br_f (by omega) ?_)
      | (refine bs_t (by omega) ?_)
      | (refine bs_f (by omega) ?_)
      | (refine fun (K' : K3) hK' => ?_)
      | (refine hK' _ _ _ ?_; clear hK' K')
      | (refine draw_auto tok mixed (by kernel_rfl) ?_)
      | (refine CallK.m ?_)
      | (refine And.intro (And.intro rfl rfl) ?_))
  refine Tri.loop (γ := Nat) (fun i => i ≤ M.Land.length) (fun i => [(2, V.c (.ptr 4 0)), (3, V.c (.ptr 5 0)), (5, V.i (i : Int))])
    (fun i => [⟨0, .ro 0, M.Land.map C.bool⟩, ⟨1, .ro 0, shareC M.Share⟩, ⟨2, .ro 0, M.Land.map C.bool⟩, ⟨3, .ro 0, shareC M.Share⟩, ⟨4, .own 25, [C.i M.W, C.i M.H, C.sl 0 M.Land.length, C.sl 1 M.Share.length]⟩, ⟨5, .own 25, [C.i M.W, C.i M.H, C.sl 2 M.Land.length, C.sl 3 M.Share.length]⟩]) 6 (fun i => M.Land.length - i) 0 (R0 := []) ?_ ?_ ?_
  · exact Nat.zero_le _
  · skip
    refine ⟨?_, ?_, rfl, rfl, Nat.le_of_ble_eq_true rfl⟩
    · repeat (first | exact trivial | refine And.intro (covS_syn (by first | rfl) rfl (by first | exact trivial | exact Nat.le_of_ble_eq_true rfl)) ?_ | refine And.intro (covS_bool rfl rfl (by first | rfl)) ?_)
    · repeat (first | exact trivial | refine And.intro (covE_id (Nat.le_of_ble_eq_true rfl) (by first | exact wf_ints _ _ | exact wf_bools _ _ | first | exact wf_shares _ _ | exact hfs | simp [C.wf]) rfl (by first | rfl | (fail))) ?_)
  · rintro i hi
    refine vc_ok tok ?_
    by_cases hil : i < M.Land.length
    · repeat ((conv => whnf); first
          | (refine And.intro (by first | omega | exact Nat.le_of_ble_eq_true rfl | (dsimp only [inK]; omega) | (simp only [mulS_eq]; omega) | (simp only [mulS_eq, setL_length]; omega) | (simp only [setL_length, List.length_map]; omega) | exact ⟨by omega, by omega, by first | exact Nat.le_of_ble_eq_true rfl | (dsimp only; omega) | (simp only [setL_length]; omega) | (simp only [setL_length, List.length_map]; omega)⟩ | exact ⟨by omega, by first | rfl | omega, by omega, Nat.le_of_ble_eq_true rfl, Nat.le_of_ble_eq_true rfl⟩ | exact ⟨rfl, rfl, rfl, Nat.le_of_ble_eq_true rfl, by first | rfl | omega | exact Nat.le_of_ble_eq_true rfl | (simp; done) | (simp; omega), by first | rfl | omega | exact Nat.le_of_ble_eq_true rfl | (simp; done) | (simp; omega), by omega, Nat.le_of_ble_eq_true rfl⟩ | exact Eq.refl true) ?_)
          | (with_reducible refine ld (boolL hil) ?_)
          | (refine Exists.intro _ (And.intro rfl ?_))
          | (refine And.intro (And.intro rfl (chk_rowI _ _ _ _)) ?_)
          | (refine br_t (by omega) ?_)
          | (refine br_f (by omega) ?_)
          | (refine bs_t (by omega) ?_)
          | (refine bs_f (by omega) ?_)
          | (refine fun (K' : K3) hK' => ?_)
          | (refine hK' _ _ _ ?_; clear hK' K')
          | (refine draw_auto tok mixed (by kernel_rfl) ?_)
          | (refine br_bf (by simp) ?_)
          | (refine CallK.m ?_)
          | (refine And.intro (And.intro rfl rfl) ?_))
      refine ⟨i + 1, [], by omega, by omega, ?_⟩
      refine ⟨?_, ?_, rfl, rfl, Nat.le_of_ble_eq_true rfl⟩
      · repeat (first | exact trivial | refine And.intro (covS_syn (by first | rfl) rfl (by first | exact trivial | exact Nat.le_of_ble_eq_true rfl)) ?_ | refine And.intro (covS_bool rfl rfl (by first | rfl)) ?_)
      · repeat (first | exact trivial | refine And.intro (covE_id (Nat.le_of_ble_eq_true rfl) (by first | exact wf_ints _ _ | exact wf_bools _ _ | first | exact wf_shares _ _ | exact hfs | simp [C.wf]) rfl (by first | rfl | (fail))) ?_)
    · obtain rfl : i = M.Land.length := by omega
      repeat ((conv => whnf); first
          | (refine And.intro (by first | omega | exact Nat.le_of_ble_eq_true rfl | (dsimp only [inK]; omega) | (simp only [mulS_eq]; omega) | (simp only [mulS_eq, setL_length]; omega) | (simp only [setL_length, List.length_map]; omega) | exact ⟨by omega, by omega, by first | exact Nat.le_of_ble_eq_true rfl | (dsimp only; omega) | (simp only [setL_length]; omega) | (simp only [setL_length, List.length_map]; omega)⟩ | exact ⟨by omega, by first | rfl | omega, by omega, Nat.le_of_ble_eq_true rfl, Nat.le_of_ble_eq_true rfl⟩ | exact ⟨rfl, rfl, rfl, Nat.le_of_ble_eq_true rfl, by first | rfl | omega | exact Nat.le_of_ble_eq_true rfl | (simp; done) | (simp; omega), by first | rfl | omega | exact Nat.le_of_ble_eq_true rfl | (simp; done) | (simp; omega), by omega, Nat.le_of_ble_eq_true rfl⟩ | exact Eq.refl true) ?_)
          | (refine Exists.intro _ (And.intro rfl ?_))
          | (refine And.intro (And.intro rfl (chk_rowI _ _ _ _)) ?_)
          | (refine br_t (by omega) ?_)
          | (refine br_f (by omega) ?_)
          | (refine bs_t (by omega) ?_)
          | (refine bs_f (by omega) ?_)
          | (refine fun (K' : K3) hK' => ?_)
          | (refine hK' _ _ _ ?_; clear hK' K')
          | (refine draw_auto tok mixed (by kernel_rfl) ?_)
          | (refine CallK.m ?_)
          | (refine And.intro (And.intro rfl rfl) ?_))
      refine Tri.loop (γ := Nat) (fun i => i ≤ M.Share.length) (fun i => [(2, V.c (.ptr 4 0)), (3, V.c (.ptr 5 0)), (6, V.i (i : Int))])
        (fun i => [⟨0, .ro 0, M.Land.map C.bool⟩, ⟨1, .ro 0, shareC M.Share⟩, ⟨2, .ro 0, M.Land.map C.bool⟩, ⟨3, .ro 0, shareC M.Share⟩, ⟨4, .own 25, [C.i M.W, C.i M.H, C.sl 0 M.Land.length, C.sl 1 M.Share.length]⟩, ⟨5, .own 25, [C.i M.W, C.i M.H, C.sl 2 M.Land.length, C.sl 3 M.Share.length]⟩]) 6 (fun i => M.Share.length - i) 0 (R0 := []) ?_ ?_ ?_
      · exact Nat.zero_le _
      · skip
        refine ⟨?_, ?_, rfl, rfl, Nat.le_of_ble_eq_true rfl⟩
        · repeat (first | exact trivial | refine And.intro (covS_syn (by first | rfl) rfl (by first | exact trivial | exact Nat.le_of_ble_eq_true rfl)) ?_ | refine And.intro (covS_bool rfl rfl (by first | rfl)) ?_)
        · repeat (first | exact trivial | refine And.intro (covE_id (Nat.le_of_ble_eq_true rfl) (by first | exact wf_ints _ _ | exact wf_bools _ _ | first | exact wf_shares _ _ | exact hfs | simp [C.wf]) rfl (by first | rfl | (fail))) ?_)
      · rintro i hi
        refine vc_ok tok ?_
        by_cases hil : i < M.Share.length
        · repeat ((conv => whnf); first
              | (refine And.intro (by first | omega | exact Nat.le_of_ble_eq_true rfl | (dsimp only [inK]; omega) | (simp only [mulS_eq]; omega) | (simp only [mulS_eq, setL_length]; omega) | (simp only [setL_length, List.length_map]; omega) | exact ⟨by omega, by omega, by first | exact Nat.le_of_ble_eq_true rfl | (dsimp only; omega) | (simp only [setL_length]; omega) | (simp only [setL_length, List.length_map]; omega)⟩ | exact ⟨by omega, by first | rfl | omega, by omega, Nat.le_of_ble_eq_true rfl, Nat.le_of_ble_eq_true rfl⟩ | exact ⟨rfl, rfl, rfl, Nat.le_of_ble_eq_true rfl, by first | rfl | omega | exact Nat.le_of_ble_eq_true rfl | (simp; done) | (simp; omega), by first | rfl | omega | exact Nat.le_of_ble_eq_true rfl | (simp; done) | (simp; omega), by omega, Nat.le_of_ble_eq_true rfl⟩ | exact Eq.refl true) ?_)
              | (with_reducible refine ld (takeShare0 rfl hil) ?_)
              | (refine Exists.intro _ (And.intro rfl ?_))
              | (refine And.intro (And.intro rfl (chk_rowI _ _ _ _)) ?_)
              | (refine br_t (by omega) ?_)
              | (refine br_f (by omega) ?_)
              | (refine bs_t (by omega) ?_)
              | (refine bs_f (by omega) ?_)
              | (refine fun (K' : K3) hK' => ?_)
              | (refine hK' _ _ _ ?_; clear hK' K')
              | (refine draw_auto tok mixed (by kernel_rfl) ?_)
              | (refine br_bf (by simp) ?_)
              | (refine CallK.m ?_)
              | (refine And.intro (And.intro rfl rfl) ?_))
          refine ⟨i + 1, [], by omega, by omega, ?_⟩
          refine ⟨?_, ?_, rfl, rfl, Nat.le_of_ble_eq_true rfl⟩
          · repeat (first | exact trivial | refine And.intro (covS_syn (by first | rfl) rfl (by first | exact trivial | exact Nat.le_of_ble_eq_true rfl)) ?_ | refine And.intro (covS_bool rfl rfl (by first | rfl)) ?_)
          · repeat (first | exact trivial | refine And.intro (covE_id (Nat.le_of_ble_eq_true rfl) (by first | exact wf_ints _ _ | exact wf_bools _ _ | first | exact wf_shares _ _ | exact hfs | simp [C.wf]) rfl (by first | rfl | (fail))) ?_)
        · obtain rfl : i = M.Share.length := by omega
          repeat ((conv => whnf); first
              | (refine And.intro (by first | omega | exact Nat.le_of_ble_eq_true rfl | (dsimp only [inK]; omega) | (simp only [mulS_eq]; omega) | (simp only [mulS_eq, setL_length]; omega) | (simp only [setL_length, List.length_map]; omega) | exact ⟨by omega, by omega, by first | exact Nat.le_of_ble_eq_true rfl | (dsimp only; omega) | (simp only [setL_length]; omega) | (simp only [setL_length, List.length_map]; omega)⟩ | exact ⟨by omega, by first | rfl | omega, by omega, Nat.le_of_ble_eq_true rfl, Nat.le_of_ble_eq_true rfl⟩ | exact ⟨rfl, rfl, rfl, Nat.le_of_ble_eq_true rfl, by first | rfl | omega | exact Nat.le_of_ble_eq_true rfl | (simp; done) | (simp; omega), by first | rfl | omega | exact Nat.le_of_ble_eq_true rfl | (simp; done) | (simp; omega), by omega, Nat.le_of_ble_eq_true rfl⟩ | exact Eq.refl true) ?_)
              | (refine Exists.intro _ (And.intro rfl ?_))
              | (refine And.intro (And.intro rfl (chk_rowI _ _ _ _)) ?_)
              | (refine br_t (by omega) ?_)
              | (refine br_f (by omega) ?_)
              | (refine bs_t (by omega) ?_)
              | (refine bs_f (by omega) ?_)
              | (refine fun (K' : K3) hK' => ?_)
              | (refine hK' _ _ _ ?_; clear hK' K')
              | (refine draw_auto tok mixed (by kernel_rfl) ?_)
              | (refine CallK.m ?_)
              | (refine And.intro (And.intro rfl rfl) ?_))
          intro ρ; rfl
end Go.Proofs.Ytnafllhgjidbkaa

/- The mirrored bay, as its callers see it; and that it is the bay again if it is mirrored again. -/
namespace Go.Proofs.Ytnafllhgjidbkaa
open Go.RowKit
set_option linter.unusedVariables false
set_option linter.unusedSimpArgs false
theorem swp_swp (x : Five) : swp (swp x) = x := rfl
theorem swp_row {l : Bool} {x : Five} (h : rowOk l x) : rowOk l (swp x) := by
  obtain ⟨⟨h1, h2, h3, h4, h5⟩, h6⟩ := h
  refine ⟨⟨h1, h2, h5, h4, h3⟩, ?_⟩
  rw [← h6]
  unfold Five.sum
  simp only [swp]; omega
theorem mirI_mirI {W i : Nat} (h0 : 0 < W) : mirI W (mirI W i) = i := by
  have h1 := Nat.mod_lt i h0
  have e : i = (i / W) * W + i % W := by have := Nat.div_add_mod i W; rw [Nat.mul_comm] at this; omega
  have r1 := mirI_row (W := W) (y := i / W) (r := i % W) h1
  have r2 := mirI_row (W := W) (y := i / W) (r := W - 1 - i % W) (by omega)
  rw [← e] at r1
  rw [r1, r2]; omega
theorem mirB_mirB {B : Bay} (hval : validP B) : mirB (mirB B) = B := by
  have hN : B.Land.length = B.Share.length := by have := hval.2.2.1; have := hval.2.2.2.1; omega
  have hSS := hval.2.2.2.1
  have hBW := hval.1
  have hBH := hval.2.1
  obtain ⟨W, hW⟩ : ∃ W : Nat, B.W = W := ⟨B.W.toNat, by omega⟩
  obtain ⟨H, hH⟩ : ∃ H : Nat, B.H = H := ⟨B.H.toNat, by omega⟩
  have hWH : B.Share.length = H * W := by
    have : ((H * W : Nat) : Int) = B.W * B.H := by rw [hW, hH, Int.natCast_mul, Int.mul_comm]
    omega
  have hWt : B.W.toNat = W := by omega
  have hHt : B.H.toNat = H := by omega
  obtain ⟨l1, l2⟩ := mirB_len B
  obtain ⟨l3, l4⟩ := mirB_len (mirB B)
  have hw : (mirB B).W.toNat = W := hWt
  have hh : (mirB B).H.toNat = H := hHt
  have e1 : (mirB (mirB B)).Land = B.Land := by
    refine ext_getD false (by omega) (fun j hj => ?_)
    have hj' : j < H * W := by omega
    rw [mirB_land hw hh (by omega) hj', mirB_land hWt hHt (by omega) (mirI_lt hj'), mirI_mirI (by omega)]
  have e2 : (mirB (mirB B)).Share = B.Share := by
    refine ext_getD d0 (by omega) (fun j hj => ?_)
    have hj' : j < H * W := by omega
    rw [mirB_share hw hh (by omega) hj', mirB_share hWt hHt hWH (mirI_lt hj'), mirI_mirI (by omega), swp_swp]
  have e3 : (mirB (mirB B)).W = B.W := rfl
  have e4 : (mirB (mirB B)).H = B.H := rfl
  generalize mirB (mirB B) = M at *
  obtain ⟨mw, mh, ml, ms⟩ := M
  obtain ⟨bw, bh, bl, bs⟩ := B
  simp only at e1 e2 e3 e4
  subst e1 e2 e3 e4
  rfl
theorem mirB_valid {B : Bay} (hval : validP B) : validP (mirB B) := by
  have hN : B.Land.length = B.Share.length := by have := hval.2.2.1; have := hval.2.2.2.1; omega
  have hSS := hval.2.2.2.1
  have hBW := hval.1
  have hBH := hval.2.1
  obtain ⟨W, hW⟩ : ∃ W : Nat, B.W = W := ⟨B.W.toNat, by omega⟩
  obtain ⟨H, hH⟩ : ∃ H : Nat, B.H = H := ⟨B.H.toNat, by omega⟩
  have hWH : B.Share.length = H * W := by
    have : ((H * W : Nat) : Int) = B.W * B.H := by rw [hW, hH, Int.natCast_mul, Int.mul_comm]
    omega
  have hWt : B.W.toNat = W := by omega
  have hHt : B.H.toNat = H := by omega
  obtain ⟨l1, l2⟩ := mirB_len B
  refine ⟨hval.1, hval.2.1, by rw [l1]; exact hval.2.2.1, by rw [l2]; exact hval.2.2.2.1, fun j hj => ?_⟩
  rw [l2] at hj
  have hj' : j < H * W := by omega
  have hm := mirI_lt hj'
  have h1 := mirB_share hWt hHt hWH hj'
  have h2 := hval.2.2.2.2 (mirI W j) (by omega)
  have h3 := mirB_land hWt hHt (by omega) hj'
  show rowOk ((mirB B).Land.getD j false) ((mirB B).Share.getD j d0)
  rw [h1, h3]
  exact swp_row h2
def MirW (w : World) (M : Bay) (Er : Int) (e : Ending) (w' : World) : Prop :=
  ∃ la lc sa sc, e = .returned (.tuple #[.agg #[.int .i64 M.W, .int .i64 M.H, .slice la M.Land.length lc, .slice sa M.Share.length sc], .int .i64 Er]) ∧ BoolsAt w' la M.Land ∧ FivesAt w' sa M.Share ∧ (∀ a, la = some a → w.heap.size ≤ a.block) ∧ (∀ a, sa = some a → w.heap.size ≤ a.block) ∧ Below w.heap.size w w'
theorem MirW_of {w w' : World} {nx : Nat} {ρ : Env} {M : Bay} {Er : Int} {v : V} {L : List E} (hq : bayQ M Er v L) (hp : Hp w.heap.size ρ w' L nx) (hb : Below w.heap.size w w') : MirW w M Er (.returned (v.den ρ)) w' := by
  obtain ⟨o1, o2, rfl, h1, h2⟩ := hq
  have k1 : ∃ la lc, o1.den ρ = .slice la M.Land.length lc ∧ BoolsAt w' la M.Land ∧ ∀ a, la = some a → w.heap.size ≤ a.block := by
    rcases h1 with ⟨rfl, h⟩ | ⟨l, rfl, hf⟩
    · refine ⟨none, 0, by rw [h]; rfl, ?_, by simp⟩
      intro hc; rw [h] at hc; exact absurd rfl hc
    · obtain ⟨g1, g2⟩ := hp.row hf
      rw [den_bools] at g1
      exact ⟨_, _, rfl, g1, fun a ha => g2 rfl a ha⟩
  have k2 : ∃ la lc, o2.den ρ = .slice la M.Share.length lc ∧ FivesAt w' la M.Share ∧ ∀ a, la = some a → w.heap.size ≤ a.block := by
    rcases h2 with ⟨rfl, h⟩ | ⟨l, rfl, hf⟩
    · refine ⟨none, 0, by rw [h]; rfl, ?_, by simp⟩
      intro hc; rw [h] at hc; exact absurd rfl hc
    · obtain ⟨g1, g2⟩ := hp.row hf
      rw [den_shares] at g1
      exact ⟨_, _, rfl, g1, fun a ha => g2 rfl a ha⟩
  obtain ⟨la, lc, e1, b1, b2⟩ := k1
  obtain ⟨sa, sc, e2, b3, b4⟩ := k2
  exact ⟨la, lc, sa, sc, by show Ending.returned (.tuple #[.agg #[.int .i64 M.W, .int .i64 M.H, o1.den ρ, o2.den ρ], .int .i64 Er]) = _; rw [e1, e2], b1, b3, b2, b4, hb⟩
theorem bay_hp1 {B : Bay} {w : World} {la sa : Option Addr} {lc sc : Nat} (hl : BoolsAt w la B.Land) (hsh : FivesAt w sa B.Share) : Hp w.heap.size (fun l => match l with | 0 => (la, lc) | _ => (sa, sc)) w [⟨0, .ro 0, B.Land.map C.bool⟩, ⟨1, .ro 0, shareC B.Share⟩] 2 := by
  refine Hp.ros (fun e he => ?_) rfl
  simp only [List.mem_cons, List.not_mem_nil, or_false] at he
  rcases he with rfl | rfl
  · exact ⟨rfl, by simp, wf_bools _ _, by rw [den_bools]; exact hl⟩
  · exact ⟨rfl, by simp, wf_shares _ _, by rw [den_shares]; exact hsh⟩
theorem Mirror_any {w : World} {v : Value} {B : Bay} (hv : BayAt w v B) : Calls Try.prog 23 #[v] w (MirW w (mirR B) (mirE B)) := by
  obtain ⟨la, lc, sa, sc, rfl, hl, hsh, hll, hsl⟩ := hv
  have h := mirror_spec B hll hsl _ w (bay_hp1 (lc := lc) (sc := sc) hl hsh) (by
    intro v hv
    simp only [List.mem_cons, List.not_mem_nil, or_false] at hv
    rcases hv with rfl; simp [V.wf, A.wf, C.wf, C.i])
  refine (show Calls Try.prog 23 #[.agg #[.int .i64 B.W, .int .i64 B.H, .slice la B.Land.length lc, .slice sa B.Share.length sc]] w _ from h).mono ?_
  rintro e w' ⟨v, ρ', L', nx', rfl, h1, h2, h3, h4, h5, h6⟩
  exact MirW_of h6 h5 h4
theorem rMirror_any {w : World} {v : Value} {B : Bay} (hv : BayAt w v B) : Calls Try.prog 24 #[v] w (MirW w (mirR B) (mirE B)) := by
  obtain ⟨la, lc, sa, sc, rfl, hl, hsh, hll, hsl⟩ := hv
  have h := rmirror_spec B hll hsl _ w (bay_hp1 (lc := lc) (sc := sc) hl hsh) (by
    intro v hv
    simp only [List.mem_cons, List.not_mem_nil, or_false] at hv
    rcases hv with rfl; simp [V.wf, A.wf, C.wf, C.i])
  refine (show Calls Try.prog 24 #[.agg #[.int .i64 B.W, .int .i64 B.H, .slice la B.Land.length lc, .slice sa B.Share.length sc]] w _ from h).mono ?_
  rintro e w' ⟨v, ρ', L', nx', rfl, h1, h2, h3, h4, h5, h6⟩
  exact MirW_of h6 h5 h4
theorem eqBays_any {w : World} {v v2 : Value} {B : Bay} (hv : BayAt w v B) (hv2 : BayAt w v2 B) : Calls Try.prog 25 #[v, v2] w fun e w' => e = .returned (.bool true) ∧ Below w.heap.size w w' := by
  obtain ⟨la, lc, sa, sc, rfl, hl, hsh, hll, hsl⟩ := hv
  obtain ⟨ma, mc, ta, tc, rfl, hl2, hsh2, _, _⟩ := hv2
  let ρ : Env := fun l => match l with | 0 => (la, lc) | 1 => (sa, sc) | 2 => (ma, mc) | _ => (ta, tc)
  have hp : Hp w.heap.size ρ w [⟨0, .ro 0, B.Land.map C.bool⟩, ⟨1, .ro 0, shareC B.Share⟩, ⟨2, .ro 0, B.Land.map C.bool⟩, ⟨3, .ro 0, shareC B.Share⟩] 4 := by
    refine Hp.ros (fun e he => ?_) rfl
    simp only [List.mem_cons, List.not_mem_nil, or_false] at he
    rcases he with rfl | rfl | rfl | rfl
    · exact ⟨rfl, by simp, wf_bools _ _, by rw [den_bools]; exact hl⟩
    · exact ⟨rfl, by simp, wf_shares _ _, by rw [den_shares]; exact hsh⟩
    · exact ⟨rfl, by simp, wf_bools _ _, by rw [den_bools]; exact hl2⟩
    · exact ⟨rfl, by simp, wf_shares _ _, by rw [den_shares]; exact hsh2⟩
  have h := eqbays_spec B hll hsl ρ w hp (by
    intro v hv
    simp only [List.mem_cons, List.not_mem_nil, or_false] at hv
    rcases hv with rfl | rfl <;> simp [V.wf, A.wf, C.wf, C.i])
  refine (show Calls Try.prog 25 #[.agg #[.int .i64 B.W, .int .i64 B.H, .slice la B.Land.length lc, .slice sa B.Share.length sc], .agg #[.int .i64 B.W, .int .i64 B.H, .slice ma B.Land.length mc, .slice ta B.Share.length tc]] w _ from h).mono ?_
  rintro e w' ⟨v, ρ', L', nx', rfl, h1, h2, h3, h4, h5, h6⟩
  exact ⟨by rw [h6 ρ']; rfl, h4⟩
theorem CallK.oldBay {n0 nx : Nat} {f : FuncId} {vs : List V} {L : List E} {K : V → List E → Nat → Prop} {M : Bay} {Er : Int} (hok : callB Try.prog f = true)
    (h : ∀ ρ w, Hp n0 ρ w L nx → Calls Try.prog f (vs.map (V.den ρ)).toArray w (MirW w M Er))
    (hK : K (V.tup [A.agg [C.i M.W, C.i M.H, C.sl nx M.Land.length, C.sl (nx + 1) M.Share.length], A.c (C.i Er)]) [⟨nx, .ro 0, M.Land.map C.bool⟩, ⟨nx + 1, .ro 0, shareC M.Share⟩] (nx + 2)) : CallK Try.prog n0 f vs L nx K := by
  refine ⟨hok, fun ρ w hp _ => (h ρ w hp).mono ?_⟩
  rintro e w' ⟨la, lc, sa, sc, rfl, h1, h2, h3, h4, hb⟩
  let ρ' : Env := fun l => if l = nx then (la, lc) else if l = nx + 1 then (sa, sc) else ρ l
  have e1 : ρ' nx = (la, lc) := if_pos rfl
  have e2 : ρ' (nx + 1) = (sa, sc) := by simp [ρ']
  refine ⟨_, _, _, ρ', ?_, by omega, ?_, fun l hl => ?_, hb, ⟨?_, ?_, ?_, ?_, ?_⟩, hK⟩
  · simp [V.den, A.den, C.den, C.i, e1, e2]
  · simp [V.wf, A.wf, C.wf, C.i]
  · have a1 : l ≠ nx := by omega
    have a2 : l ≠ nx + 1 := by omega
    simp [ρ', a1, a2]
  · intro x hx
    simp only [List.mem_cons, List.not_mem_nil, or_false] at hx
    rcases hx with rfl | rfl
    · exact ⟨by simp only [e1]; rw [den_bools]; exact h1, .inl rfl⟩
    · exact ⟨by simp only [e2]; rw [den_shares]; exact h2, .inl rfl⟩
  · intro x hx
    simp only [List.mem_cons, List.not_mem_nil, or_false] at hx
    rcases hx with rfl | rfl
    · exact ⟨⟨Nat.le_refl _, by simp only; omega⟩, wf_bools _ _⟩
    · exact ⟨⟨by simp only; omega, by simp only; omega⟩, wf_shares _ _⟩
  · intro x hx y hy hxy
    simp only [List.mem_cons, List.not_mem_nil, or_false] at hx hy
    rcases hx with rfl | rfl <;> rcases hy with rfl | rfl
    · rfl
    · simp at hxy
    · simp at hxy
    · rfl
  · intro x hx y hy hro
    simp only [List.mem_cons, List.not_mem_nil, or_false] at hx
    rcases hx with rfl | rfl <;> cases hro
  · intro x hx
    simp only [List.mem_cons, List.not_mem_nil, or_false] at hx
    rcases hx with rfl | rfl
    · refine .inl (fun b hb' => ?_)
      simp only [blk, e1, Option.map_eq_some_iff] at hb'
      obtain ⟨a, ha, rfl⟩ := hb'
      exact h3 a ha
    · refine .inl (fun b hb' => ?_)
      simp only [blk, e2, Option.map_eq_some_iff] at hb'
      obtain ⟨a, ha, rfl⟩ := hb'
      exact h4 a ha
section
variable {n0 nx a b c d : Nat} {ka kb kc kd : Kd} {L : List E} {K : V → List E → Nat → Prop} {B M : Bay}
theorem Mirror_k (hM : mirR B = M) (hll : B.Land.length ≤ 100) (hsl : B.Share.length ≤ 100) (ha : find L a = some ⟨a, ka, B.Land.map C.bool⟩) (hb : find L b = some ⟨b, kb, shareC B.Share⟩)
    (hK : K (V.tup [A.agg [C.i M.W, C.i M.H, C.sl nx M.Land.length, C.sl (nx + 1) M.Share.length], A.c (C.i (mirE B))]) [⟨nx, .ro 0, M.Land.map C.bool⟩, ⟨nx + 1, .ro 0, shareC M.Share⟩] (nx + 2)) :
    CallK Try.prog n0 23 [V.agg [C.i B.W, C.i B.H, C.sl a B.Land.length, C.sl b B.Share.length]] L nx K := by
  subst hM; exact CallK.oldBay (by kernel_rfl) (fun ρ w hp => Mirror_any (bay_of hp ha hb hll hsl)) hK
theorem rMirror_k (hM : mirR B = M) (hll : B.Land.length ≤ 100) (hsl : B.Share.length ≤ 100) (ha : find L a = some ⟨a, ka, B.Land.map C.bool⟩) (hb : find L b = some ⟨b, kb, shareC B.Share⟩)
    (hK : K (V.tup [A.agg [C.i M.W, C.i M.H, C.sl nx M.Land.length, C.sl (nx + 1) M.Share.length], A.c (C.i (mirE B))]) [⟨nx, .ro 0, M.Land.map C.bool⟩, ⟨nx + 1, .ro 0, shareC M.Share⟩] (nx + 2)) :
    CallK Try.prog n0 24 [V.agg [C.i B.W, C.i B.H, C.sl a B.Land.length, C.sl b B.Share.length]] L nx K := by
  subst hM; exact CallK.oldBay (by kernel_rfl) (fun ρ w hp => rMirror_any (bay_of hp ha hb hll hsl)) hK
theorem eqBays_k (hll : B.Land.length ≤ 100) (hsl : B.Share.length ≤ 100) (ha : find L a = some ⟨a, ka, B.Land.map C.bool⟩) (hb : find L b = some ⟨b, kb, shareC B.Share⟩) (hc : find L c = some ⟨c, kc, B.Land.map C.bool⟩) (hd : find L d = some ⟨d, kd, shareC B.Share⟩) (hK : K (V.c .tt) [] nx) :
    CallK Try.prog n0 25 [V.agg [C.i B.W, C.i B.H, C.sl a B.Land.length, C.sl b B.Share.length], V.agg [C.i B.W, C.i B.H, C.sl c B.Land.length, C.sl d B.Share.length]] L nx K :=
  CallK.old (u := V.c .tt) (by kernel_rfl) trivial (fun ρ w hp => eqBays_any (bay_of hp ha hb hll hsl) (bay_of hp hc hd hll hsl)) hK
theorem LongM_k (B : Bay) (hK : K (V.c (.bool (decide (100 < B.Land.length ∨ 100 < B.Share.length)))) [] nx) :
    CallK Try.prog n0 15 [V.agg [C.i B.W, C.i B.H, C.sl a B.Land.length, C.sl b B.Share.length]] L nx K :=
  CallK.old (u := V.c (.bool (decide (100 < B.Land.length ∨ 100 < B.Share.length)))) (by kernel_rfl) trivial (fun ρ w hp => Long_any B w _ _ _ _) hK
theorem SaneM_k (hK : K (V.c .tt) [] nx) : CallK Try.prog n0 17 [] L nx K :=
  CallK.old (u := V.c .tt) (by kernel_rfl) trivial (fun ρ w hp => Sane_any w) hK
end
end Go.Proofs.Ytnafllhgjidbkaa

/- A mirrored slick moves in the mirrored bay as the slick in the bay: the plain law. -/
namespace Go.Proofs.Ytnafllhgjidbkaa
open Go.RowKit
set_option linter.unusedVariables false
set_option linter.unusedSimpArgs false
theorem sum_setX : ∀ {l : List Int} {i : Nat} (v : Int), i < l.length → (l.set i v).sum = l.sum - l.getD i 0 + v
  | x :: r, 0, v, _ => by simp; omega
  | x :: r, i + 1, v, h => by
    have ih := sum_setX (l := r) (i := i) v (by simpa using h)
    simp only [List.set_cons_succ, List.sum_cons, List.getD_cons_succ, ih]; omega
theorem sum_rev {l : List Int} {o n : Nat} (hl : o + n ≤ l.length) : ∀ x, 2 * x ≤ n → (revX l 0 o n x).sum = l.sum
  | 0, _ => by rw [revX_zero]
  | x + 1, h => by
    have ih := sum_rev hl x (by omega)
    have hs := revX_step (l := l) (d := 0) hl (show 2 * x + 1 < n by omega)
    have h1 : o + x < (revX l 0 o n x).length := by rw [revX_len]; omega
    have h2 : o + (n - 1 - x) < (revX l 0 o n x).length := by rw [revX_len]; omega
    rw [← hs, sum_setX _ (by simpa using h2), sum_setX _ h1, getD_set _ _ _ _ _ h1, if_neg (by omega)]
    omega
theorem sum_revAll {l : List Int} {o n : Nat} (hl : o + n ≤ l.length) : (revX l 0 o n n).sum = l.sum := by
  rw [← revX_done (x := n / 2) (by omega)]
  exact sum_rev hl _ (by omega)
theorem sum_mir {l : List Int} {W : Nat} : ∀ y, y * W ≤ l.length → (mirRows l 0 W y).sum = l.sum
  | 0, _ => by rw [mirRows_zero]
  | y + 1, h => by
    rw [Nat.succ_mul] at h
    rw [← mirRows_step h, sum_revAll (by rw [mirRows_len]; exact h)]
    exact sum_mir y (by omega)
def mirO (B : Bay) (oil : List Int) : List Int := mirRows oil 0 B.W.toNat B.H.toNat
def mirS (B : Bay) (s : Slk) : Slk := ⟨s.K, mirO B s.Oil, s.Away⟩
theorem mirO_len (B : Bay) (oil : List Int) : (mirO B oil).length = oil.length := mirRows_len ..
/-- A valid bay's sides, as numbers. -/
theorem bay_nat {B : Bay} (hval : validP B) : ∃ W H : Nat, B.W = W ∧ B.H = H ∧ B.W.toNat = W ∧ B.H.toNat = H ∧ 1 ≤ W ∧ 1 ≤ H ∧ B.Share.length = H * W ∧ B.Land.length = H * W := by
  have hSS := hval.2.2.2.1
  have hLL := hval.2.2.1
  have hBW := hval.1
  have hBH := hval.2.1
  obtain ⟨W, hW⟩ : ∃ W : Nat, B.W = W := ⟨B.W.toNat, by omega⟩
  obtain ⟨H, hH⟩ : ∃ H : Nat, B.H = H := ⟨B.H.toNat, by omega⟩
  have : ((H * W : Nat) : Int) = B.W * B.H := by rw [hW, hH, Int.natCast_mul, Int.mul_comm]
  exact ⟨W, H, hW, hH, by omega, by omega, by omega, by omega, by omega, by omega⟩
theorem mirO_get {B : Bay} {W H : Nat} {oil : List Int} (hW : B.W.toNat = W) (hH : B.H.toNat = H) (hl : oil.length = H * W) {k : Nat} (hk : k < H * W) : (mirO B oil).getD k 0 = oil.getD (mirI W k) 0 := by
  unfold mirO
  rw [mirRows_get (by omega), hW, hH, if_pos hk]
def mk (k : Nat) : Nat := if k = 2 then 4 else if k = 4 then 2 else k
theorem swp_at (x : Five) {k : Nat} (hk : k < 5) : (swp x).at k = x.at (mk k) := by
  have : k = 0 ∨ k = 1 ∨ k = 2 ∨ k = 3 ∨ k = 4 := by omega
  rcases this with rfl | rfl | rfl | rfl | rfl <;> rfl
def partP (B : Bay) (oil : List Int) (x y : Int) (k : Nat) : Int := (shV B x y k).1 * oil.getD (shV B x y k).2 0
theorem part_mir {B : Bay} {oil : List Int} (hval : validP B) (hl : oil.length = B.Share.length) (x y : Int) {k : Nat} (hk : k < 5) : partP (mirB B) (mirO B oil) x y k = partP B oil (B.W - 1 - x) y (mk k) := by
  obtain ⟨W, H, hW, hH, hWt, hHt, hW1, hH1, hS, hL⟩ := bay_nat hval
  by_cases h : inBay B x y
  · have h' : inBay (mirB B) x y := h
    have h2 : inBay B (B.W - 1 - x) y := ⟨⟨by have := h.1; omega, by have := h.1; omega⟩, h.2⟩
    obtain ⟨⟨x0, x1⟩, y0, y1⟩ := h
    obtain ⟨xn, rfl⟩ : ∃ n : Nat, x = n := ⟨x.toNat, by omega⟩
    obtain ⟨yn, rfl⟩ : ∃ n : Nat, y = n := ⟨y.toNat, by omega⟩
    have hc : ((yn : Int) * B.W + xn).toNat = yn * W + xn := by
      rw [hW]
      have : ((yn : Int) * W + xn) = ((yn * W + xn : Nat) : Int) := by rw [Int.natCast_add, Int.natCast_mul]
      rw [this, Int.toNat_natCast]
    have hc2 : ((yn : Int) * B.W + (B.W - 1 - xn)).toNat = yn * W + (W - 1 - xn) := by
      have e : B.W - 1 - (xn : Int) = ((W - 1 - xn : Nat) : Int) := by omega
      rw [e, hW]
      have : ((yn : Int) * W + ((W - 1 - xn : Nat) : Int)) = ((yn * W + (W - 1 - xn) : Nat) : Int) := by rw [Int.natCast_add, Int.natCast_mul]
      rw [this, Int.toNat_natCast]
    have hlt : yn * W + xn < H * W := by
      have : (yn + 1) * W ≤ H * W := Nat.mul_le_mul_right _ (by omega)
      rw [Nat.succ_mul] at this; omega
    have hm := mirI_row (W := W) (y := yn) (r := xn) (by omega)
    have s1 : shV (mirB B) xn yn k = ((swp (B.Share.getD (mirI W (yn * W + xn)) d0)).at k, yn * W + xn) := by
      unfold shV
      rw [if_pos h']
      have e : (mirB B).W = B.W := rfl
      rw [e, hc]
      have := mirB_share hWt hHt hS hlt
      rw [show ((0, 0, 0, 0, 0) : Five) = d0 from rfl, this]
    have s2 : shV B (B.W - 1 - xn) yn (mk k) = ((B.Share.getD (mirI W (yn * W + xn)) d0).at (mk k), mirI W (yn * W + xn)) := by
      unfold shV
      rw [if_pos h2, hc2, hm]; rfl
    unfold partP
    rw [s1, s2, swp_at _ hk, mirO_get hWt hHt (by omega) hlt]
  · have h' : ¬ inBay (mirB B) x y := h
    have h2 : ¬ inBay B (B.W - 1 - x) y := fun hh => h ⟨⟨by have := hh.1; omega, by have := hh.1; omega⟩, hh.2⟩
    unfold partP shV
    rw [if_neg h', if_neg h2]
    simp
theorem gath_parts (B : Bay) (oil : List Int) (i : Nat) : gath B oil i = landPart B oil i + partP B oil (gx i B) (gy i B) 0 + partP B oil (gx i B) (gy i B + 1) 1 + partP B oil (gx i B - 1) (gy i B) 2 + partP B oil (gx i B) (gy i B - 1) 3 + partP B oil (gx i B + 1) (gy i B) 4 := by
  unfold gath term partP
  simp only [dxs, dys, List.getD_cons_zero, List.getD_cons_succ, Int.sub_zero, Int.sub_neg]
theorem gath_mir {B : Bay} {oil : List Int} (hval : validP B) (hl : oil.length = B.Share.length) {j : Nat} (hj : j < oil.length) : gath (mirB B) (mirO B oil) j = gath B oil (mirI B.W.toNat j) := by
  obtain ⟨W, H, hW, hH, hWt, hHt, hW1, hH1, hS, hL⟩ := bay_nat hval
  have hj' : j < H * W := by omega
  rw [gath_parts, gath_parts, hWt]
  have hr := Nat.mod_lt j (show 0 < W by omega)
  have e : j = (j / W) * W + j % W := by have := Nat.div_add_mod j W; rw [Nat.mul_comm] at this; omega
  have hm := mirI_row (W := W) (y := j / W) (r := j % W) hr
  rw [← e] at hm
  have g1 : gx j (mirB B) = ((j % W : Nat) : Int) ∧ gy j (mirB B) = ((j / W : Nat) : Int) := by
    have hb : (mirB B).W = (W : Int) := hW
    unfold gx gy; rw [hb]; exact ⟨rfl, rfl⟩
  have g2 : gx (mirI W j) B = B.W - 1 - ((j % W : Nat) : Int) ∧ gy (mirI W j) B = ((j / W : Nat) : Int) := by
    unfold gx gy
    refine divmod (by omega) ⟨by omega, by omega⟩ ?_
    rw [hm, hW, Int.natCast_add, Int.natCast_mul]
    omega
  have hp := fun x y k (hk : k < 5) => part_mir hval hl x y hk
  have hland : landPart (mirB B) (mirO B oil) j = landPart B oil (mirI W j) := by
    unfold landPart
    rw [mirB_land hWt hHt hL hj', mirO_get hWt hHt (by omega) hj']
  rw [g1.1, g1.2, g2.1, g2.2, hland, hp _ _ 0 (by omega), hp _ _ 1 (by omega), hp _ _ 2 (by omega), hp _ _ 3 (by omega), hp _ _ 4 (by omega)]
  have m0 : mk 0 = 0 := rfl
  have m1 : mk 1 = 1 := rfl
  have m2 : mk 2 = 4 := rfl
  have m3 : mk 3 = 3 := rfl
  have m4 : mk 4 = 2 := rfl
  rw [m0, m1, m2, m3, m4]
  generalize ((j % W : Nat) : Int) = x
  generalize ((j / W : Nat) : Int) = y
  rw [show B.W - 1 - (x - 1) = B.W - 1 - x + 1 by omega, show B.W - 1 - (x + 1) = B.W - 1 - x - 1 by omega]
  omega
theorem mv_mir {B : Bay} {s : Slk} (hval : validP B) (hl : s.Oil.length = B.Share.length) : mv (mirB B) (mirS B s) = mirS B (mv B s) := by
  obtain ⟨W, H, hW, hH, hWt, hHt, hW1, hH1, hS, hL⟩ := bay_nat hval
  have hv2 := mirB_valid hval
  obtain ⟨l1, l2⟩ := mirB_len B
  have hl2 : (mirS B s).Oil.length = (mirB B).Share.length := by rw [l2]; exact (mirO_len B s.Oil).trans hl
  have hlm : (mv B s).Oil.length = s.Oil.length := mv_len B s
  have hoil : (mv (mirB B) (mirS B s)).Oil = (mirS B (mv B s)).Oil := by
    have e1 : (mv (mirB B) (mirS B s)).Oil.length = s.Oil.length := by rw [mv_len]; exact mirO_len ..
    have e2 : (mirS B (mv B s)).Oil.length = s.Oil.length := by show (mirO B _).length = _; rw [mirO_len, mv_len]
    refine ext_getD 0 (by omega) (fun j hj => ?_)
    have hjs : j < s.Oil.length := by omega
    have hj' : j < H * W := by omega
    rw [gath_eq hv2 hl2 (by rw [show (mirS B s).Oil.length = s.Oil.length from mirO_len ..]; exact hjs)]
    show gath (mirB B) (mirO B s.Oil) j = (mirO B (mv B s).Oil).getD j 0
    rw [gath_mir hval hl hjs, mirO_get hWt hHt (by omega) hj', hWt, gath_eq hval hl (by have := mirI_lt hj'; omega)]
  have t1 := mv_tot hv2 hl2
  have t2 := mv_tot hval hl
  have s1 : (mirS B s).Oil.sum = s.Oil.sum := by show (mirRows s.Oil 0 B.W.toNat B.H.toNat).sum = _; exact sum_mir _ (by rw [hWt, hHt]; omega)
  have s2 : (mirS B (mv B s)).Oil.sum = (mv B s).Oil.sum := by show (mirRows (mv B s).Oil 0 B.W.toNat B.H.toNat).sum = _; exact sum_mir _ (by rw [hWt, hHt]; omega)
  have haway : (mv (mirB B) (mirS B s)).Away = (mirS B (mv B s)).Away := by
    show _ = (mv B s).Away
    have a1 : (mirS B s).Away = s.Away := rfl
    rw [hoil, s2, s1, a1] at t1
    omega
  have hK : (mv (mirB B) (mirS B s)).K = (mirS B (mv B s)).K := rfl
  generalize mv (mirB B) (mirS B s) = p at *
  generalize mirS B (mv B s) = q at *
  obtain ⟨p1, p2, p3⟩ := p
  obtain ⟨q1, q2, q3⟩ := q
  simp only at hoil haway hK
  rw [hoil, haway, hK]
theorem mvN_mir {B : Bay} {s : Slk} (hval : validP B) (hl : s.Oil.length = B.Share.length) : ∀ n, mvN (mirB B) (mirS B s) n = mirS B (mvN B s n)
  | 0 => rfl
  | n + 1 => by
    show mv (mirB B) (mvN (mirB B) (mirS B s) n) = mirS B (mv B (mvN B s n))
    rw [mvN_mir hval hl n]
    exact mv_mir hval (by rw [mvN_len]; exact hl)
theorem fits_mir {B : Bay} {s : Slk} (hval : validP B) (hf : fitsP B s) : fitsP (mirB B) (mirS B s) := by
  obtain ⟨W, H, hW, hH, hWt, hHt, hW1, hH1, hS, hL⟩ := bay_nat hval
  have hl := len_share hval hf
  have s1 : (mirS B s).Oil.sum = s.Oil.sum := by show (mirRows s.Oil 0 B.W.toNat B.H.toNat).sum = _; exact sum_mir _ (by rw [hWt, hHt]; omega)
  refine ⟨hf.1, ?_, ?_, ?_⟩
  · have e : (mirS B s).Oil.length = s.Oil.length := mirO_len ..
    rw [e]; exact hf.2.1
  · refine amtB_iff.2 (fun k hk => ?_)
    have hk' : k < s.Oil.length := by rw [← mirO_len B s.Oil]; exact hk
    have e : (mirS B s).Oil.getD k 0 = s.Oil.getD (mirI W k) 0 := mirO_get hWt hHt (by omega) (by omega)
    rw [e]
    exact amtB_iff.1 hf.2.2.1 _ (by have := mirI_lt (W := W) (H := H) (i := k) (by omega); omega)
  · rw [s1]; exact hf.2.2.2
end Go.Proofs.Ytnafllhgjidbkaa

namespace Go.Proofs.Ytnafllhgjidbkaa
set_option linter.unusedVariables false
set_option linter.unusedSimpArgs false

/-! ### What moves do to all that there is, to what is away and to what is on land -/
theorem mvN_add (B : Bay) (s : Slk) (i : Nat) : ∀ k, mvN B (mvN B s i) k = mvN B s (i + k)
  | 0 => rfl
  | k + 1 => by show mv B (mvN B (mvN B s i) k) = mv B (mvN B s (i + k)); rw [mvN_add B s i k]
theorem aft_ok {B : Bay} {s : Slk} {n : Nat} (hval : validP B) (hfit : fitsP B s) (hn : s.K + n ≤ 5) : aftE B s n = 0 ∧ aftS B s n = mvN B s n := by
  have h : okE B s = 0 := by unfold okE; rw [if_pos (validB_true hval), if_pos (fitsB_true hfit)]
  have h0 := hfit.1.1
  have hE : aftE B s n = 0 := by unfold aftE; rw [if_neg (by rw [h]; decide), if_neg (by omega), if_neg (by omega)]
  refine ⟨hE, ?_⟩
  unfold aftS; rw [if_pos hE, Int.toNat_natCast]
theorem okE_ok {B : Bay} {s : Slk} (hval : validP B) (hfit : fitsP B s) : okE B s = 0 := by unfold okE; rw [if_pos (validB_true hval), if_pos (fitsB_true hfit)]
theorem fits_pre {B : Bay} {s : Slk} (hval : validP B) (hfit : fitsP B s) : s.Oil.length = B.Share.length := by
  have h1 := hval.2.2.2.1
  have h2 := hfit.2.1
  omega
theorem mvN_tot {B : Bay} {s : Slk} (hval : validP B) (hfit : fitsP B s) : ∀ n, (mvN B s n).Away + (mvN B s n).Oil.sum = (s.Away + s.Oil.sum) * 16 ^ n
  | 0 => by simp [mvN]
  | n + 1 => by
    have ih := mvN_tot hval hfit n
    have h1 := mv_tot (s := mvN B s n) hval (by rw [mvN_len]; exact fits_pre hval hfit)
    show (mv B (mvN B s n)).Away + (mv B (mvN B s n)).Oil.sum = _
    rw [Int.pow_succ, ← Int.mul_assoc, ← ih]; omega
theorem stepF_away {oil : Int} {st : List Int × Int} {x : Int × Int} (h0 : 0 ≤ oil) (hx : 0 ≤ x.2) : st.2 ≤ (stepF oil st x).2 := by
  unfold stepF
  have := Int.mul_nonneg h0 hx
  split
  · show st.2 ≤ st.2 + oil * x.2; omega
  · exact Int.le_refl _
theorem foldF_away {oil : Int} (h0 : 0 ≤ oil) : ∀ (xs : List (Int × Int)) (st : List Int × Int), (∀ x ∈ xs, 0 ≤ x.2) → st.2 ≤ (xs.foldl (stepF oil) st).2
  | [], st, _ => Int.le_refl _
  | x :: xs, st, h => Int.le_trans (stepF_away h0 (h x (by simp))) (foldF_away h0 xs _ (fun y hy => h y (by simp [hy])))
theorem mvUp_away {B : Bay} {s : Slk} (hval : validP B) (hlen : s.Oil.length = B.Share.length) (hO : ∀ k, k < s.Oil.length → 0 ≤ s.Oil.getD k 0) : ∀ k, k ≤ s.Oil.length → 16 * s.Away ≤ (mvUp B s k).2
  | 0, _ => Int.le_refl _
  | k + 1, h => by
    rw [mvUp_succ]
    exact Int.le_trans (mvUp_away hval hlen hO k (by omega)) (foldF_away (hO k (by omega)) _ _ (fun x hx => (flow_bd hval (by omega) x hx).2.1))
theorem mvN_away {B : Bay} {s : Slk} (hval : validP B) (hfit : fitsP B s) : ∀ n : Nat, s.K + n ≤ 5 → s.Away * 16 ^ n ≤ (mvN B s n).Away
  | 0, _ => by simp [mvN]
  | n + 1, h => by
    have ih := mvN_away hval hfit n (by omega)
    have hf := mvN_fits hval hfit n (by omega)
    have h1 := mvUp_away (s := mvN B s n) hval (fits_pre hval hf) (fun k hk => ((fits_bd hval hf).2.2.1 k hk).1) _ (Nat.le_refl _)
    show _ ≤ (mvUp B (mvN B s n) (mvN B s n).Oil.length).2
    rw [Int.pow_succ, ← Int.mul_assoc]; omega
theorem term_nonneg {B : Bay} {oil : List Int} (hval : validP B) (hlen : oil.length = B.Share.length) (hO : ∀ k, k < oil.length → 0 ≤ oil.getD k 0) (x y : Int) {k : Nat} (hk : k < 5) : 0 ≤ term B oil x y k := by
  have hp := mul36 hval.1.1 hval.1.2 hval.2.1.1 hval.2.1.2
  have hS := hval.2.2.2.1
  unfold term shV
  by_cases h : inBay B (x - dxs.getD k 0) (y - dys.getD k 0)
  · rw [if_pos h]
    obtain ⟨_, _, hlt, _⟩ := cell_in hval h
    exact Int.mul_nonneg ((ok_iff_at _).1 (hval.2.2.2.2 _ hlt).1 k hk).1 (hO _ (by omega))
  · rw [if_neg h]; simp
theorem mv_land {B : Bay} {s : Slk} (hval : validP B) (hlen : s.Oil.length = B.Share.length) (hO : ∀ k, k < s.Oil.length → 0 ≤ s.Oil.getD k 0) {j : Nat} (hj : j < s.Oil.length) (hl : B.Land.getD j false = true) : 16 * s.Oil.getD j 0 ≤ (mv B s).Oil.getD j 0 := by
  rw [gath_eq hval hlen hj]
  unfold gath
  have t := fun k hk => term_nonneg (oil := s.Oil) hval hlen hO (gx j B) (gy j B) (k := k) hk
  have t0 := t 0 (by omega)
  have t1 := t 1 (by omega)
  have t2 := t 2 (by omega)
  have t3 := t 3 (by omega)
  have t4 := t 4 (by omega)
  have : landPart B s.Oil j = 16 * s.Oil.getD j 0 := by unfold landPart; rw [if_pos hl]
  omega
theorem mvN_land {B : Bay} {s : Slk} (hval : validP B) (hfit : fitsP B s) {j : Nat} (hj : j < s.Oil.length) (hl : B.Land.getD j false = true) : ∀ n : Nat, s.K + n ≤ 5 → s.Oil.getD j 0 * 16 ^ n ≤ (mvN B s n).Oil.getD j 0
  | 0, _ => by simp [mvN]
  | n + 1, h => by
    have ih := mvN_land hval hfit hj hl n (by omega)
    have hf := mvN_fits hval hfit n (by omega)
    have h1 := mv_land (s := mvN B s n) hval (fits_pre hval hf) (fun k hk => ((fits_bd hval hf).2.2.1 k hk).1) (j := j) (by rw [mvN_len]; exact hj) hl
    show _ ≤ (mv B (mvN B s n)).Oil.getD j 0
    rw [Int.pow_succ, ← Int.mul_assoc]; omega
theorem lands_le {B : Bay} {s : Slk} (hval : validP B) (hfit : fitsP B s) {n : Nat} (hn : s.K + n ≤ 5) {j : Nat} (hj : j < s.Oil.length) :
    (landsL B s.Oil true).getD j 0 * 16 ^ n ≤ (landsL B (mvN B s n).Oil true).getD j 0 := by
  rw [lands_get B _ true hj, lands_get B _ true (by rw [mvN_len]; exact hj)]
  by_cases hl : B.Land.getD j false = true
  · rw [if_pos hl, if_pos hl]; exact mvN_land hval hfit hj hl n hn
  · rw [if_neg hl, if_neg hl]; simp
end Go.Proofs.Ytnafllhgjidbkaa

namespace Go.Proofs.Ytnafllhgjidbkaa
open Go.RowKit Go.Shelf
set_option linter.unusedVariables false
set_option linter.unusedSimpArgs false

theorem cells3 {W : World} {b : Nat} {x y z : Value} {t : TypeId} {f : Nat × Nat} (h : W.heap[b]? = some (.cells #[x, y, z] t f)) : W.cell? ⟨b, 0, none⟩ = some x ∧ W.cell? ⟨b, 1, none⟩ = some y ∧ W.cell? ⟨b, 2, none⟩ = some z :=
  ⟨cell_of_heap h 0, cell_of_heap h 1, cell_of_heap h 2⟩
theorem cells4 {W : World} {b : Nat} {x y z u : Value} {t : TypeId} {f : Nat × Nat} (h : W.heap[b]? = some (.cells #[x, y, z, u] t f)) : W.cell? ⟨b, 0, none⟩ = some x ∧ W.cell? ⟨b, 1, none⟩ = some y ∧ W.cell? ⟨b, 2, none⟩ = some z ∧ W.cell? ⟨b, 3, none⟩ = some u :=
  ⟨cell_of_heap h 0, cell_of_heap h 1, cell_of_heap h 2, cell_of_heap h 3⟩
theorem drewN_below (B : Nat) (w : World) (n : Nat) : Below B w (w.drewN n) := ⟨rfl, rfl, rfl, Nat.le_refl _, fun _ _ => rfl⟩

theorem is_any2 (B : Bay) (s : Slk) (la sa ao : Option Addr) (lc sc c : Nat) (w : World) (hv : BayAt w (.agg #[.int .i64 B.W, .int .i64 B.H, .slice la B.Land.length lc, .slice sa B.Share.length sc]) B) (hi : IntsAt w ao s.Oil) (hval : validP B) :
    Calls Try.prog 27 #[.agg #[.int .i64 B.W, .int .i64 B.H, .slice la B.Land.length lc, .slice sa B.Share.length sc], .agg #[.int .i64 s.K, .slice ao s.Oil.length c, .int .i64 s.Away]] w fun e w' => e = .returned (.bool (fitsB B s)) ∧ Below w.heap.size w w' := by
  by_cases hn : s.Oil.length < 1152921504606846976
  · exact is_any _ _ B s w hv ⟨ao, c, rfl, hi, hn⟩ hval
  · obtain ⟨hp1, hp2⟩ := mul36 hval.1.1 hval.1.2 hval.2.1.1 hval.2.1.2
    have hlen : ¬ (s.Oil.length : Int) = B.W * B.H := by omega
    have hb : ((s.Oil.length : Int) == B.W * B.H) = false := by simp [hlen]
    have hf := Lib.hid (fitsB_false (B := B) (s := s) (fun h => hlen h.2.1))
    clear hi hlen hval hv hn
    go_enter Try.func27, Try.ntmps27
    go_wp2
    go_ret
    exact ⟨ret_bool hf.out.symm, ((Below.refl _ _).alloc (Nat.le_refl _) _).alloc (by simp) _⟩

theorem tmod_bd {n K : Int} (hn : 0 ≤ n) (hK : 0 ≤ K ∧ K ≤ 5) : ∃ i : Nat, Int.tmod n (5 - K + 1) = i ∧ K + i ≤ 5 := by
  have h1 : 0 ≤ Int.tmod n (5 - K + 1) := Int.tmod_nonneg _ hn
  have h2 : Int.tmod n (5 - K + 1) < 5 - K + 1 := Int.tmod_lt_of_pos _ (by omega)
  exact ⟨(Int.tmod n (5 - K + 1)).toNat, by omega, by omega⟩

set_option maxRecDepth 100000 in
set_option maxHeartbeats 2000000 in
theorem mass_any (B : Bay) (s : Slk) (la sa ao : Option Addr) (lc sc c : Nat) (n m : Int) (w : World) (hl : BoolsAt w la B.Land) (hsh : FivesAt w sa B.Share) (hi : IntsAt w ao s.Oil) (hn : 0 ≤ n ∧ n ≤ 255) (hm : 0 ≤ m ∧ m ≤ 255) :
    Calls Try.prog 6 #[.agg #[.int .i64 B.W, .int .i64 B.H, .slice la B.Land.length lc, .slice sa B.Share.length sc], .agg #[.int .i64 s.K, .slice ao s.Oil.length c, .int .i64 s.Away], .agg #[.int .u8 n, .int .u8 m]] w fun e w' => e = .returned (.bool true) ∧ Below w.heap.size w w' := by
  have HLo := Lib.hid (fun W => Long_any B W la sa lc sc)
  obtain ⟨f0, f1, f2, f3, f4⟩ := three_new (w := w) #[.int .i64 B.W, .int .i64 B.H, .slice la B.Land.length lc, .slice sa B.Share.length sc] #[.int .i64 s.K, .slice ao s.Oil.length c, .int .i64 s.Away] #[.int .u8 n, .int .u8 m] 25 28 45
  have HI := Lib.hid hi
  have HL := Lib.hid hl
  have HSH := Lib.hid hsh
  have F := Lib.hid (And.intro f0 (And.intro f1 (And.intro f2 (And.intro f3 f4))))
  clear hi hl hsh f0 f1 f2 f3 f4
  go_enter Try.func6, Try.ntmps6
  go_wp2_with fail
  generalize hW : (((w.alloc _).alloc _).alloc _) = W at *
  clear hW
  obtain ⟨f0, f1, f2, f3, f4⟩ := F.out
  clear F
  obtain ⟨d0, d1, d2, d3⟩ := cells4 f2
  have m0 := cell_of_heap f4 0
  have m1 := cell_of_heap f4 1
  simp at m0 m1
  have l0 := heap_lt f2
  have l1 := heap_lt f3
  have l2 := heap_lt f4
  have G0 := Lib.hid f2
  have G1 := Lib.hid f3
  have HB : Hid (Below w.heap.size w W) := f0
  clear f0 f1 f2 f3 f4
  go_quiet (fail)
  go_wp2_with fail
  refine (HLo.out _).mono ?_
  rintro e w1 ⟨rfl, hb1⟩
  have HB1 : Hid (Below w.heap.size w w1) := HB.out.trans ((drewN_below _ _ _).trans (hb1.mono HB.out.size))
  have G0' := Lib.hid ((hb1.block _ l0).trans G0.out)
  have G1' := Lib.hid ((hb1.block _ l1).trans G1.out)
  obtain ⟨e0, e1, e2, e3⟩ := cells4 G0'.out
  obtain ⟨s0, s1, s2⟩ := cells3 G1'.out
  clear d0 d1 d2 d3 m0 m1 l0 l1 l2 G0 G1 HB hb1 HLo
  have sane : Hid (∀ w2, Below w.heap.size w w2 → Calls Try.prog 17 #[] w2 fun e w' => e = .returned (.bool true) ∧ Below w.heap.size w w') := fun w2 h => (Sane_any w2).mono fun e w' h' => ⟨h'.1, h.trans (h'.2.mono h.size)⟩
  by_cases hL : 100 < B.Land.length ∨ 100 < B.Share.length
  · rw [decide_eq_true hL]
    clear hL
    go_wp2_with fail
    refine (sane.out _ HB1.out).mono ?_
    rintro e w2 ⟨rfl, hb2⟩
    go_wp2
    go_ret
    exact ⟨rfl, hb2⟩
  rw [decide_eq_false hL]
  have hB : Hid (∀ W, Below w.heap.size w W → BayAt W (.agg #[.int .i64 B.W, .int .i64 B.H, .slice la B.Land.length lc, .slice sa B.Share.length sc]) B) := fun W h => ⟨la, lc, sa, sc, rfl, HL.out.below (Nat.le_refl _) h, HSH.out.below (Nat.le_refl _) h, by omega, by omega⟩
  clear hL
  go_wp2_with fail
  refine (rvalid_any _ B _ (hB.out _ HB1.out)).mono ?_
  rintro e w2 ⟨rfl, hb2⟩
  have HB2 : Hid (Below w.heap.size w w2) := HB1.out.trans (hb2.mono HB1.out.size)
  have H0 := Lib.hid ((hb2.block _ (heap_lt G0'.out)).trans G0'.out)
  have H1 := Lib.hid ((hb2.block _ (heap_lt G1'.out)).trans G1'.out)
  clear e0 e1 e2 e3 s0 s1 s2 G0' G1' hb2 HB1
  obtain ⟨e0, e1, e2, e3⟩ := cells4 H0.out
  obtain ⟨s0, s1, s2⟩ := cells3 H1.out
  by_cases hval : validP B
  rotate_left
  · rw [validB_false hval]
    clear hval
    go_wp2_with fail
    refine (sane.out _ HB2.out).mono ?_
    rintro e w3 ⟨rfl, hb3⟩
    go_wp2
    go_ret
    exact ⟨rfl, hb3⟩
  rw [validB_true hval]
  have HVAL := Lib.hid hval
  clear hval
  go_wp2_with fail
  refine (is_any2 B s la sa ao lc sc c _ (hB.out _ HB2.out) (HI.out.below (Nat.le_refl _) HB2.out) HVAL.out).mono ?_
  rintro e w3 ⟨rfl, hb3⟩
  have HB3 : Hid (Below w.heap.size w w3) := HB2.out.trans (hb3.mono HB2.out.size)
  have G0 := Lib.hid ((hb3.block _ (heap_lt H0.out)).trans H0.out)
  have G1 := Lib.hid ((hb3.block _ (heap_lt H1.out)).trans H1.out)
  clear e0 e1 e2 e3 s0 s1 s2 H0 H1 hb3 HB2
  obtain ⟨e0, e1, e2, e3⟩ := cells4 G0.out
  obtain ⟨s0, s1, s2⟩ := cells3 G1.out
  by_cases hfit : fitsP B s
  rotate_left
  · rw [fitsB_false hfit]
    clear hfit
    go_wp2_with fail
    refine (sane.out _ HB3.out).mono ?_
    rintro e w4 ⟨rfl, hb4⟩
    go_wp2
    go_ret
    exact ⟨rfl, hb4⟩
  rw [fitsB_true hfit]
  obtain ⟨i, hi, hKi⟩ := tmod_bd hn.1 hfit.1
  obtain ⟨k, hk, hKk⟩ := tmod_bd (K := s.K + i) hm.1 ⟨by have := hfit.1; omega, by omega⟩
  have hk' : Int.tmod m (5 - s.K - i + 1) = k := by rw [← hk]; congr 1; omega
  have hK := hfit.1
  have hval := HVAL.out
  obtain ⟨b36, -, bO, bA, bS⟩ := fits_bd hval hfit
  have hxf := mvN_fits hval hfit i (by omega)
  obtain ⟨x36, -, xO, xA, xS⟩ := fits_bd hval hxf
  have hxl : (mvN B s i).Oil.length = s.Oil.length := mvN_len B s i
  have hxK : (mvN B s i).K = s.K + i := mvN_K B s i
  have hpb := pow_bd (i : Int) (by omega) (by omega)
  rw [Int.toNat_natCast] at hpb
  have C1 := Lib.hid (fun W (h : Below w.heap.size w W) => After_any _ _ B s i W (hB.out W h) ⟨ao, c, rfl, HI.out.below (Nat.le_refl _) h, by omega⟩ (by omega))
  have C2 := Lib.hid (fun W a' c' (h : Below w.heap.size w W) (hi' : IntsAt W a' (mvN B s i).Oil) => After_any _ (.agg #[.int .i64 (mvN B s i).K, .slice a' (mvN B s i).Oil.length c', .int .i64 (mvN B s i).Away]) B (mvN B s i) k W (hB.out W h) ⟨a', c', rfl, hi', by omega⟩ (by omega))
  have C3 := Lib.hid (fun W (h : Below w.heap.size w W) => After_any _ _ B s ((i + k : Nat) : Int) W (hB.out W h) ⟨ao, c, rfl, HI.out.below (Nat.le_refl _) h, by omega⟩ (by omega))
  rw [(aft_ok hval hfit (n := i) (by omega)).1, (aft_ok hval hfit (n := i) (by omega)).2] at C1
  rw [(aft_ok hval hxf (n := k) (by omega)).1, (aft_ok hval hxf (n := k) (by omega)).2] at C2
  rw [(aft_ok hval hfit (n := i + k) (by omega)).1, (aft_ok hval hfit (n := i + k) (by omega)).2, ← mvN_add] at C3
  have hcast : ((i + k : Nat) : Int) = (i : Int) + k := Int.natCast_add _ _
  rw [hcast] at C3
  have T1 := Lib.hid (fun W (h : Below w.heap.size w W) => Total_any _ _ B s W (hB.out W h) ⟨ao, c, rfl, HI.out.below (Nat.le_refl _) h, by omega⟩)
  have T2 := Lib.hid (fun W a' c' (h : Below w.heap.size w W) (hi' : IntsAt W a' (mvN B s i).Oil) => Total_any _ (.agg #[.int .i64 (mvN B s i).K, .slice a' (mvN B s i).Oil.length c', .int .i64 (mvN B s i).Away]) B (mvN B s i) W (hB.out W h) ⟨a', c', rfl, hi', by omega⟩)
  have E1 := Lib.hid (fun W (h : Below w.heap.size w W) => Beached_any _ _ B s W (hB.out W h) ⟨ao, c, rfl, HI.out.below (Nat.le_refl _) h, by omega⟩)
  have E2 := Lib.hid (fun W a' c' (h : Below w.heap.size w W) (hi' : IntsAt W a' (mvN B s i).Oil) => Beached_any _ (.agg #[.int .i64 (mvN B s i).K, .slice a' (mvN B s i).Oil.length c', .int .i64 (mvN B s i).Away]) B (mvN B s i) W (hB.out W h) ⟨a', c', rfl, hi', by omega⟩)
  have ht1 : totV B s = s.Away + s.Oil.sum := by unfold totV; rw [if_pos (okE_ok hval hfit)]
  have ht2 : totV B (mvN B s i) = (s.Away + s.Oil.sum) * 16 ^ i := by unfold totV; rw [if_pos (okE_ok hval hxf), mvN_tot hval hfit]
  have hb1 : beachL B s = landsL B s.Oil true := by unfold beachL; rw [if_pos (okE_ok hval hfit)]
  have hb2 : beachL B (mvN B s i) = landsL B (mvN B s i).Oil true := by unfold beachL; rw [if_pos (okE_ok hval hxf)]
  rw [ht1, okE_ok hval hfit] at T1
  rw [ht2, okE_ok hval hxf] at T2
  rw [hb1, okE_ok hval hfit] at E1
  rw [hb2, okE_ok hval hxf] at E2
  have hTb : 0 ≤ (s.Away + s.Oil.sum) * 16 ^ i ∧ (s.Away + s.Oil.sum) * 16 ^ i ≤ 80000000000 := by
    rw [← mvN_tot hval hfit]; omega
  have hAb := mvN_away hval hfit i (by omega)
  have hA0 : 0 ≤ s.Away * 16 ^ i := Int.mul_nonneg bA.1 (by omega)
  have hlen1 : (landsL B s.Oil true).length = s.Oil.length := lands_len ..
  have hlen2 : (landsL B (mvN B s i).Oil true).length = s.Oil.length := by rw [lands_len, hxl]
  have hle : ∀ j, j < s.Oil.length → 0 ≤ (landsL B s.Oil true).getD j 0 ∧ 0 ≤ (landsL B s.Oil true).getD j 0 * 16 ^ i ∧ (landsL B s.Oil true).getD j 0 * 16 ^ i ≤ (landsL B (mvN B s i).Oil true).getD j 0 ∧ (landsL B (mvN B s i).Oil true).getD j 0 ≤ 37748736000 := fun j hj => by
    have h1 := lands_bd (B := B) (land := true) (by omega) bO j (by rw [hlen1]; exact hj)
    have h2 := lands_bd (B := B) (land := true) (by omega) xO j (by rw [hlen2]; exact hj)
    exact ⟨h1.1, Int.mul_nonneg h1.1 (by omega), lands_le hval hfit (by omega) hj, h2.2⟩
  have S16 := Lib.hid (fun W => sixteen_any i W (by omega))
  have hyl : (mvN B (mvN B s i) k).Oil.length = s.Oil.length := by rw [mvN_len, mvN_len]
  have HLE := Lib.hid hle
  have HL1 := Lib.hid hlen1
  have HL2 := Lib.hid hlen2
  have HXL := Lib.hid hxl
  have HYL := Lib.hid hyl
  have HNUM := Lib.hid (And.intro b36 (And.intro bA (And.intro x36 (And.intro xA (And.intro hpb (And.intro hTb (And.intro hAb hA0)))))))
  clear b36 bA bS x36 xA xS hpb hTb hAb hA0
  clear hfit hk hval hxf hxl hxK ht1 ht2 hb1 hb2 hlen1 hlen2 hle hcast bO xO hyl HVAL
  generalize mvN B (mvN B s i) k = y at *
  generalize mvN B s i = x at *
  generalize (16 : Int) ^ i = p at *
  generalize s.Away + s.Oil.sum = T at *
  generalize landsL B s.Oil true = bs at *
  generalize landsL B x.Oil true = bx at *
  go_wp2_with fail
  refine (C1.out _ HB3.out).mono ?_
  rintro e w4 ⟨rv, rfl, ⟨ax, cx, rfl, hix, -, hfx⟩, hb4⟩
  have HB4 : Hid (Below w.heap.size w w4) := HB3.out.trans (hb4.mono HB3.out.size)
  have H0 := Lib.hid ((hb4.block _ (heap_lt G0.out)).trans G0.out)
  have H1 := Lib.hid ((hb4.block _ (heap_lt G1.out)).trans G1.out)
  clear e0 e1 e2 e3 s0 s1 s2 G0 G1 hb4 HB3 C1
  obtain ⟨e0, e1, e2, e3⟩ := cells4 H0.out
  obtain ⟨s0, s1, s2⟩ := cells3 H1.out
  have l0 := heap_lt H0.out
  have l1 := heap_lt H1.out
  have HIX := Lib.hid hix
  clear hix
  go_wp2_with fail
  have K0 := Lib.hid (heap_alloc_old H0.out (.cells #[.int .i64 x.K, .slice ax x.Oil.length cx, .int .i64 x.Away] 28))
  have K1 := Lib.hid (heap_alloc_old H1.out (.cells #[.int .i64 x.K, .slice ax x.Oil.length cx, .int .i64 x.Away] 28))
  have K2 := Lib.hid (World.alloc_heap_new w4 (.cells #[.int .i64 x.K, .slice ax x.Oil.length cx, .int .i64 x.Away] 28))
  have HX1 := Lib.hid (HIX.out.below (Nat.le_refl _) ((Below.refl _ _).alloc (Nat.le_refl _) (.cells #[.int .i64 x.K, .slice ax x.Oil.length cx, .int .i64 x.Away] 28)))
  have HB5 : Hid (Below w.heap.size w (w4.alloc (.cells #[.int .i64 x.K, .slice ax x.Oil.length cx, .int .i64 x.Away] 28))) := HB4.out.alloc HB4.out.size _
  refine (C2.out _ ax cx HB5.out HX1.out).mono ?_
  rintro e w5 ⟨rv, rfl, ⟨ay, cy, rfl, hiy, -, hfy⟩, hb5⟩
  have HB6 : Hid (Below w.heap.size w w5) := HB5.out.trans (hb5.mono HB5.out.size)
  have G0 := Lib.hid ((hb5.block _ (heap_lt K0.out)).trans K0.out)
  have G1 := Lib.hid ((hb5.block _ (heap_lt K1.out)).trans K1.out)
  have G2 := Lib.hid ((hb5.block _ (heap_lt K2.out)).trans K2.out)
  have HX2 := Lib.hid (HX1.out.below (Nat.le_refl _) hb5)
  have HIY := Lib.hid hiy
  generalize w4.heap.size = bx' at *
  clear e0 e1 e2 e3 s0 s1 s2 H0 H1 K0 K1 K2 HX1 hb5 HB5 C2 HB4 hiy HIX l0 l1 hfx hfy
  obtain ⟨e0, e1, e2, e3⟩ := cells4 G0.out
  obtain ⟨s0, s1, s2⟩ := cells3 G1.out
  obtain ⟨x0, x1, x2⟩ := cells3 G2.out
  have l0 := heap_lt G0.out
  have l1 := heap_lt G1.out
  have l2 := heap_lt G2.out
  go_wp2_with fail
  have K0 := Lib.hid (heap_alloc_old G0.out (.cells #[.int .i64 y.K, .slice ay y.Oil.length cy, .int .i64 y.Away] 28))
  have K1 := Lib.hid (heap_alloc_old G1.out (.cells #[.int .i64 y.K, .slice ay y.Oil.length cy, .int .i64 y.Away] 28))
  have K2 := Lib.hid (heap_alloc_old G2.out (.cells #[.int .i64 y.K, .slice ay y.Oil.length cy, .int .i64 y.Away] 28))
  have K3 := Lib.hid (World.alloc_heap_new w5 (.cells #[.int .i64 y.K, .slice ay y.Oil.length cy, .int .i64 y.Away] 28))
  have hal := (Below.refl w5.heap.size w5).alloc (Nat.le_refl _) (.cells #[.int .i64 y.K, .slice ay y.Oil.length cy, .int .i64 y.Away] 28)
  have HX1 := Lib.hid (HX2.out.below (Nat.le_refl _) hal)
  have HY1 := Lib.hid (HIY.out.below (Nat.le_refl _) hal)
  have HB5 : Hid (Below w.heap.size w (w5.alloc (.cells #[.int .i64 y.K, .slice ay y.Oil.length cy, .int .i64 y.Away] 28))) := HB6.out.alloc HB6.out.size _
  refine (C3.out _ HB5.out).mono ?_
  rintro e w6 ⟨rv, rfl, ⟨az, cz, rfl, hiz, -, hfz⟩, hb6⟩
  have HB7 : Hid (Below w.heap.size w w6) := HB5.out.trans (hb6.mono HB5.out.size)
  have H0 := Lib.hid ((hb6.block _ (heap_lt K0.out)).trans K0.out)
  have H1 := Lib.hid ((hb6.block _ (heap_lt K1.out)).trans K1.out)
  have H2 := Lib.hid ((hb6.block _ (heap_lt K2.out)).trans K2.out)
  have H3 := Lib.hid ((hb6.block _ (heap_lt K3.out)).trans K3.out)
  have HXX := Lib.hid (HX1.out.below (Nat.le_refl _) hb6)
  have HYY := Lib.hid (HY1.out.below (Nat.le_refl _) hb6)
  have HZZ := Lib.hid hiz
  generalize w5.heap.size = by' at *
  clear e0 e1 e2 e3 s0 s1 s2 x0 x1 x2 G0 G1 G2 K0 K1 K2 K3 HX1 HY1 hb6 HB5 C3 HB6 hiz HIY HX2 l0 l1 l2 hal hfz
  obtain ⟨e0, e1, e2, e3⟩ := cells4 H0.out
  obtain ⟨s0, s1, s2⟩ := cells3 H1.out
  obtain ⟨x0, x1, x2⟩ := cells3 H2.out
  obtain ⟨y0, y1, y2⟩ := cells3 H3.out
  have l0 := heap_lt H0.out
  have l1 := heap_lt H1.out
  have l2 := heap_lt H2.out
  have l3 := heap_lt H3.out
  go_wp2_with fail
  have hal := (Below.refl w6.heap.size w6).alloc (Nat.le_refl _) (.cells #[.int .i64 y.K, .slice az y.Oil.length cz, .int .i64 y.Away] 28)
  have hQ := equal_any ay az cy cz y y _ (HYY.out.below (Nat.le_refl _) hal) (HZZ.out.below (Nat.le_refl _) hal) (by have := HYL.out; have := HNUM.out.1; omega) (by have := HYL.out; have := HNUM.out.1; omega)
  rw [eqSlk_refl] at hQ
  refine hQ.mono ?_
  rintro e w7 ⟨rfl, hb7⟩
  have hb8 : Below w6.heap.size w6 w7 := hal.trans (hb7.mono hal.size)
  have HB8 : Hid (Below w.heap.size w w7) := HB7.out.trans (hb8.mono HB7.out.size)
  have G0 := Lib.hid ((hb8.block _ l0).trans H0.out)
  have G1 := Lib.hid ((hb8.block _ l1).trans H1.out)
  have G2 := Lib.hid ((hb8.block _ l2).trans H2.out)
  have HX := Lib.hid (HXX.out.below (Nat.le_refl _) hb8)
  clear e0 e1 e2 e3 s0 s1 s2 x0 x1 x2 y0 y1 y2 H0 H1 H2 H3 HB7 HYY HZZ HXX l0 l1 l2 l3 hal hQ hb7 hb8
  obtain ⟨e0, e1, e2, e3⟩ := cells4 G0.out
  obtain ⟨s0, s1, s2⟩ := cells3 G1.out
  obtain ⟨x0, x1, x2⟩ := cells3 G2.out
  go_wp2_with fail
  refine (T1.out _ HB8.out).mono ?_
  rintro e w8 ⟨rfl, hb8⟩
  have HB9 : Hid (Below w.heap.size w w8) := HB8.out.trans (hb8.mono HB8.out.size)
  have H0 := Lib.hid ((hb8.block _ (heap_lt G0.out)).trans G0.out)
  have H1 := Lib.hid ((hb8.block _ (heap_lt G1.out)).trans G1.out)
  have H2 := Lib.hid ((hb8.block _ (heap_lt G2.out)).trans G2.out)
  have HX1 := Lib.hid (HX.out.below (Nat.le_refl _) hb8)
  clear e0 e1 e2 e3 s0 s1 s2 x0 x1 x2 G0 G1 G2 HB8 HX hb8 T1
  obtain ⟨e0, e1, e2, e3⟩ := cells4 H0.out
  obtain ⟨s0, s1, s2⟩ := cells3 H1.out
  obtain ⟨x0, x1, x2⟩ := cells3 H2.out
  go_wp2_with fail
  refine (T2.out _ ax cx HB9.out HX1.out).mono ?_
  rintro e w9 ⟨rfl, hb8⟩
  have HB8 : Hid (Below w.heap.size w w9) := HB9.out.trans (hb8.mono HB9.out.size)
  have G0 := Lib.hid ((hb8.block _ (heap_lt H0.out)).trans H0.out)
  have G1 := Lib.hid ((hb8.block _ (heap_lt H1.out)).trans H1.out)
  have G2 := Lib.hid ((hb8.block _ (heap_lt H2.out)).trans H2.out)
  have HX := Lib.hid (HX1.out.below (Nat.le_refl _) hb8)
  clear e0 e1 e2 e3 s0 s1 s2 x0 x1 x2 H0 H1 H2 HB9 HX1 hb8 T2
  obtain ⟨e0, e1, e2, e3⟩ := cells4 G0.out
  obtain ⟨s0, s1, s2⟩ := cells3 G1.out
  obtain ⟨x0, x1, x2⟩ := cells3 G2.out
  go_wp2_with fail
  refine (E1.out _ HB8.out).mono ?_
  rintro e w10 ⟨rv, rfl, ⟨a1, c1, rfl, hi1, hf1⟩, hb8⟩
  have HB9 : Hid (Below w.heap.size w w10) := HB8.out.trans (hb8.mono HB8.out.size)
  have H0 := Lib.hid ((hb8.block _ (heap_lt G0.out)).trans G0.out)
  have H1 := Lib.hid ((hb8.block _ (heap_lt G1.out)).trans G1.out)
  have H2 := Lib.hid ((hb8.block _ (heap_lt G2.out)).trans G2.out)
  have HX1 := Lib.hid (HX.out.below (Nat.le_refl _) hb8)
  have HA1 := Lib.hid hi1
  clear e0 e1 e2 e3 s0 s1 s2 x0 x1 x2 G0 G1 G2 HB8 HX hb8 E1 hi1 hf1
  obtain ⟨e0, e1, e2, e3⟩ := cells4 H0.out
  obtain ⟨s0, s1, s2⟩ := cells3 H1.out
  obtain ⟨x0, x1, x2⟩ := cells3 H2.out
  go_wp2_with fail
  refine (E2.out _ ax cx HB9.out HX1.out).mono ?_
  rintro e w11 ⟨rv, rfl, ⟨a2, c2, rfl, hi2, hf2⟩, hb8⟩
  have HB8 : Hid (Below w.heap.size w w11) := HB9.out.trans (hb8.mono HB9.out.size)
  have G1 := Lib.hid ((hb8.block _ (heap_lt H1.out)).trans H1.out)
  have G2 := Lib.hid ((hb8.block _ (heap_lt H2.out)).trans H2.out)
  have HA2 := Lib.hid (HA1.out.below (Nat.le_refl _) hb8)
  have HA3 := Lib.hid hi2
  have l1 := heap_lt G1.out
  have l2 := heap_lt G2.out
  clear e0 e1 e2 e3 s0 s1 s2 x0 x1 x2 H0 H1 H2 HB9 HX1 hb8 E2 hi2 hf2 HA1
  obtain ⟨s0, s1, s2⟩ := cells3 G1.out
  obtain ⟨x0, x1, x2⟩ := cells3 G2.out
  have SS : ∀ x : Aft w11, Calls Try.prog 32 #[.int .i64 i] x.val fun e w' => e = .returned (.int .i64 p) ∧ x.val = w' := fun x => S16.out x.val
  have HSS := Lib.hid SS
  rw [HL1.out, HL2.out]
  obtain ⟨b36, bA, x36, xA, hpb, hTb, hAb, hA0⟩ := HNUM.out
  have hlt : (x.Away < s.Away * p) = False := by simp; omega
  clear SS
  go_wp2_with fail
  refine wp_region_aft (by kernel_rfl) (by kernel_rfl) ?_
  repeat (go_big_quiet_step ((go_at_call 32; rename_i x; exact Calls.aft_same (HSS.out x))))
  refine wpQuiet_nil ?_
  rintro w12 ⟨x5', hx5⟩
  have hb5 : Below w11.heap.size w11 w12 := by rw [hx5]; exact x5'.bel
  clear hx5 x5'
  have HB9 : Hid (Below w.heap.size w w12) := HB8.out.trans (hb5.mono HB8.out.size)
  have HA4 := Lib.hid (HA2.out.below (Nat.le_refl _) hb5)
  have HA5 := Lib.hid (HA3.out.below (Nat.le_refl _) hb5)
  clear s0 s1 s2 x0 x1 x2 l1 l2 hlt hAb hA0 hTb bA xA HA2 HA3 G1 G2 hb5 HB8 HSS
  go_wp2_with fail
  go_loopw [22] (fun iv wr => ∃ j : Nat, j ≤ s.Oil.length ∧ iv = .int .i64 j ∧ Below w12.heap.size w12 wr) (fun iv _ => s.Oil.length - (intOf iv).toNat)
  case atStart => exact ⟨0, Nat.zero_le _, rfl, Below.refl _ _⟩
  case round =>
    obtain ⟨j, hj, rfl, hb⟩ := hrel
    by_cases hlt : j < s.Oil.length
    · obtain ⟨bp, op, rfl, hp1, hp2⟩ := (HA4.out.below (Nat.le_refl _) hb).get (k := j) (by rw [HL1.out]; exact hlt)
      obtain ⟨bq, oq, rfl, hq1, hq2⟩ := (HA5.out.below (Nat.le_refl _) hb).get (k := j) (by rw [HL2.out]; exact hlt)
      obtain ⟨z0, z1, z2, z3⟩ := HLE.out j hlt
      generalize bs.getD j 0 = u at *
      generalize bx.getD j 0 = v at *
      have hlt2 : (v < u * p) = False := by simp; omega
      have hltj : (j : Int) < s.Oil.length := by omega
      have HSS : Hid (∀ x : Aft wr, Calls Try.prog 32 #[.int .i64 i] x.val fun e w' => e = .returned (.int .i64 p) ∧ x.val = w') := fun x => S16.out x.val
      have HBR := Lib.hid hb
      clear hb
      go_wp2_with fail
      refine wp_region_aft (by kernel_rfl) (by kernel_rfl) ?_
      repeat (go_big_quiet_step ((go_at_call 32; rename_i x; exact Calls.aft_same (HSS.out x))))
      refine wpQuiet_nil ?_
      rintro w13 ⟨x5', hx5⟩
      have hb5 : Hid (Below wr.heap.size wr w13) := by rw [hx5]; exact x5'.bel
      clear hx5 x5'
      go_wp2
      go_roundw
      case rel => exact ⟨j + 1, by omega, by go_num, HBR.out.trans (hb5.out.mono HBR.out.size)⟩
      case measure => simp [intOf]; omega
    · obtain rfl : j = s.Oil.length := by omega
      have HBR : Hid (Below w.heap.size w wr) := HB9.out.trans (hb.mono HB9.out.size)
      clear hb
      go_wp2_with fail
      refine (sane.out _ HBR.out).mono ?_
      rintro e w14 ⟨rfl, hb14⟩
      go_wp2
      go_ret
      exact ⟨rfl, hb14⟩
end Go.Proofs.Ytnafllhgjidbkaa

/- The numbers of cells of a mirrored bay, as the reference turns them. -/
namespace Go.Proofs.Ytnafllhgjidbkaa
open Go.RowKit
set_option linter.unusedVariables false
set_option linter.unusedSimpArgs false
theorem ints_take {l : List Int} {k : Nat} {x : Int} (h : k < l.length) (hx : l.getD k 0 = x) : (l.take (k + 1)).map C.i = (l.take k).map C.i ++ [C.i x] := by
  rw [mir_take h hx, List.map_append]; rfl
set_option maxRecDepth 100000 in
theorem mirrored_spec (B : Bay) (oil : List Int) (hval : validP B) (hl : oil.length = B.Share.length) :
    Spec Try.prog 28 [V.agg [C.i B.W, C.i B.H, C.sl 0 B.Land.length, C.sl 1 B.Share.length], V.c (.sl 2 oil.length)] [⟨0, .ro 0, B.Land.map C.bool⟩, ⟨1, .ro 0, shareC B.Share⟩, ⟨2, .ro 0, oil.map C.i⟩] 3
      (fun v L' _ => ∃ l, v = V.c (.sl l oil.length) ∧ find L' l = some ⟨l, .vec 3 1, (mirO B oil).map C.i⟩) := by
  obtain ⟨W, H, hW, hH, hWt, hHt, hW1, hH1, hS, hL⟩ := bay_nat hval
  have hBW := hval.1
  have hN36 := mul36 hval.1.1 hval.1.2 hval.2.1.1 hval.2.1.2
  have hSS := hval.2.2.2.1
  have hml := mirO_len B oil
  have gO : ∀ k, k < oil.length → mirI W k < oil.length ∧ (mirO B oil).getD k 0 = oil.getD (mirI W k) 0 := fun k hk => by
    rw [hl, hS] at hk
    exact ⟨by rw [hl, hS]; exact mirI_lt hk, mirO_get hWt hHt (by omega) hk⟩
  generalize mirO B oil = M at *
  clear hS hL
  have h36 : oil.length ≤ 36 := by omega
  refine Spec.of tok Try.func28 rfl rfl rfl fun n0 => vc_ok tok ?_
  repeat ((conv => whnf); first
      | (refine And.intro (by first | omega | exact Nat.le_of_ble_eq_true rfl | (dsimp only [inK]; omega) | (simp only [mulS_eq]; omega) | (simp only [mulS_eq, setL_length]; omega) | (simp only [setL_length, List.length_map]; omega) | exact ⟨by omega, by omega, by first | exact Nat.le_of_ble_eq_true rfl | (dsimp only; omega) | (simp only [setL_length]; omega) | (simp only [setL_length, List.length_map]; omega)⟩ | exact ⟨by omega, by first | rfl | omega, by omega, Nat.le_of_ble_eq_true rfl, Nat.le_of_ble_eq_true rfl⟩ | exact ⟨rfl, rfl, rfl, Nat.le_of_ble_eq_true rfl, by first | rfl | omega | exact Nat.le_of_ble_eq_true rfl | (simp; done) | (simp; omega), by first | rfl | omega | exact Nat.le_of_ble_eq_true rfl | (simp; done) | (simp; omega), by omega, Nat.le_of_ble_eq_true rfl⟩ | exact Eq.refl true) ?_)
      | (refine Exists.intro _ (And.intro rfl ?_))
      | (refine And.intro (And.intro rfl (chk_rowI _ _ _ _)) ?_)
      | (refine br_t (by omega) ?_)
      | (refine br_f (by omega) ?_)
      | (refine bs_t (by omega) ?_)
      | (refine bs_f (by omega) ?_)
      | (refine fun (K' : K3) hK' => ?_)
      | (refine hK' _ _ _ ?_; clear hK' K')
      | (refine draw_auto tok mixed (by kernel_rfl) ?_)
      | (refine CallK.m ?_)
      | (refine And.intro (And.intro rfl rfl) ?_))
  refine Tri.loop (γ := Nat) (fun i => i ≤ oil.length) (fun i => [(1, V.c (.sl 2 oil.length)), (2, V.c (.ptr 3 0)), (5, V.c (.sl 4 i)), (6, V.i (i : Int))])
    (fun i => [⟨0, .ro 0, B.Land.map C.bool⟩, ⟨1, .ro 0, shareC B.Share⟩, ⟨2, .ro 0, oil.map C.i⟩, ⟨3, .own 25, [C.i B.W, C.i B.H, C.sl 0 B.Land.length, C.sl 1 B.Share.length]⟩, ⟨4, .vec 3 1, (M.take i).map C.i⟩]) 5 (fun i => oil.length - i) 0 (R0 := [(4, none)]) ?_ ?_ ?_
  · exact Nat.zero_le _
  · skip
    refine ⟨?_, ?_, rfl, rfl, Nat.le_of_ble_eq_true rfl⟩
    · repeat (first | exact trivial | refine And.intro (covS_syn (by first | rfl | (refine congrArg some (congrArg V.i ?_); fail)) rfl (by first | exact trivial | exact Nat.le_of_ble_eq_true rfl)) ?_ | refine And.intro (covS_bool rfl rfl (by first | rfl | (fail))) ?_)
    · repeat (first | exact trivial | (refine And.intro (covE_some rfl (Nat.le_of_ble_eq_true rfl) (wf_shares _ _) rfl (ren_sharesX _ _)) ?_) | refine And.intro (covE_nil rfl (Nat.le_of_ble_eq_true rfl) rfl rfl) ?_ | refine And.intro (covE_some rfl (Nat.le_of_ble_eq_true rfl) (by first | exact wf_ints _ _ | exact wf_bools _ _ | first | exact wf_shares _ _ | exact hfs | simp [C.wf]) rfl (by first | exact ren_ints _ _ | exact ren_bools _ _ | exact ren_shares _ _ | (refine (ren_ints _ _).trans (congrArg some ?_); fail) | rfl)) ?_)
  · rintro i hi
    refine vc_ok tok ?_
    by_cases hil : i < oil.length
    · obtain ⟨g1, g2⟩ := gO i hil
      have hz := mirI_int (i := i) hW hW1
      have hm0 : 0 ≤ (i : Int) % B.W := Int.emod_nonneg _ (by omega)
      have hm1 : (i : Int) % B.W < B.W := Int.emod_lt_of_pos _ (by omega)
      have hm2 : (i : Int) % B.W ≤ i := by rw [hW]; exact Int.ofNat_le.2 (Nat.mod_le i W)
      have hlo : (oil.map C.i).length = oil.length := List.length_map ..
      have r1 := ints_take (l := M) (k := i) (by omega) g2
      clear gO
      repeat ((conv => whnf); first
          | (refine And.intro (by first | omega | exact Nat.le_of_ble_eq_true rfl | (dsimp only [inK]; omega) | (simp only [mulS_eq]; omega) | (simp only [mulS_eq, setL_length]; omega) | (simp only [setL_length, List.length_map]; omega) | exact ⟨by omega, by omega, by first | exact Nat.le_of_ble_eq_true rfl | (dsimp only; omega) | (simp only [setL_length]; omega) | (simp only [setL_length, List.length_map]; omega)⟩ | exact ⟨by omega, by first | rfl | omega, by omega, Nat.le_of_ble_eq_true rfl, Nat.le_of_ble_eq_true rfl⟩ | exact ⟨rfl, rfl, rfl, Nat.le_of_ble_eq_true rfl, by first | rfl | omega | exact Nat.le_of_ble_eq_true rfl | (simp; done) | (simp; omega), by first | rfl | omega | exact Nat.le_of_ble_eq_true rfl | (simp; done) | (simp; omega), by omega, Nat.le_of_ble_eq_true rfl⟩ | exact Eq.refl true) ?_)
          | (with_reducible refine ld (intLz hz g1) ?_)
          | (refine Exists.intro _ (And.intro rfl ?_))
          | (refine And.intro (And.intro rfl (chk_rowI _ _ _ _)) ?_)
          | (refine br_t (by omega) ?_)
          | (refine br_f (by omega) ?_)
          | (refine bs_t (by omega) ?_)
          | (refine bs_f (by omega) ?_)
          | (refine fun (K' : K3) hK' => ?_)
          | (refine hK' _ _ _ ?_; clear hK' K')
          | (refine draw_auto tok mixed (by kernel_rfl) ?_)
          | (refine CallK.m ?_)
          | (refine And.intro (And.intro rfl rfl) ?_))
      refine ⟨i + 1, [(4, some 6)], by omega, by omega, ?_⟩
      refine ⟨?_, ?_, rfl, rfl, Nat.le_of_ble_eq_true rfl⟩
      · repeat (first | exact trivial | refine And.intro (covS_syn (by first | rfl | (refine congrArg some (congrArg V.i ?_); fail)) rfl (by first | exact trivial | exact Nat.le_of_ble_eq_true rfl)) ?_ | refine And.intro (covS_bool rfl rfl (by first | rfl | (fail))) ?_)
      · repeat (first | exact trivial | (refine And.intro (covE_some rfl (Nat.le_of_ble_eq_true rfl) (wf_shares _ _) rfl (ren_sharesX _ _)) ?_) | refine And.intro (covE_nil rfl (Nat.le_of_ble_eq_true rfl) rfl rfl) ?_ | refine And.intro (covE_some rfl (Nat.le_of_ble_eq_true rfl) (by first | exact wf_ints _ _ | exact wf_bools _ _ | first | exact wf_shares _ _ | exact hfs | simp [C.wf]) rfl (by first | exact ren_ints _ _ | exact ren_bools _ _ | exact ren_shares _ _ | (refine (ren_ints _ _).trans (congrArg some ?_); exact r1) | rfl)) ?_)
    · obtain rfl : i = oil.length := by omega
      have k1 : M.take oil.length = M := List.take_of_length_le (by omega)
      repeat ((conv => whnf); first
          | (refine And.intro (by first | omega | exact Nat.le_of_ble_eq_true rfl | (dsimp only [inK]; omega) | (simp only [mulS_eq]; omega) | (simp only [mulS_eq, setL_length]; omega) | (simp only [setL_length, List.length_map]; omega) | exact ⟨by omega, by omega, by first | exact Nat.le_of_ble_eq_true rfl | (dsimp only; omega) | (simp only [setL_length]; omega) | (simp only [setL_length, List.length_map]; omega)⟩ | exact ⟨by omega, by first | rfl | omega, by omega, Nat.le_of_ble_eq_true rfl, Nat.le_of_ble_eq_true rfl⟩ | exact ⟨rfl, rfl, rfl, Nat.le_of_ble_eq_true rfl, by first | rfl | omega | exact Nat.le_of_ble_eq_true rfl | (simp; done) | (simp; omega), by first | rfl | omega | exact Nat.le_of_ble_eq_true rfl | (simp; done) | (simp; omega), by omega, Nat.le_of_ble_eq_true rfl⟩ | exact Eq.refl true) ?_)
          | (refine Exists.intro _ (And.intro rfl ?_))
          | (refine And.intro (And.intro rfl (chk_rowI _ _ _ _)) ?_)
          | (refine br_t (by omega) ?_)
          | (refine br_f (by omega) ?_)
          | (refine bs_t (by omega) ?_)
          | (refine bs_f (by omega) ?_)
          | (refine fun (K' : K3) hK' => ?_)
          | (refine hK' _ _ _ ?_; clear hK' K')
          | (refine draw_auto tok mixed (by kernel_rfl) ?_)
          | (refine CallK.m ?_)
          | (refine And.intro (And.intro rfl rfl) ?_))
      conv => rhs; rw [← k1]
      rfl
theorem mirrored_any {w : World} {v : Value} {B : Bay} {oil : List Int} {ao : Option Addr} {c : Nat} (hv : BayAt w v B) (hi : IntsAt w ao oil) (hval : validP B) (hl : oil.length = B.Share.length) :
    Calls Try.prog 28 #[v, .slice ao oil.length c] w fun e w' => ∃ rv, e = .returned rv ∧ w'.ownsRow w.heap.size 3 1 rv (mirO B oil).length ((mirO B oil).map (Value.int .i64)) ∧ Below w.heap.size w w' := by
  obtain ⟨la, lc, sa, sc, rfl, hla, hsh, hll, hsl⟩ := hv
  let ρ : Env := fun l => match l with | 0 => (la, lc) | 1 => (sa, sc) | _ => (ao, c)
  have hp : Hp w.heap.size ρ w [⟨0, .ro 0, B.Land.map C.bool⟩, ⟨1, .ro 0, shareC B.Share⟩, ⟨2, .ro 0, oil.map C.i⟩] 3 := by
    refine Hp.ros (fun e he => ?_) rfl
    simp only [List.mem_cons, List.not_mem_nil, or_false] at he
    rcases he with rfl | rfl | rfl
    · exact ⟨rfl, by simp, wf_bools _ _, by rw [den_bools]; exact hla⟩
    · exact ⟨rfl, by simp, wf_shares _ _, by rw [den_shares]; exact hsh⟩
    · exact ⟨rfl, by simp, wf_ints _ _, by rw [den_ints]; exact hi⟩
  have h := mirrored_spec B oil hval hl ρ w hp (by
    intro v hv
    simp only [List.mem_cons, List.not_mem_nil, or_false] at hv
    rcases hv with rfl | rfl <;> simp [V.wf, A.wf, C.wf, C.i])
  refine (show Calls Try.prog 28 #[.agg #[.int .i64 B.W, .int .i64 B.H, .slice la B.Land.length lc, .slice sa B.Share.length sc], .slice ao oil.length c] w _ from h).mono ?_
  rintro e w' ⟨v, ρ', L', nx', rfl, h1, h2, h3, h4, h5, l, rfl, hf⟩
  obtain ⟨hm, _⟩ := find_mem hf
  obtain ⟨n, hown⟩ := h5.ok _ hm
  rw [den_ints] at hown
  have hn : n = (mirO B oil).length := by have := hown.1; simp at this; omega
  have hol : (mirO B oil).length = oil.length := mirO_len ..
  rw [hn] at hown
  refine ⟨_, rfl, ?_, h4⟩
  rw [show (V.c (.sl l oil.length)).den ρ' = .slice (ρ' l).1 (mirO B oil).length (ρ' l).2 by rw [hol]; rfl]
  exact hown
section
variable {n0 nx a b c d : Nat} {ka kb kc kd : Kd} {L : List E} {K : V → List E → Nat → Prop} {B : Bay} {s t : Slk}
theorem mirrored_k {oil : List Int} {n : Nat} (hn : n = oil.length) (hval : validP B) (hl : oil.length = B.Share.length) (hll : B.Land.length ≤ 100) (hsl : B.Share.length ≤ 100)
    (ha : find L a = some ⟨a, ka, B.Land.map C.bool⟩) (hb : find L b = some ⟨b, kb, shareC B.Share⟩) (hc : find L c = some ⟨c, kc, oil.map C.i⟩) (hK : K (V.c (.sl nx (mirO B oil).length)) [⟨nx, .vec 3 1, (mirO B oil).map C.i⟩] (nx + 1)) :
    CallK Try.prog n0 28 [V.agg [C.i B.W, C.i B.H, C.sl a B.Land.length, C.sl b B.Share.length], V.c (.sl c n)] L nx K := by
  subst hn
  exact CallK.oldVec (l := mirO B oil) (by kernel_rfl) (fun ρ w hp => mirrored_any (bay_of hp ha hb hll hsl) (ints_of hp hc) hval hl) hK
theorem afterM_k {n : Nat} {y : Int} (hy : y = n) (hval : validP B) (hf : fitsP B s) (hn : s.K + n ≤ 5) (hll : B.Land.length ≤ 100) (hsl : B.Share.length ≤ 100) (hs : s.Oil.length < 1152921504606846976)
    (ha : find L a = some ⟨a, ka, B.Land.map C.bool⟩) (hb : find L b = some ⟨b, kb, shareC B.Share⟩) (hc : find L c = some ⟨c, kc, s.Oil.map C.i⟩)
    (hK : K (V.tup [A.agg [C.i (mvN B s n).K, C.sl nx (mvN B s n).Oil.length, C.i (mvN B s n).Away], A.c (C.i 0)]) [⟨nx, .ro 0, (mvN B s n).Oil.map C.i⟩] (nx + 1)) :
    CallK Try.prog n0 20 [V.agg [C.i B.W, C.i B.H, C.sl a B.Land.length, C.sl b B.Share.length], V.agg [C.i s.K, C.sl c s.Oil.length, C.i s.Away], V.i y] L nx K := by
  subst hy
  have h := aft_ok (n := n) hval hf hn
  have hK5 := hf.1
  refine CallK.oldRo (l := (mvN B s n).Oil) (u := V.tup [A.agg [C.i (mvN B s n).K, C.sl nx (mvN B s n).Oil.length, C.i (mvN B s n).Away], A.c (C.i 0)]) (by kernel_rfl) (by simp [V.wf, A.wf, C.wf, C.i]) (fun ρ w hp => (After_any _ _ B s n w (bay_of hp ha hb hll hsl) (slk_of hp hc hs) (by omega)).mono ?_) hK
  rintro e w' ⟨rv, rfl, hnew, hbw⟩
  rw [h.2] at hnew
  obtain ⟨ao, cc, rfl, hi, hl, hblk⟩ := hnew
  exact ⟨ao, cc, by rw [h.1]; simp [V.den, A.den, C.den, C.i, Env.put_same], hi, hblk, hbw⟩
theorem sameI_k {l : List Int} {n m : Nat} (hn1 : n = l.length) (hm1 : m = l.length) (hn : l.length ≤ 1000000) (hc : find L c = some ⟨c, kc, l.map C.i⟩) (hd : find L d = some ⟨d, kd, l.map C.i⟩) (hK : K (V.c .tt) [] nx) :
    CallK Try.prog n0 29 [V.c (.sl c n), V.c (.sl d m)] L nx K := by
  subst hn1; subst hm1
  exact CallK.old (u := V.c .tt) (by kernel_rfl) trivial (fun ρ w hp => (sameInts_any _ _ _ _ l l w (ints_of hp hc) (ints_of hp hd) hn hn).mono (by rintro e w' ⟨rfl, hb⟩; exact ⟨by simp [sameB, V.den, A.den, C.den], hb⟩)) hK
theorem isM_k (hval : validP B) (hll : B.Land.length ≤ 100) (hsl : B.Share.length ≤ 100)
    (ha : find L a = some ⟨a, ka, B.Land.map C.bool⟩) (hb : find L b = some ⟨b, kb, shareC B.Share⟩) (hc : find L c = some ⟨c, kc, s.Oil.map C.i⟩) (hK : K (V.c (.bool (fitsB B s))) [] nx) :
    CallK Try.prog n0 27 [V.agg [C.i B.W, C.i B.H, C.sl a B.Land.length, C.sl b B.Share.length], V.agg [C.i s.K, C.sl c s.Oil.length, C.i s.Away]] L nx K :=
  CallK.old (u := V.c (.bool (fitsB B s))) (by kernel_rfl) trivial (fun ρ w hp => is_any2 B s _ _ _ _ _ _ w (bay_of hp ha hb hll hsl) (ints_of hp hc) hval) hK
end
end Go.Proofs.Ytnafllhgjidbkaa

/- The law that a mirrored slick moves in the mirrored bay as the slick in the bay. -/
namespace Go.Proofs.Ytnafllhgjidbkaa
open Go.RowKit
set_option linter.unusedVariables false
set_option linter.unusedSimpArgs false
theorem bool_orM (b : Bool) : b = false ∨ b = true := by cases b <;> simp
set_option maxRecDepth 100000 in
set_option maxHeartbeats 1000000 in
theorem turns_spec (B : Bay) (s : Slk) (m : Int) (hm : 0 ≤ m ∧ m ≤ 255) :
    Spec Try.prog 5 [V.agg [C.i B.W, C.i B.H, C.sl 0 B.Land.length, C.sl 1 B.Share.length], V.agg [C.i s.K, C.sl 2 s.Oil.length, C.i s.Away], V.c (.int .u8 m)]
      [⟨0, .ro 0, B.Land.map C.bool⟩, ⟨1, .ro 0, shareC B.Share⟩, ⟨2, .ro 0, s.Oil.map C.i⟩] 3 (Is (V.c (.bool true))) := by
  by_cases hL : 100 < B.Land.length ∨ 100 < B.Share.length
  · have hL' : decide (100 < B.Land.length ∨ 100 < B.Share.length) = true := decide_eq_true hL
    refine Spec.of tok Try.func5 rfl rfl rfl fun n0 => vc_ok tok ?_
    repeat ((conv => whnf); first
        | (refine And.intro (by first | omega | exact Nat.le_of_ble_eq_true rfl | (dsimp only [inK]; omega) | (simp only [mulS_eq]; omega) | (simp only [mulS_eq, setL_length]; omega) | (simp only [setL_length, List.length_map]; omega) | exact ⟨by omega, by omega, by first | exact Nat.le_of_ble_eq_true rfl | (dsimp only; omega) | (simp only [setL_length]; omega) | (simp only [setL_length, List.length_map]; omega)⟩ | exact ⟨by omega, by first | rfl | omega, by omega, Nat.le_of_ble_eq_true rfl, Nat.le_of_ble_eq_true rfl⟩ | exact ⟨rfl, rfl, rfl, Nat.le_of_ble_eq_true rfl, by first | rfl | omega | exact Nat.le_of_ble_eq_true rfl | (simp; done) | (simp; omega), by first | rfl | omega | exact Nat.le_of_ble_eq_true rfl | (simp; done) | (simp; omega), by omega, Nat.le_of_ble_eq_true rfl⟩ | exact Eq.refl true) ?_)
        | (refine Exists.intro _ (And.intro rfl ?_))
        | (refine And.intro (And.intro rfl (chk_rowI _ _ _ _)) ?_)
        | (refine br_t (by omega) ?_)
        | (refine br_f (by omega) ?_)
        | (refine bs_t (by omega) ?_)
        | (refine bs_f (by omega) ?_)
        | (refine fun (K' : K3) hK' => ?_)
        | (refine hK' _ _ _ ?_; clear hK' K')
        | (refine draw_auto tok mixed (by kernel_rfl) ?_)
        | (refine LongM_k B ?_)
        | (refine SaneM_k ?_)
        | (refine bs_bt hL' ?_)
        | (refine br_bt hL' ?_)
        | (refine CallK.m ?_)
        | (refine And.intro (And.intro rfl rfl) ?_))
    intro ρ; rfl
  have hL' : decide (100 < B.Land.length ∨ 100 < B.Share.length) = false := decide_eq_false hL
  have hll : B.Land.length ≤ 100 := by omega
  have hsl : B.Share.length ≤ 100 := by omega
  rcases bool_orM (validB B) with hvb | hvb
  · have hv' : (!validB B) = true := by rw [hvb]; rfl
    refine Spec.of tok Try.func5 rfl rfl rfl fun n0 => vc_ok tok ?_
    repeat ((conv => whnf); first
        | (refine And.intro (by first | omega | exact Nat.le_of_ble_eq_true rfl | (dsimp only [inK]; omega) | (simp only [mulS_eq]; omega) | (simp only [mulS_eq, setL_length]; omega) | (simp only [setL_length, List.length_map]; omega) | exact ⟨by omega, by omega, by first | exact Nat.le_of_ble_eq_true rfl | (dsimp only; omega) | (simp only [setL_length]; omega) | (simp only [setL_length, List.length_map]; omega)⟩ | exact ⟨by omega, by first | rfl | omega, by omega, Nat.le_of_ble_eq_true rfl, Nat.le_of_ble_eq_true rfl⟩ | exact ⟨rfl, rfl, rfl, Nat.le_of_ble_eq_true rfl, by first | rfl | omega | exact Nat.le_of_ble_eq_true rfl | (simp; done) | (simp; omega), by first | rfl | omega | exact Nat.le_of_ble_eq_true rfl | (simp; done) | (simp; omega), by omega, Nat.le_of_ble_eq_true rfl⟩ | exact Eq.refl true) ?_)
        | (refine Exists.intro _ (And.intro rfl ?_))
        | (refine And.intro (And.intro rfl (chk_rowI _ _ _ _)) ?_)
        | (refine br_t (by omega) ?_)
        | (refine br_f (by omega) ?_)
        | (refine bs_t (by omega) ?_)
        | (refine bs_f (by omega) ?_)
        | (refine fun (K' : K3) hK' => ?_)
        | (refine hK' _ _ _ ?_; clear hK' K')
        | (refine draw_auto tok mixed (by kernel_rfl) ?_)
        | (refine LongM_k B ?_)
        | (refine rvalid_k hll hsl rfl rfl ?_)
        | (refine SaneM_k ?_)
        | (refine bs_bf hL' ?_)
        | (refine br_bf hL' ?_)
        | (refine bs_bt hv' ?_)
        | (refine br_bt hv' ?_)
        | (refine CallK.m ?_)
        | (refine And.intro (And.intro rfl rfl) ?_))
    intro ρ; rfl
  have hv' : (!validB B) = false := by rw [hvb]; rfl
  have hval : validP B := by simpa [validB] using hvb
  rcases bool_orM (fitsB B s) with hfb | hfb
  · have hf' : (!fitsB B s) = true := by rw [hfb]; rfl
    refine Spec.of tok Try.func5 rfl rfl rfl fun n0 => vc_ok tok ?_
    repeat ((conv => whnf); first
        | (refine And.intro (by first | omega | exact Nat.le_of_ble_eq_true rfl | (dsimp only [inK]; omega) | (simp only [mulS_eq]; omega) | (simp only [mulS_eq, setL_length]; omega) | (simp only [setL_length, List.length_map]; omega) | exact ⟨by omega, by omega, by first | exact Nat.le_of_ble_eq_true rfl | (dsimp only; omega) | (simp only [setL_length]; omega) | (simp only [setL_length, List.length_map]; omega)⟩ | exact ⟨by omega, by first | rfl | omega, by omega, Nat.le_of_ble_eq_true rfl, Nat.le_of_ble_eq_true rfl⟩ | exact ⟨rfl, rfl, rfl, Nat.le_of_ble_eq_true rfl, by first | rfl | omega | exact Nat.le_of_ble_eq_true rfl | (simp; done) | (simp; omega), by first | rfl | omega | exact Nat.le_of_ble_eq_true rfl | (simp; done) | (simp; omega), by omega, Nat.le_of_ble_eq_true rfl⟩ | exact Eq.refl true) ?_)
        | (refine Exists.intro _ (And.intro rfl ?_))
        | (refine And.intro (And.intro rfl (chk_rowI _ _ _ _)) ?_)
        | (refine br_t (by omega) ?_)
        | (refine br_f (by omega) ?_)
        | (refine bs_t (by omega) ?_)
        | (refine bs_f (by omega) ?_)
        | (refine fun (K' : K3) hK' => ?_)
        | (refine hK' _ _ _ ?_; clear hK' K')
        | (refine draw_auto tok mixed (by kernel_rfl) ?_)
        | (refine LongM_k B ?_)
        | (refine rvalid_k hll hsl rfl rfl ?_)
        | (refine isM_k (s := s) hval hll hsl rfl rfl rfl ?_)
        | (refine SaneM_k ?_)
        | (refine bs_bf hL' ?_)
        | (refine br_bf hL' ?_)
        | (refine bs_bf hv' ?_)
        | (refine br_bf hv' ?_)
        | (refine bs_bt hf' ?_)
        | (refine br_bt hf' ?_)
        | (refine CallK.m ?_)
        | (refine And.intro (And.intro rfl rfl) ?_))
    intro ρ; rfl
  have hf' : (!fitsB B s) = false := by rw [hfb]; rfl
  have hf : fitsP B s := fitsB_iff.1 hfb
  have hl := len_share hval hf
  have hsn : s.Oil.length < 1152921504606846976 := by omega
  have hK := hf.1
  obtain ⟨k, hk⟩ : ∃ k : Nat, m % (5 - s.K + 1) = k := ⟨(m % (5 - s.K + 1)).toNat, by have := Int.emod_nonneg m (show 5 - s.K + 1 ≠ 0 by omega); omega⟩
  have hkb : s.K + k ≤ 5 := by have := Int.emod_lt_of_pos m (show 0 < 5 - s.K + 1 by omega); omega
  have hE : mirE B = 0 := by unfold mirE; rw [hvb]; rfl
  have hR : mirR B = mirB B := by unfold mirR; rw [hvb]; rfl
  obtain ⟨l1, l2⟩ := mirB_len B
  have hm1 : (mirB B).Land.length ≤ 100 := by omega
  have hm2 : (mirB B).Share.length ≤ 100 := by omega
  have hval2 := mirB_valid hval
  have hf2 := fits_mir hval hf
  have hmv := mvN_mir hval hl k
  have hxl : (mvN B s k).Oil.length = s.Oil.length := mvN_len B s k
  have hol : (mirO B s.Oil).length = s.Oil.length := mirO_len ..
  have hol2 : (mirO B (mvN B s k).Oil).length = s.Oil.length := by rw [mirO_len, hxl]
  have A2 : ∀ {n0 nx a b c : Nat} {ka kb kc : Kd} {L : List E} {K : V → List E → Nat → Prop}, find L a = some ⟨a, ka, (mirB B).Land.map C.bool⟩ → find L b = some ⟨b, kb, shareC (mirB B).Share⟩ → find L c = some ⟨c, kc, (mirO B s.Oil).map C.i⟩ →
      K (V.tup [A.agg [C.i (mvN B s k).K, C.sl nx (mirO B (mvN B s k).Oil).length, C.i (mvN B s k).Away], A.c (C.i 0)]) [⟨nx, .ro 0, (mirO B (mvN B s k).Oil).map C.i⟩] (nx + 1) →
      CallK Try.prog n0 20 [V.agg [C.i (mirB B).W, C.i (mirB B).H, C.sl a (mirB B).Land.length, C.sl b (mirB B).Share.length], V.agg [C.i s.K, C.sl c (mirO B s.Oil).length, C.i s.Away], V.i (m % (5 - s.K + 1))] L nx K := by
    intro n0 nx a b c ka kb kc L K h1 h2 h3 hK'
    refine afterM_k (s := mirS B s) hk hval2 hf2 hkb hm1 hm2 (by show (mirO B s.Oil).length < _; omega) h1 h2 h3 ?_
    rw [hmv]; exact hK'
  have hlm : (mvN B s k).Oil.length = B.Share.length := by omega
  refine Spec.of tok Try.func5 rfl rfl rfl fun n0 => vc_ok tok ?_
  repeat ((conv => whnf); first
      | (refine And.intro (by first | omega | exact Nat.le_of_ble_eq_true rfl | (dsimp only [inK]; omega) | (simp only [mulS_eq]; omega) | (simp only [mulS_eq, setL_length]; omega) | (simp only [setL_length, List.length_map]; omega) | exact ⟨by omega, by omega, by first | exact Nat.le_of_ble_eq_true rfl | (dsimp only; omega) | (simp only [setL_length]; omega) | (simp only [setL_length, List.length_map]; omega)⟩ | exact ⟨by omega, by first | rfl | omega, by omega, Nat.le_of_ble_eq_true rfl, Nat.le_of_ble_eq_true rfl⟩ | exact ⟨rfl, rfl, rfl, Nat.le_of_ble_eq_true rfl, by first | rfl | omega | exact Nat.le_of_ble_eq_true rfl | (simp; done) | (simp; omega), by first | rfl | omega | exact Nat.le_of_ble_eq_true rfl | (simp; done) | (simp; omega), by omega, Nat.le_of_ble_eq_true rfl⟩ | exact Eq.refl true) ?_)
      | (refine Exists.intro _ (And.intro rfl ?_))
      | (refine And.intro (And.intro rfl (chk_rowI _ _ _ _)) ?_)
      | (refine br_t (by omega) ?_)
      | (refine br_f (by omega) ?_)
      | (refine bs_t (by omega) ?_)
      | (refine bs_f (by omega) ?_)
      | (refine fun (K' : K3) hK' => ?_)
      | (refine hK' _ _ _ ?_; clear hK' K')
      | (refine draw_late 17 [12] tok mixed (by decide +kernel) ?_)
      | (refine draw_auto tok mixed (by kernel_rfl) ?_)
      | (refine LongM_k B ?_)
      | (refine rvalid_k hll hsl rfl rfl ?_)
      | (refine isM_k (s := s) hval hll hsl rfl rfl rfl ?_)
      | (refine bs_bf hL' ?_)
      | (refine br_bf hL' ?_)
      | (refine bs_bf hv' ?_)
      | (refine br_bf hv' ?_)
      | (refine bs_bf hf' ?_)
      | (refine br_bf hf' ?_)
      | (refine Mirror_k hR hll hsl rfl rfl ?_)
      | (refine afterM_k (s := s) hk hval hf hkb hll hsl hsn rfl rfl rfl ?_)
      | (refine HD_mk (fun _ h => mirrored_k (oil := s.Oil) rfl hval hl hll hsl rfl rfl rfl h) ?_)
      | (refine HD_mk (fun _ h => A2 rfl rfl rfl h) ?_)
      | (refine HD_mk (fun _ h => mirrored_k (oil := (mvN B s k).Oil) rfl hval hlm hll hsl rfl rfl rfl h) ?_)
      | (refine HD_mk (fun _ h => sameI_k (l := mirO B (mvN B s k).Oil) rfl rfl (by omega) rfl rfl h) ?_)
      | (refine HD_mk (fun _ h => SaneM_k h) ?_)
      | (refine CallK.m ?_)
      | (refine And.intro (And.intro rfl rfl) ?_))
  intro ρ; rfl
theorem turns_any (B : Bay) (s : Slk) (m : Int) (la sa ao : Option Addr) (lc sc c : Nat) (w : World) (hl : BoolsAt w la B.Land) (hsh : FivesAt w sa B.Share) (hi : IntsAt w ao s.Oil) (hm : 0 ≤ m ∧ m ≤ 255) :
    Calls Try.prog 5 #[.agg #[.int .i64 B.W, .int .i64 B.H, .slice la B.Land.length lc, .slice sa B.Share.length sc], .agg #[.int .i64 s.K, .slice ao s.Oil.length c, .int .i64 s.Away], .int .u8 m] w fun e w' => e = .returned (.bool true) ∧ Below w.heap.size w w' := by
  let ρ : Env := fun l => match l with | 0 => (la, lc) | 1 => (sa, sc) | _ => (ao, c)
  have hp : Hp w.heap.size ρ w [⟨0, .ro 0, B.Land.map C.bool⟩, ⟨1, .ro 0, shareC B.Share⟩, ⟨2, .ro 0, s.Oil.map C.i⟩] 3 := by
    refine Hp.ros (fun e he => ?_) rfl
    simp only [List.mem_cons, List.not_mem_nil, or_false] at he
    rcases he with rfl | rfl | rfl
    · exact ⟨rfl, by simp, wf_bools _ _, by rw [den_bools]; exact hl⟩
    · exact ⟨rfl, by simp, wf_shares _ _, by rw [den_shares]; exact hsh⟩
    · exact ⟨rfl, by simp, wf_ints _ _, by rw [den_ints]; exact hi⟩
  have h := turns_spec B s m hm ρ w hp (by
    intro v hv
    simp only [List.mem_cons, List.not_mem_nil, or_false] at hv
    rcases hv with rfl | rfl | rfl <;> simp [V.wf, A.wf, C.wf, C.i])
  refine (show Calls Try.prog 5 #[.agg #[.int .i64 B.W, .int .i64 B.H, .slice la B.Land.length lc, .slice sa B.Share.length sc], .agg #[.int .i64 s.K, .slice ao s.Oil.length c, .int .i64 s.Away], .int .u8 m] w _ from h).mono ?_
  rintro e w' ⟨v, ρ', L', nx', rfl, h1, h2, h3, h4, h5, h6⟩
  exact ⟨by rw [h6 ρ']; rfl, h4⟩
end Go.Proofs.Ytnafllhgjidbkaa

