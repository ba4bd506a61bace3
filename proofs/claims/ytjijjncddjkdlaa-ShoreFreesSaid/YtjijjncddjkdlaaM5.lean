/- Texts of the proof, part 5: N5, U27, G2, G3, G4, V6, N6, G5, G6, G7, V11, L3, L13. -/
import Derived.Test.YtjijjncddjkdlaaM4
import Derived.WalkKit
import Derived.Below
import Derived.Laws.OwnMore
import Derived.Maps.AppendAt
import Derived.Laws.IdiomCopy
import Derived.Laws.CopyRow
import Derived.IntWalk
import Derived.StillTail
import Derived.Scope
import Derived.ChangeKeysEq
import Derived.Laws.Small
import Derived.OrdersIn
import Derived.TacticsIn
import Derived.OwnWalkIn
import Derived.RangeFuncNested
import Derived.RangeFuncLeaves
import Derived.RangeFuncRecord
import Derived.Maps.Keyed
import Derived.Maps.RangeRun
import Derived.DeepKeys4
import Derived.Test.YtjijjncddjkdlaaRows
import Derived.KernelRfl
import Derived.ProofKit
import Derived.OpenShut
import Derived.Lib.SmallJoins
import Derived.Deep.Slices
import Derived.PlainAid
import Derived.StillTailTactics
import Derived.WalkSpells
import Derived.OwnWalk
import Derived.Lib.AppendZerosOnto
import Derived.Lib.AppendZeros
import Derived.Deep.AppendSrc
import Derived.Lib.SliceRun
import Derived.Lib.Walk
/- Shore: Turned. -/
namespace Go.Proofs.Ytjijjncddjkdlaa
open Go.RowKit
set_option linter.unusedVariables false
set_option linter.unusedSimpArgs false
theorem find_nodup : ∀ {L : List E}, (L.map E.lab).Nodup → ∀ {e : E}, e ∈ L → find L e.lab = some e
  | ⟨lab, kd, cs⟩ :: r, hn, e, he => by
    simp only [List.map_cons, List.nodup_cons] at hn
    rcases List.mem_cons.1 he with rfl | he
    · simp [find]
    · rw [find_skip (fun h => hn.1 (by rw [h]; exact List.mem_map.2 ⟨e, he, rfl⟩))]
      exact find_nodup hn.2 he
/-- A tail whose cells name nothing. -/
def TailPl (T : List E) : Prop := ∀ e ∈ T, (∀ n, ∀ c ∈ e.cs, c.wf n) ∧ ∀ R, seqO (e.cs.map (C.ren R)) = some e.cs
theorem covL_tail {R : Rn} {nx : Nat} {L T : List E} (h : TailOk T) (hp : TailPl T) (hR : ∀ l, l < 60 → renL R l = some l) (hnx : 60 ≤ nx) (hL : ∀ e ∈ T, find L e.lab = find T e.lab) : covL R nx L T := by
  refine covL_all fun e he => ?_
  have hlab := h.lab e he
  exact covE_some (hR _ (by omega)) (by omega) ((hp e he).1 nx) ((hL e he).trans (find_nodup h.nd he)) ((hp e he).2 R)
theorem pl_rm {α : Type} {kd : Kd} {cs : α → List C} {l : List α} {j : Coast} {x : Nat} (d : α) (hp : Plain cs) : TailPl (rmL (famE kd cs 40 l) x ++ entC 1 j) := by
  intro e he
  rcases List.mem_append.1 he with he | he
  · obtain ⟨i, hi, rfl⟩ := famE_mem (d := d) (rm_mem he).1
    exact ⟨fun n => hp.wf n _, fun R => hp.ren R _⟩
  · obtain ⟨i, hi, rfl⟩ := entC_mem he
    exact ⟨fun n => wf_jobs n _, fun R => ren_jobs R _⟩
/-- A slice of the row under another name. -/
theorem famS_re {α : Type} {ln : α → Nat} {x y n : Nat} : ∀ {b k : Nat} {l : List α}, (x < b ∨ b + l.length ≤ x) → k < l.length → seqO (((famS ln b l).set k (.sl x n)).map (C.ren [(x, some y)])) = some ((famS ln b l).set k (.sl y n))
  | b, k, [], _, h => by simp at h
  | b, k, a :: l, hx, h => by
    simp only [List.length_cons] at hx h
    have hrest : ∀ {b : Nat} {l : List α}, (x < b ∨ b + l.length ≤ x) → seqO ((famS ln b l).map (C.ren [(x, some y)])) = some (famS ln b l) := by
      intro b l
      induction l generalizing b with
      | nil => intro _; rfl
      | cons a l ih =>
        intro hx
        simp only [List.length_cons] at hx
        simp only [famS, List.map_cons, C.ren, renL_ne (show x ≠ b by omega), seqO, ih (b := b + 1) (by omega)]
    cases k with
    | zero =>
      simp only [famS, List.set_cons_zero, List.map_cons, C.ren, renL_eq, seqO, hrest (b := b + 1) (l := l) (by omega)]
    | succ k =>
      simp only [famS, List.set_cons_succ, List.map_cons, C.ren, renL_ne (show x ≠ b by omega), seqO, famS_re (b := b + 1) (k := k) (l := l) (x := x) (y := y) (n := n) (by omega) (by omega)]
theorem backJ_spec (lc n nx : Nat) (L : List E) : SpecM Try.prog 75 [V.c (.sl lc n)] L nx (fun v L' nx' => v = V.c (.fn 84 [(nx, 0)]) ∧ L' = ⟨nx, .own 31, [.sl lc n]⟩ :: L ∧ nx' = nx + 1) := by
  refine SpecM.of tok Try.func75 rfl rfl rfl fun n0 cx => vc_ok tok ?_
  repeat ((conv => whnf); first | (refine And.intro (by first | omega | exact Nat.le_of_ble_eq_true rfl | (dsimp only [inK]; omega) | (simp only [mulS_eq]; omega) | (simp only [mulS_eq, setL_length]; omega) | (simp only [setL_length, List.length_map]; omega) | exact ⟨by omega, by omega, by first | exact Nat.le_of_ble_eq_true rfl | (dsimp only; omega) | (simp only [setL_length]; omega) | (simp only [setL_length, List.length_map]; omega)⟩ | exact ⟨by omega, by first | rfl | omega, by omega, Nat.le_of_ble_eq_true rfl, Nat.le_of_ble_eq_true rfl⟩ | exact ⟨rfl, rfl, rfl, Nat.le_of_ble_eq_true rfl, by first | rfl | omega | exact Nat.le_of_ble_eq_true rfl | (dsimp only; omega) | (simp; done) | (simp; omega), by first | rfl | omega | exact Nat.le_of_ble_eq_true rfl | (dsimp only; omega) | (simp; done) | (simp; omega), by omega, Nat.le_of_ble_eq_true rfl⟩ | exact Eq.refl true) ?_) | (refine Exists.intro _ (And.intro rfl ?_)) | (refine And.intro (And.intro rfl (chk_rowI _ _ _ _)) ?_) | (refine br_t (by omega) ?_) | (refine br_f (by omega) ?_) | (refine bs_t (by omega) ?_) | (refine bs_f (by omega) ?_) | (refine fun (K' : K3) hK' => ?_) | (refine hK' _ _ _ ?_; clear hK' K') | (refine draw_auto tok mixed (by kernel_rfl) ?_) | (refine bs_bt (Eq.refl true) ?_) | (refine bs_bf (Eq.refl false) ?_) | (refine br_bt (Eq.refl true) ?_) | (refine br_bf (Eq.refl false) ?_) | (refine CallK.m ?_) | (refine Two.l ?_) | (refine And.intro (And.intro rfl rfl) ?_))
  exact ⟨rfl, rfl, rfl⟩
def swapJ (x : Job) : Job := (x.2, x.1)
/-- The first m jobs of a beach from behind, with hours and harm exchanged. -/
def tpart (l : List Job) (m : Nat) : List Job := (l.reverse.take m).map swapJ
theorem tpart_len {l : List Job} {m : Nat} (h : m ≤ l.length) : (tpart l m).length = m := by simp [tpart]; omega
theorem tpart_succ {l : List Job} {m : Nat} (h : m < l.length) : tpart l (m + 1) = tpart l m ++ [swapJ (l.getD (l.length - 1 - m) (0, 0))] := by
  unfold tpart
  rw [take_succ_getD (d := (0, 0)) (by rw [List.length_reverse]; exact h), List.map_append]
  congr 2
  rw [getD_lt (by rw [List.length_reverse]; exact h), List.getElem_reverse, getD_lt (by omega)]; rfl
/-- The turned beaches, of the first k. -/
def turnL (j : Coast) (k : Nat) : List (List Job) := (List.range j.length).map fun i => if i < k then tpart (j.getD i []) (j.getD i []).length else []
theorem turnL_len {j : Coast} {k : Nat} : (turnL j k).length = j.length := by simp [turnL]
theorem turnL_get {j : Coast} {k i : Nat} (hi : i < j.length) : (turnL j k).getD i [] = if i < k then tpart (j.getD i []) (j.getD i []).length else [] := by
  simp [turnL, List.getD_eq_getElem?_getD, hi]
theorem turnL_zero {j : Coast} : turnL j 0 = List.replicate j.length [] := by
  apply List.ext_getElem (by simp [turnL])
  intro i h1 h2
  simp [turnL]
theorem turnL_set {j : Coast} {k : Nat} (hk : k < j.length) : (turnL j k).set k (tpart (j.getD k []) (j.getD k []).length) = turnL j (k + 1) := by
  apply List.ext_getElem (by simp [turnL])
  intro i h1 h2
  rw [List.getElem_set]
  simp only [turnL, List.length_map, List.length_range] at h2
  by_cases h : k = i
  · subst h; simp [turnL]
  · rw [if_neg h]
    simp only [turnL, List.getElem_map, List.getElem_range]
    by_cases h2 : i < k
    · rw [if_pos h2, if_pos (by omega)]
    · rw [if_neg h2, if_neg (by omega)]
/-- The jobs turned round. -/
def turnJ (j : Coast) : Coast := turnL j j.length
def harmful (j : Coast) : Bool := j.all fun l => l.all fun x => decide (x.2 ≠ 0)
def turnE (j : Coast) : Int := if validL j then (if harmful j then 0 else 5) else 60
def turnR (j : Coast) : Coast := if turnE j = 0 then turnJ j else []
theorem jobC_app (a b : List Job) : jobC (a ++ b) = jobC a ++ jobC b := by simp [jobC]
theorem harmful_of {j : Coast} (h : ∀ b, b < j.length → ∀ i, i < (j.getD b []).length → (jobA j b i).2 ≠ 0) : harmful j = true := by
  refine List.all_eq_true.2 fun l hl => List.all_eq_true.2 fun x hx => ?_
  obtain ⟨b, hb, rfl⟩ := List.mem_iff_getElem.1 hl
  obtain ⟨i, hi, rfl⟩ := List.mem_iff_getElem.1 hx
  have e : j.getD b [] = j[b] := getD_lt hb
  have := h b hb i (by rw [e]; exact hi)
  unfold jobA at this
  rw [e, getD_lt hi] at this
  simpa using this
theorem harmful_no {j : Coast} {b i : Nat} (hb : b < j.length) (hi : i < (j.getD b []).length) (h : (jobA j b i).2 = 0) : harmful j = false := by
  refine Bool.eq_false_iff.2 fun hh => ?_
  have e : j.getD b [] = j[b] := getD_lt hb
  unfold jobA at h
  rw [e] at hi h
  rw [getD_lt hi] at h
  have h1 := List.all_eq_true.1 hh _ (List.getElem_mem hb)
  have h2 := List.all_eq_true.1 h1 _ (List.getElem_mem hi)
  simp only [decide_eq_true_eq] at h2
  exact h2 h
abbrev rowJ : Kd := .vec 47 2
theorem chk_jobs (p : Nat → Bool) (l : List Job) : (jobC l).all (C.chk p) = true := List.all_eq_true.2 fun c hc => by
  simp only [jobC, List.mem_flatMap] at hc
  obtain ⟨j, _, hc⟩ := hc
  simp at hc
  rcases hc with rfl | rfl <;> rfl
theorem chk_rowJ (p : Nat → Bool) (l : List Job) (x y : Int) (lab : Nat) (kd : Kd) : (([⟨lab, kd, jobC l ++ [C.i x, C.i y]⟩] : List E).all fun e => e.cs.all (C.chk p)) = true := by
  simp only [List.all_cons, List.all_nil, Bool.and_true, List.all_append, chk_jobs, Bool.true_and]
  rfl
set_option maxHeartbeats 2000000 in
set_option maxRecDepth 100000 in
theorem Turned_spec (j : Coast) (hj : Sized j) : Spec Try.prog 42 [V.c (.sl 0 j.length)] (⟨0, .ro 1, slsC 1 j⟩ :: entC 1 j) 32 (fun v L' _ => rowsR 31 rowJ jobC List.length [] (turnR j) (turnE j) v L') := by
  have hj20 := hj.len
  have hlen := slsC_len (b := 1) (j := j)
  have hC : HasC (⟨33, .own 27, [C.i 0]⟩ :: ⟨32, .own 22, [C.nil]⟩ :: ⟨0, .ro 1, slsC 1 j⟩ :: entC 1 j) j := ⟨rfl, fun k hk => by (repeat rw [find_skip (by omega)]); exact entC_find hk⟩
  cases hv : validL j with
  | false =>
    have e : turnE j = 60 := by simp [turnE, hv]
    simp only [turnR, e]
    refine Spec.of tok Try.func42 rfl rfl rfl fun n0 cx => vc_ok tok ?_
    repeat ((conv => whnf); first | (refine And.intro (by first | omega | exact Nat.le_of_ble_eq_true rfl | (dsimp only [inK]; omega) | (simp only [mulS_eq]; omega) | (simp only [mulS_eq, setL_length]; omega) | (simp only [setL_length, List.length_map]; omega) | exact ⟨by omega, by omega, by first | exact Nat.le_of_ble_eq_true rfl | (dsimp only; omega) | (simp only [setL_length]; omega) | (simp only [setL_length, List.length_map]; omega)⟩ | exact ⟨by omega, by first | rfl | omega, by omega, Nat.le_of_ble_eq_true rfl, Nat.le_of_ble_eq_true rfl⟩ | exact ⟨rfl, rfl, rfl, Nat.le_of_ble_eq_true rfl, by first | rfl | omega | exact Nat.le_of_ble_eq_true rfl | (dsimp only; omega) | (simp; done) | (simp; omega), by first | rfl | omega | exact Nat.le_of_ble_eq_true rfl | (dsimp only; omega) | (simp; done) | (simp; omega), by omega, Nat.le_of_ble_eq_true rfl⟩ | exact Eq.refl true) ?_) | (refine Exists.intro _ (And.intro rfl ?_)) | (refine And.intro (And.intro rfl (chk_rowI _ _ _ _)) ?_) | (refine br_t (by omega) ?_) | (refine br_f (by omega) ?_) | (refine bs_t (by omega) ?_) | (refine bs_f (by omega) ?_) | (refine fun (K' : K3) hK' => ?_) | (refine hK' _ _ _ ?_; clear hK' K') | (refine CallM.eq (by kernel_rfl) (open_spec j hj _ _ hC) ?_) | (refine draw_auto tok mixed (by kernel_rfl) ?_) | (rw [hv]) | (with_reducible refine updK_ent (by omega) ?_) | (refine bs_bt (Eq.refl true) ?_) | (refine bs_bf (Eq.refl false) ?_) | (refine br_bt (Eq.refl true) ?_) | (refine br_bf (Eq.refl false) ?_) | (refine CallK.m ?_) | (refine Two.l ?_) | (refine And.intro (And.intro rfl rfl) ?_))
    exact .inl ⟨rfl, rfl⟩
  | true =>
    have hc := validL_coast hj hv
    refine Spec.of tok Try.func42 rfl rfl rfl fun n0 cx => vc_ok tok ?_
    repeat ((conv => whnf); first | (refine And.intro (by first | omega | exact Nat.le_of_ble_eq_true rfl | (dsimp only [inK]; omega) | (simp only [mulS_eq]; omega) | (simp only [mulS_eq, setL_length]; omega) | (simp only [setL_length, List.length_map]; omega) | exact ⟨by omega, by omega, by first | exact Nat.le_of_ble_eq_true rfl | (dsimp only; omega) | (simp only [setL_length]; omega) | (simp only [setL_length, List.length_map]; omega)⟩ | exact ⟨by omega, by first | rfl | omega, by omega, Nat.le_of_ble_eq_true rfl, Nat.le_of_ble_eq_true rfl⟩ | exact ⟨rfl, rfl, rfl, Nat.le_of_ble_eq_true rfl, by first | rfl | omega | exact Nat.le_of_ble_eq_true rfl | (dsimp only; omega) | (simp; done) | (simp; omega), by first | rfl | omega | exact Nat.le_of_ble_eq_true rfl | (dsimp only; omega) | (simp; done) | (simp; omega), by omega, Nat.le_of_ble_eq_true rfl⟩ | exact Eq.refl true) ?_) | (refine Exists.intro _ (And.intro rfl ?_)) | (refine And.intro (And.intro rfl (chk_rowI _ _ _ _)) ?_) | (refine br_t (by omega) ?_) | (refine br_f (by omega) ?_) | (refine bs_t (by omega) ?_) | (refine bs_f (by omega) ?_) | (refine fun (K' : K3) hK' => ?_) | (refine hK' _ _ _ ?_; clear hK' K') | (refine CallM.eq (by kernel_rfl) (open_spec j hj _ _ hC) ?_) | (refine draw_auto tok mixed (by kernel_rfl) ?_) | (rw [hv]) | (with_reducible refine updK_ent (by omega) ?_) | (refine bs_bt (Eq.refl true) ?_) | (refine bs_bf (Eq.refl false) ?_) | (refine br_bt (Eq.refl true) ?_) | (refine br_bf (Eq.refl false) ?_) | (refine CallK.m ?_) | (refine Two.l ?_) | (refine And.intro (And.intro rfl rfl) ?_))
    refine Tri.loop (γ := Nat) (fun b => b ≤ j.length ∧ ∀ c, c < b → ∀ i, i < (j.getD c []).length → (jobA j c i).2 ≠ 0) (fun b => [(2, V.c (.ptr 32 0)), (3, V.c (.ptr 33 0)), (4, V.c (.sl 0 j.length)), (6, V.c (.ptr 35 0)), (22, V.c (.sl 0 j.length)), (23, V.i j.length), (24, V.i (b : Nat))])
      (fun b => ⟨35, .own 22, [.sl 34 j.length]⟩ :: ⟨34, .vec 31 1, famS List.length 40 (turnL j b)⟩ :: ⟨33, .own 27, [C.i 0]⟩ :: ⟨32, .own 22, [C.nil]⟩ :: ⟨0, .ro 1, slsC 1 j⟩ :: (famE rowJ jobC 40 (turnL j b) ++ entC 1 j)) 60 (fun b => j.length - b) 0 (R0 := nones 40 j.length) ?_ ?_ ?_
    · exact ⟨by omega, by omega⟩
    · have hR : ∀ l, l < 40 → renL (nones 40 j.length) l = some l := fun l hl => renL_nones_out (by omega)
      rw [turnL_zero]
      have hrl : (List.replicate j.length ([] : List Job)).length = j.length := List.length_replicate
      refine ⟨?_, ?_, inj_none (p := [_, _, _, _, _]) (tail_fam (by omega) hj20) rfl (by simp), fix_nones (Nat.le_of_ble_eq_true rfl), by first | exact Nat.le_of_ble_eq_true rfl | omega⟩
      · repeat (first | exact trivial | refine And.intro (covS_syn (by first | rfl | exact (rsl (hR _ (Nat.le_of_ble_eq_true rfl))).symm | exact (rptr (hR _ (Nat.le_of_ble_eq_true rfl))).symm) rfl (by first | exact trivial | exact Nat.le_of_ble_eq_true rfl | exact hy)) ?_)
      · repeat (first | (exact covL_app (cov_nones rfl (by omega)) (cov_ent (fun k hk => hR _ (by omega)) (by omega) (fun k hk => by ((try (conv => lhs; arg 1; whnf)); (repeat (first | rw [find_skip (by omega)] | rw [find_hi (by omega) (by rfl)])); exact entC_find hk)))) | refine And.intro (covE_some (hR _ (Nat.le_of_ble_eq_true rfl)) (Nat.le_of_ble_eq_true rfl) (by first | exact wf_ints _ _ | exact wf_bools _ _ | first | first | exact wf_sls _ _ _ (by omega) | exact wf_jobs _ _ | exact wf_famS _ _ _ (by omega) | simp [C.wf]) rfl (by first | exact ren_ints _ _ | exact ren_sls_of (fun l hl => hR l (by omega)) (by omega) | exact ren_sl1 (hR _ (Nat.le_of_ble_eq_true rfl)) | (exact famS_nones rfl) | rfl)) ?_)
    · rintro b ⟨hb, hall⟩
      by_cases hlt : b < j.length
      · have hdl := turnL_len (j := j) (k := b)
        have hrow : (turnL j b).getD b [] = [] := by rw [turnL_get hlt, if_neg (by omega)]
        refine Tri.enter (R := [(39, some (b + 40))]) (nx' := 60) (s' := [(2, V.c (.ptr 32 0)), (3, V.c (.ptr 33 0)), (4, V.c (.sl 0 j.length)), (6, V.c (.ptr 35 0)), (22, V.c (.sl 0 j.length)), (23, V.i j.length), (24, V.i (b : Nat))])
          (L' := ⟨39, rowJ, jobC []⟩ :: ⟨35, .own 22, [.sl 34 j.length]⟩ :: ⟨34, .vec 31 1, (famS List.length 40 (turnL j b)).set b (.sl 39 0)⟩ :: ⟨33, .own 27, [C.i 0]⟩ :: ⟨32, .own 22, [C.nil]⟩ :: ⟨0, .ro 1, slsC 1 j⟩ :: (rmL (famE rowJ jobC 40 (turnL j b)) (b + 40) ++ entC 1 j)) ?_ ?_
        case refine_2 =>
          have hR : ∀ l, l < 39 → renL [(39, some (b + 40))] l = some l := fun l hl => renL_ne (by omega)
          have hwv : ∀ c ∈ (famS List.length 40 (turnL j b)).set b (.sl 39 0), c.wf 60 := by
            intro c hc
            rcases List.mem_or_eq_of_mem_set hc with hc | rfl
            · exact wf_famS _ _ _ (by omega) c hc
            · show 39 < 60; omega
          have hfv := famS_view (ln := List.length) (b := 40) (v := 39) (k := b) (d := []) (fun i => by omega) (show b < (turnL j b).length by omega)
          rw [hrow] at hfv
          have htr := tail_row (kd := rowJ) (cs := jobC) (l := turnL j b) (d := []) (j := j) (i := b) (by omega)
          rw [hrow] at htr
          refine ⟨?_, ?_, inj_view (p := [_, _, _, _, _, _]) (by omega) hj20 (by omega) rfl (by simp), rfl, by first | exact Nat.le_of_ble_eq_true rfl | omega⟩
          · repeat (first | exact trivial | refine And.intro (covS_syn (by first | rfl | exact (rsl (hR _ (Nat.le_of_ble_eq_true rfl))).symm | exact (rptr (hR _ (Nat.le_of_ble_eq_true rfl))).symm) rfl (by first | exact trivial | exact Nat.le_of_ble_eq_true rfl | exact hy)) ?_)
          · repeat (first | (exact covL_app (cov_rm (d := []) plain_jobs (by omega) (fun i hi _ => renL_ne (by omega)) (fun i hi => by (repeat rw [find_skip (by omega)]); exact tail_row hi)) (cov_ent (fun k hk => renL_ne (by omega)) (by omega) (fun k hk => by (repeat rw [find_skip (by omega)]); exact tail_be hk hj20))) | (refine And.intro (covE_some (l := b + 40) rfl (Nat.le_of_ble_eq_true rfl) (wf_jobs _ _) (by (repeat rw [find_skip (by omega)]); exact htr) (ren_jobs _ _)) ?_) | (refine And.intro (covE_some (hR _ (Nat.le_of_ble_eq_true rfl)) (Nat.le_of_ble_eq_true rfl) hwv rfl hfv) ?_) | refine And.intro (covE_some (hR _ (Nat.le_of_ble_eq_true rfl)) (Nat.le_of_ble_eq_true rfl) (by first | exact wf_ints _ _ | exact wf_bools _ _ | first | first | exact wf_sls _ _ _ (by omega) | exact wf_jobs _ _ | exact wf_famS _ _ _ (by omega) | simp [C.wf]) rfl (by first | exact ren_ints _ _ | exact ren_sls_of (fun l hl => hR l (by omega)) (by omega) | exact ren_sl1 (hR _ (Nat.le_of_ble_eq_true rfl)) | (fail) | rfl)) ?_)
        refine vc_ok tok ?_
        have hT := tail_rm (kd := rowJ) (cs := jobC) (l := turnL j b) (j := j) (x := b + 40) (by omega) hj20
        have hjl := jobC_len (j.getD b [])
        have hjb := hc.jobs b hlt
        repeat ((conv => whnf); first | (refine And.intro (by first | omega | exact Nat.le_of_ble_eq_true rfl | (dsimp only [inK]; omega) | (simp only [mulS_eq]; omega) | (simp only [mulS_eq, setL_length]; omega) | (simp only [setL_length, List.length_map]; omega) | exact ⟨by omega, by omega, by first | exact Nat.le_of_ble_eq_true rfl | (dsimp only; omega) | (simp only [setL_length]; omega) | (simp only [setL_length, List.length_map]; omega)⟩ | exact ⟨by omega, by first | rfl | omega, by omega, Nat.le_of_ble_eq_true rfl, Nat.le_of_ble_eq_true rfl⟩ | exact ⟨rfl, rfl, rfl, Nat.le_of_ble_eq_true rfl, by first | rfl | omega | exact Nat.le_of_ble_eq_true rfl | (dsimp only; omega) | (simp; done) | (simp; omega), by first | rfl | omega | exact Nat.le_of_ble_eq_true rfl | (dsimp only; omega) | (simp; done) | (simp; omega), by omega, Nat.le_of_ble_eq_true rfl⟩ | exact Eq.refl true) ?_) | (with_reducible refine ld (slL hlt) ?_) | (refine Exists.intro _ (And.intro rfl ?_)) | (refine And.intro (And.intro rfl (chk_rowI _ _ _ _)) ?_) | (refine br_t (by omega) ?_) | (refine br_f (by omega) ?_) | (refine bs_t (by omega) ?_) | (refine bs_f (by omega) ?_) | (refine fun (K' : K3) hK' => ?_) | (refine hK' _ _ _ ?_; clear hK' K') | (refine CallM.eq (by kernel_rfl) (backJ_spec _ _ _ _) ?_) | (refine draw_auto tok mixed (by kernel_rfl) ?_) | (with_reducible refine updK_tail hT rfl ?_) | (refine bs_bt (Eq.refl true) ?_) | (refine bs_bf (Eq.refl false) ?_) | (refine br_bt (Eq.refl true) ?_) | (refine br_bf (Eq.refl false) ?_) | (refine CallK.m ?_) | (refine Two.l ?_) | (refine And.intro (And.intro rfl rfl) ?_))
        refine Tri.rangeFunc tok (by exact rfl) (by kernel_rfl) (by exact rfl) (by exact rfl) (by exact rfl) (by exact rfl) (by exact rfl) (by exact rfl) ?_
        intro y cxi oo ob od hy hY
        refine vc_ok tok ?_
        repeat ((conv => whnf); first | (refine And.intro (by first | omega | exact Nat.le_of_ble_eq_true rfl | (dsimp only [inK]; omega) | (simp only [mulS_eq]; omega) | (simp only [mulS_eq, setL_length]; omega) | (simp only [setL_length, List.length_map]; omega) | exact ⟨by omega, by omega, by first | exact Nat.le_of_ble_eq_true rfl | (dsimp only; omega) | (simp only [setL_length]; omega) | (simp only [setL_length, List.length_map]; omega)⟩ | exact ⟨by omega, by first | rfl | omega, by omega, Nat.le_of_ble_eq_true rfl, Nat.le_of_ble_eq_true rfl⟩ | exact ⟨rfl, rfl, rfl, Nat.le_of_ble_eq_true rfl, by first | rfl | omega | exact Nat.le_of_ble_eq_true rfl | (dsimp only; omega) | (simp; done) | (simp; omega), by first | rfl | omega | exact Nat.le_of_ble_eq_true rfl | (dsimp only; omega) | (simp; done) | (simp; omega), by omega, Nat.le_of_ble_eq_true rfl⟩ | exact Eq.refl true) ?_) | (refine Exists.intro _ (And.intro rfl ?_)) | (refine And.intro (And.intro rfl (chk_rowI _ _ _ _)) ?_) | (refine br_t (by omega) ?_) | (refine br_f (by omega) ?_) | (refine bs_t (by omega) ?_) | (refine bs_f (by omega) ?_) | (refine fun (K' : K3) hK' => ?_) | (refine hK' _ _ _ ?_; clear hK' K') | (refine draw_auto tok mixed (by kernel_rfl) ?_) | (with_reducible refine updK_tail hT rfl ?_) | (refine bs_bt (Eq.refl true) ?_) | (refine bs_bf (Eq.refl false) ?_) | (refine br_bt (Eq.refl true) ?_) | (refine br_bf (Eq.refl false) ?_) | (refine CallK.m ?_) | (refine Two.l ?_) | (refine And.intro (And.intro rfl rfl) ?_))
        have hPl := pl_rm (kd := rowJ) (l := turnL j b) (j := j) (x := b + 40) ([] : List Job) plain_jobs
        have hfl : ∀ q, ((famS List.length 40 (turnL j b)).set b (.sl q 0)).length = j.length := fun q => by simp [hdl]
        refine Tri.loop (γ := Nat) (fun m => m ≤ (j.getD b []).length ∧ ∀ i, i < m → (jobA j b ((j.getD b []).length - 1 - i)).2 ≠ 0) (fun m => [(0, V.c (.v y)), (1, V.c (.ptr 61 0)), (3, V.i (((j.getD b []).length : Int) - 1 - m))])
          (fun m => ⟨63, rowJ, jobC (tpart (j.getD b []) m)⟩ :: ⟨62, .obj oo, []⟩ :: ⟨61, .own 31, [.sl (1 + b) (j.getD b []).length]⟩ :: ⟨60, .own 3, [C.i (b : Nat)]⟩ :: ⟨35, .own 22, [.sl 34 j.length]⟩ :: ⟨34, .vec 31 1, (famS List.length 40 (turnL j b)).set b (.sl 63 m)⟩ :: ⟨33, .own 27, [C.i 0]⟩ :: ⟨32, .own 22, [C.nil]⟩ :: ⟨0, .ro 1, slsC 1 j⟩ :: (rmL (famE rowJ jobC 40 (turnL j b)) (b + 40) ++ entC 1 j)) 64 (fun m => (j.getD b []).length - m) 0 (R0 := [(63, some 39)]) ?_ ?_ ?_
        · exact ⟨by omega, by omega⟩
        · have hR : ∀ l, l < 63 → renL [(63, some 39)] l = some l := fun l hl => renL_ne (by omega)
          have hwv : ∀ c ∈ (famS List.length 40 (turnL j b)).set b (.sl 63 0), c.wf 64 := by
            intro c hc
            rcases List.mem_or_eq_of_mem_set hc with hc | rfl
            · exact wf_famS _ _ _ (by omega) c hc
            · show 63 < 64; omega
          refine ⟨?_, ?_, inj_end (p := [_, _, _, _, _, _, _, _, _]) hT rfl (by simp) rfl (by simp), rfl, by first | exact Nat.le_of_ble_eq_true rfl | omega⟩
          · repeat (first | exact trivial | refine And.intro (covS_syn (by first | rfl | exact (rsl (hR _ (Nat.le_of_ble_eq_true rfl))).symm | exact (rptr (hR _ (Nat.le_of_ble_eq_true rfl))).symm | (refine congrArg some (congrArg V.i ?_); omega)) rfl (by first | exact trivial | exact Nat.le_of_ble_eq_true rfl | exact hy)) ?_)
          · repeat (first | (exact covL_tail hT hPl (fun l hl => hR l (by omega)) (by omega) (fun e he => by have := hT.lab e he; (repeat rw [find_skip (by omega)]))) | (refine And.intro (covE_some (l := 39) rfl (Nat.le_of_ble_eq_true rfl) (wf_jobs _ _) rfl (ren_jobs _ _)) ?_) | (refine And.intro (covE_some (hR _ (Nat.le_of_ble_eq_true rfl)) (Nat.le_of_ble_eq_true rfl) hwv rfl (famS_re (by omega) (by omega))) ?_) | (refine And.intro (covE_some (hR _ (Nat.le_of_ble_eq_true rfl)) (Nat.le_of_ble_eq_true rfl) (by intro c hc; simp only [List.mem_singleton] at hc; subst hc; show 1 + b < 64; omega) rfl (ren_sl1 (hR _ (by omega)))) ?_) | refine And.intro (covE_some (hR _ (Nat.le_of_ble_eq_true rfl)) (Nat.le_of_ble_eq_true rfl) (by first | exact wf_ints _ _ | exact wf_bools _ _ | first | first | exact wf_sls _ _ _ (by omega) | exact wf_jobs _ _ | exact wf_famS _ _ _ (by omega) | simp [C.wf]) rfl (by first | exact ren_ints _ _ | exact ren_sls_of (fun l hl => hR l (by omega)) (by omega) | exact ren_sl1 (hR _ (Nat.le_of_ble_eq_true rfl)) | (exact ren_sl1 (hR _ (by omega))) | rfl)) ?_)
        · rintro m ⟨hm, hnz⟩
          refine vc_ok tok ?_
          have hpm := tpart_len hm
          have hplen : (jobC (tpart (j.getD b []) m)).length = 2 * m := by rw [jobC_len, hpm]
          have hfm : ((famS List.length 40 (turnL j b)).set b (.sl 63 m)).length = j.length := by simp [hdl]
          by_cases hmt : m < (j.getD b []).length
          · have hk : (j.getD b []).length - 1 - m < (j.getD b []).length := by omega
            by_cases hz0 : ((j.getD b []).getD ((j.getD b []).length - 1 - m) (0, 0)).2 = 0
            · repeat ((conv => whnf); first | (refine And.intro (by first | omega | exact Nat.le_of_ble_eq_true rfl | (dsimp only [inK]; omega) | (simp only [mulS_eq]; omega) | (simp only [mulS_eq, setL_length]; omega) | (simp only [setL_length, List.length_map]; omega) | exact ⟨by omega, by omega, by first | exact Nat.le_of_ble_eq_true rfl | (dsimp only; omega) | (simp only [setL_length]; omega) | (simp only [setL_length, List.length_map]; omega)⟩ | exact ⟨by omega, by first | rfl | omega, by omega, Nat.le_of_ble_eq_true rfl, Nat.le_of_ble_eq_true rfl⟩ | exact ⟨rfl, rfl, rfl, Nat.le_of_ble_eq_true rfl, by first | rfl | omega | exact Nat.le_of_ble_eq_true rfl | (dsimp only; omega) | (simp; done) | (simp; omega), by first | rfl | omega | exact Nat.le_of_ble_eq_true rfl | (dsimp only; omega) | (simp; done) | (simp; omega), by omega, Nat.le_of_ble_eq_true rfl⟩ | exact Eq.refl true) ?_) | (with_reducible refine ld (jobT (k := (j.getD b []).length - 1 - m) (by omega) hk) ?_) | (refine Exists.intro _ (And.intro rfl ?_)) | (refine And.intro (And.intro rfl (chk_rowI _ _ _ _)) ?_) | (refine br_t (by omega) ?_) | (refine br_f (by omega) ?_) | (refine bs_t (by omega) ?_) | (refine bs_f (by omega) ?_) | (refine fun (K' : K3) hK' => ?_) | (refine hK' _ _ _ ?_; clear hK' K') | (refine draw_auto tok mixed (by kernel_rfl) ?_) | (refine onV_ld (c := ⟨1 + b, .ro 2, jobC (j.getD b [])⟩) (by (try (conv => lhs; arg 1; whnf)); (repeat (first | rw [find_skip (by omega)] | rw [find_hi (by omega) (by rfl)])); exact tail_rm_be hlt hj20) ?_) | (with_reducible refine updK_tail hT rfl ?_) | (with_reducible refine rmK_tail hT rfl ?_) | (with_reducible refine visC_tail hT rfl ?_) | (with_reducible refine relC_tail hT rfl ?_) | (with_reducible refine updO_tail hT rfl ?_) | (refine bs_bt (Eq.refl true) ?_) | (refine bs_bf (Eq.refl false) ?_) | (refine br_bt (Eq.refl true) ?_) | (refine br_bf (Eq.refl false) ?_) | (refine CallK.m ?_) | (refine Two.l ?_) | (refine And.intro (And.intro rfl rfl) ?_))
              refine hY _ _ _ _ (Nat.le_of_ble_eq_true rfl) rfl ⟨rfl, trivial⟩ ?_
              intro cxb hcx
              refine vc_ok tok ?_
              repeat ((conv => whnf); first | (refine And.intro (by first | omega | exact Nat.le_of_ble_eq_true rfl | (dsimp only [inK]; omega) | (simp only [mulS_eq]; omega) | (simp only [mulS_eq, setL_length]; omega) | (simp only [setL_length, List.length_map]; omega) | exact ⟨by omega, by omega, by first | exact Nat.le_of_ble_eq_true rfl | (dsimp only; omega) | (simp only [setL_length]; omega) | (simp only [setL_length, List.length_map]; omega)⟩ | exact ⟨by omega, by first | rfl | omega, by omega, Nat.le_of_ble_eq_true rfl, Nat.le_of_ble_eq_true rfl⟩ | exact ⟨rfl, rfl, rfl, Nat.le_of_ble_eq_true rfl, by first | rfl | omega | exact Nat.le_of_ble_eq_true rfl | (dsimp only; omega) | (simp; done) | (simp; omega), by first | rfl | omega | exact Nat.le_of_ble_eq_true rfl | (dsimp only; omega) | (simp; done) | (simp; omega), by omega, Nat.le_of_ble_eq_true rfl⟩ | exact Eq.refl true) ?_) | (refine Exists.intro _ (And.intro rfl ?_)) | (refine And.intro (And.intro rfl (chk_rowI _ _ _ _)) ?_) | (refine br_t (by omega) ?_) | (refine br_f (by omega) ?_) | (refine bs_t (by omega) ?_) | (refine bs_f (by omega) ?_) | (refine fun (K' : K3) hK' => ?_) | (refine hK' _ _ _ ?_; clear hK' K') | (refine draw_auto tok mixed (by kernel_rfl) ?_) | (with_reducible refine updK_tail hT rfl ?_) | (with_reducible refine rmK_tail hT rfl ?_) | (with_reducible refine visC_tail hT rfl ?_) | (with_reducible refine relC_tail hT rfl ?_) | (with_reducible refine updO_tail hT rfl ?_) | (refine And.intro (Eq.refl oo) ?_) | (refine bs_bt (Eq.refl true) ?_) | (refine bs_bf (Eq.refl false) ?_) | (refine br_bt (Eq.refl true) ?_) | (refine br_bf (Eq.refl false) ?_) | (refine CallK.m ?_) | (refine Two.l ?_) | (refine And.intro (And.intro rfl rfl) ?_))
              refine vc_ok tok ?_
              repeat ((conv => whnf); first | (refine And.intro (by first | omega | exact Nat.le_of_ble_eq_true rfl | (dsimp only [inK]; omega) | (simp only [mulS_eq]; omega) | (simp only [mulS_eq, setL_length]; omega) | (simp only [setL_length, List.length_map]; omega) | exact ⟨by omega, by omega, by first | exact Nat.le_of_ble_eq_true rfl | (dsimp only; omega) | (simp only [setL_length]; omega) | (simp only [setL_length, List.length_map]; omega)⟩ | exact ⟨by omega, by first | rfl | omega, by omega, Nat.le_of_ble_eq_true rfl, Nat.le_of_ble_eq_true rfl⟩ | exact ⟨rfl, rfl, rfl, Nat.le_of_ble_eq_true rfl, by first | rfl | omega | exact Nat.le_of_ble_eq_true rfl | (dsimp only; omega) | (simp; done) | (simp; omega), by first | rfl | omega | exact Nat.le_of_ble_eq_true rfl | (dsimp only; omega) | (simp; done) | (simp; omega), by omega, Nat.le_of_ble_eq_true rfl⟩ | exact Eq.refl true) ?_) | (refine Exists.intro _ (And.intro rfl ?_)) | (refine And.intro (And.intro rfl (chk_rowI _ _ _ _)) ?_) | (refine br_t (by omega) ?_) | (refine br_f (by omega) ?_) | (refine bs_t (by omega) ?_) | (refine bs_f (by omega) ?_) | (refine fun (K' : K3) hK' => ?_) | (refine hK' _ _ _ ?_; clear hK' K') | (refine draw_auto tok mixed (by kernel_rfl) ?_) | (refine br_t hz0 ?_) | (with_reducible refine updK_tail hT rfl ?_) | (with_reducible refine rmK_tail hT rfl ?_) | (with_reducible refine visC_tail hT rfl ?_) | (with_reducible refine relC_tail hT rfl ?_) | (with_reducible refine updO_tail hT rfl ?_) | (refine And.intro (Eq.refl ob) ?_) | (refine bs_bt (Eq.refl true) ?_) | (refine bs_bf (Eq.refl false) ?_) | (refine br_bt (Eq.refl true) ?_) | (refine br_bf (Eq.refl false) ?_) | (refine CallK.m ?_) | (refine Two.l ?_) | (refine And.intro (And.intro rfl rfl) ?_))
              refine Or.inr (Or.inl ?_)
              repeat ((conv => whnf); first | (refine And.intro (by first | omega | exact Nat.le_of_ble_eq_true rfl | (dsimp only [inK]; omega) | (simp only [mulS_eq]; omega) | (simp only [mulS_eq, setL_length]; omega) | (simp only [setL_length, List.length_map]; omega) | exact ⟨by omega, by omega, by first | exact Nat.le_of_ble_eq_true rfl | (dsimp only; omega) | (simp only [setL_length]; omega) | (simp only [setL_length, List.length_map]; omega)⟩ | exact ⟨by omega, by first | rfl | omega, by omega, Nat.le_of_ble_eq_true rfl, Nat.le_of_ble_eq_true rfl⟩ | exact ⟨rfl, rfl, rfl, Nat.le_of_ble_eq_true rfl, by first | rfl | omega | exact Nat.le_of_ble_eq_true rfl | (dsimp only; omega) | (simp; done) | (simp; omega), by first | rfl | omega | exact Nat.le_of_ble_eq_true rfl | (dsimp only; omega) | (simp; done) | (simp; omega), by omega, Nat.le_of_ble_eq_true rfl⟩ | exact Eq.refl true) ?_) | (refine Exists.intro _ (And.intro rfl ?_)) | (refine And.intro (And.intro rfl (chk_rowI _ _ _ _)) ?_) | (refine br_t (by omega) ?_) | (refine br_f (by omega) ?_) | (refine bs_t (by omega) ?_) | (refine bs_f (by omega) ?_) | (refine fun (K' : K3) hK' => ?_) | (refine hK' _ _ _ ?_; clear hK' K') | (refine draw_auto tok mixed (by kernel_rfl) ?_) | (refine And.intro (Eq.refl (od Code.ret)) ?_) | (with_reducible refine rmK_tail hT rfl ?_) | (refine bs_bt (Eq.refl true) ?_) | (refine bs_bf (Eq.refl false) ?_) | (refine br_bt (Eq.refl true) ?_) | (refine br_bf (Eq.refl false) ?_) | (refine CallK.m ?_) | (refine Two.l ?_) | (refine And.intro (And.intro rfl rfl) ?_))
              have e5 : turnE j = 5 := by simp [turnE, hv, harmful_no hlt hk hz0]
              simp only [turnR, e5]
              exact ⟨_, rfl, .inl ⟨rfl, rfl⟩⟩
            · repeat ((conv => whnf); first | (refine And.intro (by first | omega | exact Nat.le_of_ble_eq_true rfl | (dsimp only [inK]; omega) | (simp only [mulS_eq]; omega) | (simp only [mulS_eq, setL_length]; omega) | (simp only [setL_length, List.length_map]; omega) | exact ⟨by omega, by omega, by first | exact Nat.le_of_ble_eq_true rfl | (dsimp only; omega) | (simp only [setL_length]; omega) | (simp only [setL_length, List.length_map]; omega)⟩ | exact ⟨by omega, by first | rfl | omega, by omega, Nat.le_of_ble_eq_true rfl, Nat.le_of_ble_eq_true rfl⟩ | exact ⟨rfl, rfl, rfl, Nat.le_of_ble_eq_true rfl, by first | rfl | omega | exact Nat.le_of_ble_eq_true rfl | (dsimp only; omega) | (simp; done) | (simp; omega), by first | rfl | omega | exact Nat.le_of_ble_eq_true rfl | (dsimp only; omega) | (simp; done) | (simp; omega), by omega, Nat.le_of_ble_eq_true rfl⟩ | exact Eq.refl true) ?_) | (with_reducible refine ld (jobT (k := (j.getD b []).length - 1 - m) (by omega) hk) ?_) | (refine Exists.intro _ (And.intro rfl ?_)) | (refine And.intro (And.intro rfl (chk_rowI _ _ _ _)) ?_) | (refine br_t (by omega) ?_) | (refine br_f (by omega) ?_) | (refine bs_t (by omega) ?_) | (refine bs_f (by omega) ?_) | (refine fun (K' : K3) hK' => ?_) | (refine hK' _ _ _ ?_; clear hK' K') | (refine draw_auto tok mixed (by kernel_rfl) ?_) | (refine onV_ld (c := ⟨1 + b, .ro 2, jobC (j.getD b [])⟩) (by (try (conv => lhs; arg 1; whnf)); (repeat (first | rw [find_skip (by omega)] | rw [find_hi (by omega) (by rfl)])); exact tail_rm_be hlt hj20) ?_) | (with_reducible refine updK_tail hT rfl ?_) | (with_reducible refine rmK_tail hT rfl ?_) | (with_reducible refine visC_tail hT rfl ?_) | (with_reducible refine relC_tail hT rfl ?_) | (with_reducible refine updO_tail hT rfl ?_) | (refine bs_bt (Eq.refl true) ?_) | (refine bs_bf (Eq.refl false) ?_) | (refine br_bt (Eq.refl true) ?_) | (refine br_bf (Eq.refl false) ?_) | (refine CallK.m ?_) | (refine Two.l ?_) | (refine And.intro (And.intro rfl rfl) ?_))
              refine hY _ _ _ _ (Nat.le_of_ble_eq_true rfl) rfl ⟨rfl, trivial⟩ ?_
              intro cxb hcx
              refine vc_ok tok ?_
              repeat ((conv => whnf); first | (refine And.intro (by first | omega | exact Nat.le_of_ble_eq_true rfl | (dsimp only [inK]; omega) | (simp only [mulS_eq]; omega) | (simp only [mulS_eq, setL_length]; omega) | (simp only [setL_length, List.length_map]; omega) | exact ⟨by omega, by omega, by first | exact Nat.le_of_ble_eq_true rfl | (dsimp only; omega) | (simp only [setL_length]; omega) | (simp only [setL_length, List.length_map]; omega)⟩ | exact ⟨by omega, by first | rfl | omega, by omega, Nat.le_of_ble_eq_true rfl, Nat.le_of_ble_eq_true rfl⟩ | exact ⟨rfl, rfl, rfl, Nat.le_of_ble_eq_true rfl, by first | rfl | omega | exact Nat.le_of_ble_eq_true rfl | (dsimp only; omega) | (simp; done) | (simp; omega), by first | rfl | omega | exact Nat.le_of_ble_eq_true rfl | (dsimp only; omega) | (simp; done) | (simp; omega), by omega, Nat.le_of_ble_eq_true rfl⟩ | exact Eq.refl true) ?_) | (refine Exists.intro _ (And.intro rfl ?_)) | (refine And.intro (And.intro rfl (chk_rowI _ _ _ _)) ?_) | (refine br_t (by omega) ?_) | (refine br_f (by omega) ?_) | (refine bs_t (by omega) ?_) | (refine bs_f (by omega) ?_) | (refine fun (K' : K3) hK' => ?_) | (refine hK' _ _ _ ?_; clear hK' K') | (refine draw_auto tok mixed (by kernel_rfl) ?_) | (with_reducible refine updK_tail hT rfl ?_) | (with_reducible refine rmK_tail hT rfl ?_) | (with_reducible refine visC_tail hT rfl ?_) | (with_reducible refine relC_tail hT rfl ?_) | (with_reducible refine updO_tail hT rfl ?_) | (refine And.intro (Eq.refl oo) ?_) | (refine bs_bt (Eq.refl true) ?_) | (refine bs_bf (Eq.refl false) ?_) | (refine br_bt (Eq.refl true) ?_) | (refine br_bf (Eq.refl false) ?_) | (refine CallK.m ?_) | (refine Two.l ?_) | (refine And.intro (And.intro rfl rfl) ?_))
              refine vc_ok tok ?_
              repeat ((conv => whnf); first | (refine And.intro (by first | omega | exact Nat.le_of_ble_eq_true rfl | (dsimp only [inK]; omega) | (simp only [mulS_eq]; omega) | (simp only [mulS_eq, setL_length]; omega) | (simp only [setL_length, List.length_map]; omega) | exact ⟨by omega, by omega, by first | exact Nat.le_of_ble_eq_true rfl | (dsimp only; omega) | (simp only [setL_length]; omega) | (simp only [setL_length, List.length_map]; omega)⟩ | exact ⟨by omega, by first | rfl | omega, by omega, Nat.le_of_ble_eq_true rfl, Nat.le_of_ble_eq_true rfl⟩ | exact ⟨rfl, rfl, rfl, Nat.le_of_ble_eq_true rfl, by first | rfl | omega | exact Nat.le_of_ble_eq_true rfl | (dsimp only; omega) | (simp; done) | (simp; omega), by first | rfl | omega | exact Nat.le_of_ble_eq_true rfl | (dsimp only; omega) | (simp; done) | (simp; omega), by omega, Nat.le_of_ble_eq_true rfl⟩ | exact Eq.refl true) ?_) | (with_reducible refine ld (famV rfl (show b < (turnL j b).length by omega)) ?_) | (refine Exists.intro _ (And.intro rfl ?_)) | (refine And.intro (And.intro rfl (chk_rowI _ _ _ _)) ?_) | (refine br_t (by omega) ?_) | (refine br_f (by omega) ?_) | (refine bs_t (by omega) ?_) | (refine bs_f (by omega) ?_) | (refine fun (K' : K3) hK' => ?_) | (refine hK' _ _ _ ?_; clear hK' K') | (refine draw_kill [63] tok mixed (by decide +kernel) ?_) | (refine draw_auto tok mixed (by kernel_rfl) ?_) | (refine br_f hz0 ?_) | (with_reducible refine updK_tail hT rfl ?_) | (with_reducible refine rmK_tail hT rfl ?_) | (with_reducible refine visC_tail hT rfl ?_) | (with_reducible refine relC_tail hT rfl ?_) | (with_reducible refine updO_tail hT rfl ?_) | (refine And.intro (Eq.refl ob) ?_) | (refine And.intro (And.intro rfl (chk_rowJ _ _ _ _ _ _)) ?_) | (refine bs_bt (Eq.refl true) ?_) | (refine bs_bf (Eq.refl false) ?_) | (refine br_bt (Eq.refl true) ?_) | (refine br_bf (Eq.refl false) ?_) | (refine CallK.m ?_) | (refine Two.l ?_) | (refine And.intro (And.intro rfl rfl) ?_))
              have hrw : jobC (tpart (j.getD b []) m) ++ [C.i ((j.getD b []).getD ((j.getD b []).length - 1 - m) (0, 0)).2, C.i ((j.getD b []).getD ((j.getD b []).length - 1 - m) (0, 0)).1] = jobC (tpart (j.getD b []) (m + 1)) := by rw [tpart_succ hmt, jobC_app]; rfl
              have hst : setL ((famS List.length 40 (turnL j b)).set b (.sl 63 m)) (mulS ((b : Nat) : Int).toNat 1) [.sl 66 (m + 1)] = (famS List.length 40 (turnL j b)).set b (.sl 66 (m + 1)) := by
                rw [mulS_eq]; simp only [setL, Int.toNat_natCast, Nat.mul_one, List.set_set]
              have hwv : ∀ c ∈ (famS List.length 40 (turnL j b)).set b (.sl 63 (m + 1)), c.wf 64 := by
                intro c hc
                rcases List.mem_or_eq_of_mem_set hc with hc | rfl
                · exact wf_famS _ _ _ (by omega) c hc
                · show 63 < 64; omega
              refine ⟨m + 1, [(63, some 66)], ⟨by omega, fun i hi => ?_⟩, by omega, ?_⟩
              · by_cases him : i = m
                · subst him; exact hz0
                · exact hnz i (by omega)
              have hR : ∀ l, l < 63 → renL [(63, some 66)] l = some l := fun l hl => renL_ne (by omega)
              refine ⟨?_, ?_, inj_end (p := [_, _, _, _, _, _, _, _, _]) hT rfl (by simp) rfl (by simp), rfl, by first | exact Nat.le_of_ble_eq_true rfl | omega⟩
              · repeat (first | exact trivial | refine And.intro (covS_syn (by first | rfl | exact (rsl (hR _ (Nat.le_of_ble_eq_true rfl))).symm | exact (rptr (hR _ (Nat.le_of_ble_eq_true rfl))).symm | (refine congrArg some (congrArg V.i ?_); omega)) rfl (by first | exact trivial | exact Nat.le_of_ble_eq_true rfl | exact hy)) ?_)
              · repeat (first | (exact covL_tail hT hPl (fun l hl => hR l (by omega)) (by omega) (fun e he => by have := hT.lab e he; (repeat rw [find_skip (by omega)]))) | (refine And.intro (covE_some (l := 66) rfl (Nat.le_of_ble_eq_true rfl) (wf_jobs _ _) (congrArg (fun c => some (E.mk 66 (.vec 47 2) c)) hrw) (ren_jobs _ _)) ?_) | (refine And.intro (covE_some (hR _ (Nat.le_of_ble_eq_true rfl)) (Nat.le_of_ble_eq_true rfl) hwv rfl ((famS_re (by omega) (by omega)).trans (congrArg some hst.symm))) ?_) | (refine And.intro (covE_some (hR _ (Nat.le_of_ble_eq_true rfl)) (Nat.le_of_ble_eq_true rfl) (by intro c hc; simp only [List.mem_singleton] at hc; subst hc; show 1 + b < 64; omega) rfl (ren_sl1 (hR _ (by omega)))) ?_) | refine And.intro (covE_some (hR _ (Nat.le_of_ble_eq_true rfl)) (Nat.le_of_ble_eq_true rfl) (by first | exact wf_ints _ _ | exact wf_bools _ _ | first | first | exact wf_sls _ _ _ (by omega) | exact wf_jobs _ _ | exact wf_famS _ _ _ (by omega) | simp [C.wf]) rfl (by first | exact ren_ints _ _ | exact ren_sls_of (fun l hl => hR l (by omega)) (by omega) | exact ren_sl1 (hR _ (Nat.le_of_ble_eq_true rfl)) | (exact ren_sl1 (hR _ (by omega))) | rfl)) ?_)
          · obtain rfl : m = (j.getD b []).length := by omega
            repeat ((conv => whnf); first | (refine And.intro (by first | omega | exact Nat.le_of_ble_eq_true rfl | (dsimp only [inK]; omega) | (simp only [mulS_eq]; omega) | (simp only [mulS_eq, setL_length]; omega) | (simp only [setL_length, List.length_map]; omega) | exact ⟨by omega, by omega, by first | exact Nat.le_of_ble_eq_true rfl | (dsimp only; omega) | (simp only [setL_length]; omega) | (simp only [setL_length, List.length_map]; omega)⟩ | exact ⟨by omega, by first | rfl | omega, by omega, Nat.le_of_ble_eq_true rfl, Nat.le_of_ble_eq_true rfl⟩ | exact ⟨rfl, rfl, rfl, Nat.le_of_ble_eq_true rfl, by first | rfl | omega | exact Nat.le_of_ble_eq_true rfl | (dsimp only; omega) | (simp; done) | (simp; omega), by first | rfl | omega | exact Nat.le_of_ble_eq_true rfl | (dsimp only; omega) | (simp; done) | (simp; omega), by omega, Nat.le_of_ble_eq_true rfl⟩ | exact Eq.refl true) ?_) | (refine Exists.intro _ (And.intro rfl ?_)) | (refine And.intro (And.intro rfl (chk_rowI _ _ _ _)) ?_) | (refine br_t (by omega) ?_) | (refine br_f (by omega) ?_) | (refine bs_t (by omega) ?_) | (refine bs_f (by omega) ?_) | (refine fun (K' : K3) hK' => ?_) | (refine hK' _ _ _ ?_; clear hK' K') | (refine draw_auto tok mixed (by kernel_rfl) ?_) | (refine bs_bt (Eq.refl true) ?_) | (refine bs_bf (Eq.refl false) ?_) | (refine br_bt (Eq.refl true) ?_) | (refine br_bf (Eq.refl false) ?_) | (refine CallK.m ?_) | (refine Two.l ?_) | (refine And.intro (And.intro rfl rfl) ?_))
            refine Or.inl ?_
            repeat ((conv => whnf); first | (refine And.intro (by first | omega | exact Nat.le_of_ble_eq_true rfl | (dsimp only [inK]; omega) | (simp only [mulS_eq]; omega) | (simp only [mulS_eq, setL_length]; omega) | (simp only [setL_length, List.length_map]; omega) | exact ⟨by omega, by omega, by first | exact Nat.le_of_ble_eq_true rfl | (dsimp only; omega) | (simp only [setL_length]; omega) | (simp only [setL_length, List.length_map]; omega)⟩ | exact ⟨by omega, by first | rfl | omega, by omega, Nat.le_of_ble_eq_true rfl, Nat.le_of_ble_eq_true rfl⟩ | exact ⟨rfl, rfl, rfl, Nat.le_of_ble_eq_true rfl, by first | rfl | omega | exact Nat.le_of_ble_eq_true rfl | (dsimp only; omega) | (simp; done) | (simp; omega), by first | rfl | omega | exact Nat.le_of_ble_eq_true rfl | (dsimp only; omega) | (simp; done) | (simp; omega), by omega, Nat.le_of_ble_eq_true rfl⟩ | exact Eq.refl true) ?_) | (refine Exists.intro _ (And.intro rfl ?_)) | (refine And.intro (And.intro rfl (chk_rowI _ _ _ _)) ?_) | (refine br_t (by omega) ?_) | (refine br_f (by omega) ?_) | (refine bs_t (by omega) ?_) | (refine bs_f (by omega) ?_) | (refine fun (K' : K3) hK' => ?_) | (refine hK' _ _ _ ?_; clear hK' K') | (refine draw_auto tok mixed (by kernel_rfl) ?_) | (refine And.intro (Eq.refl oo) ?_) | (with_reducible refine updK_tail hT rfl ?_) | (with_reducible refine rmK_tail hT rfl ?_) | (with_reducible refine visC_tail hT rfl ?_) | (with_reducible refine relC_tail hT rfl ?_) | (with_reducible refine updO_tail hT rfl ?_) | (refine bs_bt (Eq.refl true) ?_) | (refine bs_bf (Eq.refl false) ?_) | (refine br_bt (Eq.refl true) ?_) | (refine br_bf (Eq.refl false) ?_) | (refine CallK.m ?_) | (refine Two.l ?_) | (refine And.intro (And.intro rfl rfl) ?_))
            have hfs := famS_set (ln := List.length) (b := 40) (y := 63) (k := b) (x := tpart (j.getD b []) (j.getD b []).length) (l := turnL j b) (by omega)
            rw [turnL_set hlt, hpm] at hfs
            have hdl1 := turnL_len (j := j) (k := b + 1)
            refine ⟨b + 1, [(b + 40, some 63)], ⟨by omega, fun c hc i hi => ?_⟩, by omega, ?_⟩
            · by_cases hcb : c = b
              · subst hcb
                have := hnz ((j.getD c []).length - 1 - i) (by omega)
                rw [show (j.getD c []).length - 1 - ((j.getD c []).length - 1 - i) = i by omega] at this
                exact this
              · exact hall c (by omega) i hi
            have hR : ∀ l, l < 40 → renL [(b + 40, some 63)] l = some l := fun l hl => renL_ne (by omega)
            refine ⟨?_, ?_, inj_end (p := [_, _, _, _, _]) (tail_fam (by omega) hj20) rfl (by simp) rfl (by simp), (by first | rfl | (simp [fixB, Nat.ble_eq]; omega)), by first | exact Nat.le_of_ble_eq_true rfl | omega⟩
            · repeat (first | exact trivial | refine And.intro (covS_syn (by first | rfl | exact (rsl (hR _ (Nat.le_of_ble_eq_true rfl))).symm | exact (rptr (hR _ (Nat.le_of_ble_eq_true rfl))).symm | (refine congrArg some (congrArg V.i ?_); omega)) rfl (by first | exact trivial | exact Nat.le_of_ble_eq_true rfl | exact hy)) ?_)
            · repeat (first | ((rw [← turnL_set hlt]; exact covL_app (cov_set (d := []) plain_jobs (by omega) rfl (fun i' hi' hne => by (repeat rw [find_skip (by omega)]); exact tail_rm_row hi' hne)) (cov_ent (fun k hk => hR _ (by omega)) (by omega) (fun k hk => by (repeat rw [find_skip (by omega)]); exact tail_rm_be hk hj20)))) | refine And.intro (covE_some (hR _ (Nat.le_of_ble_eq_true rfl)) (Nat.le_of_ble_eq_true rfl) (by first | exact wf_ints _ _ | exact wf_bools _ _ | first | first | exact wf_sls _ _ _ (by omega) | exact wf_jobs _ _ | exact wf_famS _ _ _ (by omega) | simp [C.wf]) rfl (by first | exact ren_ints _ _ | exact ren_sls_of (fun l hl => hR l (by omega)) (by omega) | exact ren_sl1 (hR _ (Nat.le_of_ble_eq_true rfl)) | (exact hfs) | (exact ren_sl1 (hR _ (Nat.le_of_ble_eq_true rfl))) | rfl)) ?_)
      · refine vc_ok tok ?_
        obtain rfl : b = j.length := by omega
        have hT := tail_fam (kd := rowJ) (cs := jobC) (l := turnL j j.length) (j := j) (by rw [turnL_len]; omega) hj20
        have e0 : turnE j = 0 := by simp [turnE, hv, harmful_of hall]
        simp only [turnR, e0, if_true]
        repeat ((conv => whnf); first | (refine And.intro (by first | omega | exact Nat.le_of_ble_eq_true rfl | (dsimp only [inK]; omega) | (simp only [mulS_eq]; omega) | (simp only [mulS_eq, setL_length]; omega) | (simp only [setL_length, List.length_map]; omega) | exact ⟨by omega, by omega, by first | exact Nat.le_of_ble_eq_true rfl | (dsimp only; omega) | (simp only [setL_length]; omega) | (simp only [setL_length, List.length_map]; omega)⟩ | exact ⟨by omega, by first | rfl | omega, by omega, Nat.le_of_ble_eq_true rfl, Nat.le_of_ble_eq_true rfl⟩ | exact ⟨rfl, rfl, rfl, Nat.le_of_ble_eq_true rfl, by first | rfl | omega | exact Nat.le_of_ble_eq_true rfl | (dsimp only; omega) | (simp; done) | (simp; omega), by first | rfl | omega | exact Nat.le_of_ble_eq_true rfl | (dsimp only; omega) | (simp; done) | (simp; omega), by omega, Nat.le_of_ble_eq_true rfl⟩ | exact Eq.refl true) ?_) | (refine Exists.intro _ (And.intro rfl ?_)) | (refine And.intro (And.intro rfl (chk_rowI _ _ _ _)) ?_) | (refine br_t (by omega) ?_) | (refine br_f (by omega) ?_) | (refine bs_t (by omega) ?_) | (refine bs_f (by omega) ?_) | (refine fun (K' : K3) hK' => ?_) | (refine hK' _ _ _ ?_; clear hK' K') | (refine draw_auto tok mixed (by kernel_rfl) ?_) | (with_reducible refine updK_tail hT rfl ?_) | (refine bs_bt (Eq.refl true) ?_) | (refine bs_bf (Eq.refl false) ?_) | (refine br_bt (Eq.refl true) ?_) | (refine br_bf (Eq.refl false) ?_) | (refine CallK.m ?_) | (refine Two.l ?_) | (refine And.intro (And.intro rfl rfl) ?_))
        exact .inr ⟨34, congrArg (C.sl 34) turnL_len.symm, rfl, fun k hk => by (repeat rw [find_skip (by omega)]); exact tail_row hk⟩
end Go.Proofs.Ytjijjncddjkdlaa

/- Shore: how many orders there are. -/
namespace Go.Proofs.Ytjijjncddjkdlaa
open Go.RowKit
set_option linter.unusedVariables false
set_option linter.unusedSimpArgs false
/-- So many ways, when i jobs of a beach have found their places among those in front. -/
def numI (o m : Nat) : Nat → Nat
  | 0 => o
  | i + 1 => numI o m i * (m + i + 1) / (i + 1)
def numJ (j : Coast) : Nat → Nat
  | 0 => 1
  | b + 1 => numI (numJ j b) (manyN j b) (j.getD b []).length
theorem manyN_mono (j : Coast) : ∀ {a b : Nat}, a ≤ b → b ≤ j.length → manyN j a ≤ manyN j b
  | a, 0, h, _ => by obtain rfl : a = 0 := by omega
                     exact Nat.le_refl _
  | a, b + 1, h, hb => by
    by_cases hab : a = b + 1
    · rw [hab]; exact Nat.le_refl _
    · have := manyN_mono j (a := a) (b := b) (by omega) (by omega)
      have e := manyN_succ (j := j) (k := b) (by omega)
      omega
end Go.Proofs.Ytjijjncddjkdlaa

/- Shore: slices.Concat of beaches. -/
namespace Go.Proofs.Ytjijjncddjkdlaa
open Go.RowKit
set_option linter.unusedVariables false
set_option linter.unusedSimpArgs false
theorem own_sliceJ {w : World} {base n : Nat} {v : Value} {xs : List Value} (h : w.ownsRow base 47 2 v n xs) : ∃ ao c, v = .slice ao n c ∧ ∀ a, ao = some a → base ≤ a.block := by
  obtain ⟨h1, ⟨rfl, h2⟩ | ⟨g, cap, cur, rfl, hb, hh, hn, hm, hs, ht⟩⟩ := h
  · exact ⟨none, 0, by rw [h2], fun a ha => by cases ha⟩
  · exact ⟨_, _, rfl, fun a ha => by cases ha; exact hb⟩
theorem grow_k {n0 nx n : Nat} {L : List E} {K : V → List E → Nat → Prop} (hn : n ≤ 1000) (hK : K (V.c (.sl nx 0)) [⟨nx, .vec 47 2, []⟩] (nx + 1)) : CallK Try.prog n0 83 [V.c .nil, V.i n] L nx K := by
  refine ⟨by kernel_rfl, fun ρ w hp _ => (grow_any n w hn).mono ?_⟩
  rintro e w' ⟨rv, rfl, hown, hbw⟩
  obtain ⟨ao, c, rfl, hblk⟩ := own_sliceJ hown
  refine ⟨V.c (.sl nx 0), [⟨nx, .vec 47 2, []⟩], nx + 1, ρ.put nx ao c, ?_, Nat.le_succ _, Nat.lt_succ_self nx, Env.put_agr _ _ _ _, hbw, News.one ?_ rfl (by simp) ?_, hK⟩
  · simp [V.den, A.den, C.den, Env.put_same]
  · refine ⟨0, ?_⟩
    simp only [Env.put_same]
    exact rowO.of (own_base hown hp.base)
  · intro b hb
    simp only [blk, Env.put_same, Option.map_eq_some_iff] at hb
    obtain ⟨a, ha, rfl⟩ := hb
    exact hblk a ha
/-- The jobs of the first beaches, one after the other. -/
def flatP (j : Coast) (k : Nat) : List Job := (j.take k).flatten
theorem flatP_succ {j : Coast} {k : Nat} (h : k < j.length) : flatP j (k + 1) = flatP j k ++ j.getD k [] := by
  unfold flatP
  rw [take_succ_getD (d := []) h, List.flatten_append]; simp
theorem flatP_len {j : Coast} : ∀ {k : Nat}, k ≤ j.length → (flatP j k).length = manyN j k
  | 0, _ => by simp [flatP, manyN]
  | k + 1, h => by rw [flatP_succ (by omega), List.length_append, flatP_len (by omega), manyN_succ (by omega)]
def flatJ (j : Coast) : List Job := flatP j j.length
set_option maxHeartbeats 1000000 in
set_option maxRecDepth 100000 in
theorem concat_spec (j : Coast) (hj : Sized j) (hl : ∀ b, b < j.length → (j.getD b []).length ≤ 100) (hm : manyN j j.length ≤ 1000) : Spec Try.prog 74 [V.c (.sl 0 j.length)] (⟨0, .ro 1, slsC 1 j⟩ :: entC 1 j) 32 (fun v L' _ => ∃ lab, v = V.c (.sl lab (flatJ j).length) ∧ find L' lab = some ⟨lab, .vec 47 2, jobC (flatJ j)⟩) := by
  have hj20 := hj.len
  have hlen := slsC_len (b := 1) (j := j)
  refine Spec.of tok Try.func74 rfl rfl rfl fun n0 cx => vc_ok tok ?_
  repeat ((conv => whnf); first | (refine And.intro (by first | omega | exact Nat.le_of_ble_eq_true rfl | (dsimp only [inK]; omega) | (simp only [mulS_eq]; omega) | (simp only [mulS_eq, setL_length]; omega) | (simp only [setL_length]; omega) | (simp only [setL_length, List.length_map]; omega) | (exact ⟨by omega, by omega, by first | exact Nat.le_of_ble_eq_true rfl | (dsimp only; omega) | (simp only [setL_length]; omega) | (simp only [setL_length, List.length_map]; omega)⟩) | (exact ⟨by omega, by first | rfl | omega, by omega, Nat.le_of_ble_eq_true rfl, Nat.le_of_ble_eq_true rfl⟩) | (exact ⟨rfl, rfl, rfl, Nat.le_of_ble_eq_true rfl, by first | rfl | omega | exact Nat.le_of_ble_eq_true rfl | (dsimp only; omega) | (simp; done) | (simp; omega), by first | rfl | omega | exact Nat.le_of_ble_eq_true rfl | (dsimp only; omega) | (simp; done) | (simp; omega), by omega, Nat.le_of_ble_eq_true rfl⟩) | exact Eq.refl true) ?_) | refine Exists.intro _ (And.intro rfl ?_) | refine And.intro (And.intro rfl (chk_rowI _ _ _ _)) ?_ | refine br_t (by omega) ?_ | refine br_f (by omega) ?_ | refine bs_t (by omega) ?_ | refine bs_f (by omega) ?_ | refine fun (K' : K3) hK' => ?_ | (refine hK' _ _ _ ?_; clear hK' K') | refine draw_auto tok mixed (by kernel_rfl) ?_ | refine bs_bt (Eq.refl true) ?_ | refine bs_bf (Eq.refl false) ?_ | refine br_bt (Eq.refl true) ?_ | refine br_bf (Eq.refl false) ?_ | refine CallK.m ?_ | refine Two.l ?_ | refine And.intro (And.intro rfl rfl) ?_)
  refine Tri.loop (γ := Nat) (fun b => b ≤ j.length) (fun b => [(0, V.c (.sl 0 j.length)), (3, V.i (manyN j b : Nat)), (9, V.c (.sl 0 j.length)), (10, V.i j.length), (11, V.i (b : Nat))])
    (fun b => ⟨0, .ro 1, slsC 1 j⟩ :: entC 1 j) 32 (fun b => j.length - b) 0 (R0 := []) ?_ ?_ ?_
  · omega
  · skip
    refine ⟨?_, ?_, injB_ent (p := [_]) (by omega) rfl rfl, rfl, by first | exact Nat.le_of_ble_eq_true rfl | exact Nat.le_refl _ | omega⟩
    · repeat (first | exact trivial | (refine And.intro (covS_syn (by rfl) rfl (by first | exact trivial | exact Nat.le_of_ble_eq_true rfl | exact hy | (first | ((show ∀ p ∈ (_ : List (Nat × Nat)), p.1 < _); decide) | exact (fun p hp => nomatch hp)) | (show (_ : Nat) < _; omega))) ?_) | refine And.intro (covS_bool rfl rfl (by rfl)) ?_)
    · repeat (first | exact trivial | (exact covL_ent (by omega) (fun k hk => by (try simp only [flatN]); (repeat (first | rw [find_skip (by omega)] | rw [find_hi (by omega) (by rfl)])))) | (refine And.intro (covE_id (Nat.le_of_ble_eq_true rfl) (by first | exact wf_ints _ _ | exact wf_bools _ _ | first | exact wf_sls _ _ _ (by omega) | exact wf_jobs _ _ | simp [C.wf]) rfl (by rfl)) ?_))
  · intro b hb
    refine vc_ok tok ?_
    by_cases hlt : b < j.length
    · have hmm := manyN_mono j (a := b + 1) (b := j.length) (by omega) (Nat.le_refl _)
      have hms := manyN_succ (j := j) (k := b) hlt
      obtain ⟨m, hme⟩ : ∃ m, m = manyN j b := ⟨_, rfl⟩
      rw [← hme] at hms ⊢
      repeat ((conv => whnf); first | (refine And.intro (by first | omega | exact Nat.le_of_ble_eq_true rfl | (dsimp only [inK]; omega) | (simp only [mulS_eq]; omega) | (simp only [mulS_eq, setL_length]; omega) | (simp only [setL_length]; omega) | (simp only [setL_length, List.length_map]; omega) | (exact ⟨by omega, by omega, by first | exact Nat.le_of_ble_eq_true rfl | (dsimp only; omega) | (simp only [setL_length]; omega) | (simp only [setL_length, List.length_map]; omega)⟩) | (exact ⟨by omega, by first | rfl | omega, by omega, Nat.le_of_ble_eq_true rfl, Nat.le_of_ble_eq_true rfl⟩) | (exact ⟨rfl, rfl, rfl, Nat.le_of_ble_eq_true rfl, by first | rfl | omega | exact Nat.le_of_ble_eq_true rfl | (dsimp only; omega) | (simp; done) | (simp; omega), by first | rfl | omega | exact Nat.le_of_ble_eq_true rfl | (dsimp only; omega) | (simp; done) | (simp; omega), by omega, Nat.le_of_ble_eq_true rfl⟩) | exact Eq.refl true) ?_) | with_reducible refine ld (slL hlt) ?_ | refine Exists.intro _ (And.intro rfl ?_) | refine And.intro (And.intro rfl (chk_rowI _ _ _ _)) ?_ | refine br_t (by omega) ?_ | refine br_f (by omega) ?_ | refine bs_t (by omega) ?_ | refine bs_f (by omega) ?_ | refine fun (K' : K3) hK' => ?_ | (refine hK' _ _ _ ?_; clear hK' K') | refine draw_auto tok mixed (by kernel_rfl) ?_ | refine bs_bt (Eq.refl true) ?_ | refine bs_bf (Eq.refl false) ?_ | refine br_bt (Eq.refl true) ?_ | refine br_bf (Eq.refl false) ?_ | refine CallK.m ?_ | refine Two.l ?_ | refine And.intro (And.intro rfl rfl) ?_)
      refine ⟨b + 1, [], by omega, by omega, ?_⟩
      refine ⟨?_, ?_, injB_ent (p := [_]) (by omega) rfl rfl, rfl, by first | exact Nat.le_of_ble_eq_true rfl | exact Nat.le_refl _ | omega⟩
      · repeat (first | exact trivial | (refine And.intro (covS_syn (by first | rfl | (refine congrArg some (congrArg V.i ?_); (rw [hms]; omega)) | (refine congrArg some (congrArg V.i ?_); omega) | (refine congrArg some (congrArg V.i ?_); (rw [hms]; push_cast; rfl))) rfl (by first | exact trivial | exact Nat.le_of_ble_eq_true rfl | exact hy | (first | ((show ∀ p ∈ (_ : List (Nat × Nat)), p.1 < _); decide) | exact (fun p hp => nomatch hp)) | (show (_ : Nat) < _; omega))) ?_) | refine And.intro (covS_bool rfl rfl (by rfl)) ?_)
      · repeat (first | exact trivial | (exact covL_ent (by omega) (fun k hk => by (try simp only [flatN]); (repeat (first | rw [find_skip (by omega)] | rw [find_hi (by omega) (by rfl)])))) | (refine And.intro (covE_id (Nat.le_of_ble_eq_true rfl) (by first | exact wf_ints _ _ | exact wf_bools _ _ | first | exact wf_sls _ _ _ (by omega) | exact wf_jobs _ _ | simp [C.wf]) rfl (by rfl)) ?_))
    · obtain rfl : b = j.length := by omega
      repeat ((conv => whnf); first | (refine And.intro (by first | omega | exact Nat.le_of_ble_eq_true rfl | (dsimp only [inK]; omega) | (simp only [mulS_eq]; omega) | (simp only [mulS_eq, setL_length]; omega) | (simp only [setL_length]; omega) | (simp only [setL_length, List.length_map]; omega) | (exact ⟨by omega, by omega, by first | exact Nat.le_of_ble_eq_true rfl | (dsimp only; omega) | (simp only [setL_length]; omega) | (simp only [setL_length, List.length_map]; omega)⟩) | (exact ⟨by omega, by first | rfl | omega, by omega, Nat.le_of_ble_eq_true rfl, Nat.le_of_ble_eq_true rfl⟩) | (exact ⟨rfl, rfl, rfl, Nat.le_of_ble_eq_true rfl, by first | rfl | omega | exact Nat.le_of_ble_eq_true rfl | (dsimp only; omega) | (simp; done) | (simp; omega), by first | rfl | omega | exact Nat.le_of_ble_eq_true rfl | (dsimp only; omega) | (simp; done) | (simp; omega), by omega, Nat.le_of_ble_eq_true rfl⟩) | exact Eq.refl true) ?_) | refine Exists.intro _ (And.intro rfl ?_) | refine And.intro (And.intro rfl (chk_rowI _ _ _ _)) ?_ | refine br_t (by omega) ?_ | refine br_f (by omega) ?_ | refine bs_t (by omega) ?_ | refine bs_f (by omega) ?_ | refine fun (K' : K3) hK' => ?_ | (refine hK' _ _ _ ?_; clear hK' K') | refine draw_auto tok mixed (by kernel_rfl) ?_ | refine grow_k (by omega) ?_ | refine bs_bt (Eq.refl true) ?_ | refine bs_bf (Eq.refl false) ?_ | refine br_bt (Eq.refl true) ?_ | refine br_bf (Eq.refl false) ?_ | refine CallK.m ?_ | refine Two.l ?_ | refine And.intro (And.intro rfl rfl) ?_)
      refine Tri.loop (γ := Nat) (fun b => b ≤ j.length) (fun b => [(6, V.c (.sl 32 (flatP j b).length)), (25, V.c (.sl 0 j.length)), (26, V.i j.length), (27, V.i (b : Nat))])
        (fun b => ⟨32, .vec 47 2, jobC (flatP j b)⟩ :: ⟨0, .ro 1, slsC 1 j⟩ :: entC 1 j) 33 (fun b => j.length - b) 0 (R0 := []) ?_ ?_ ?_
      · omega
      · skip
        refine ⟨?_, ?_, injB_ent (p := [_, _]) (by omega) rfl rfl, rfl, by first | exact Nat.le_of_ble_eq_true rfl | exact Nat.le_refl _ | omega⟩
        · repeat (first | exact trivial | (refine And.intro (covS_syn (by rfl) rfl (by first | exact trivial | exact Nat.le_of_ble_eq_true rfl | exact hy | (first | ((show ∀ p ∈ (_ : List (Nat × Nat)), p.1 < _); decide) | exact (fun p hp => nomatch hp)) | (show (_ : Nat) < _; omega))) ?_) | refine And.intro (covS_bool rfl rfl (by rfl)) ?_)
        · repeat (first | exact trivial | (exact covL_ent (by omega) (fun k hk => by (try simp only [flatN]); (repeat (first | rw [find_skip (by omega)] | rw [find_hi (by omega) (by rfl)])))) | (refine And.intro (covE_id (Nat.le_of_ble_eq_true rfl) (by first | exact wf_ints _ _ | exact wf_bools _ _ | first | exact wf_sls _ _ _ (by omega) | exact wf_jobs _ _ | simp [C.wf]) rfl (by rfl)) ?_))
      · intro b hb
        refine vc_ok tok ?_
        by_cases hlt : b < j.length
        · have hfl := flatP_len (j := j) (k := b) (by omega)
          have hfs := flatP_succ (j := j) hlt
          have hmm := manyN_mono j (a := b) (b := j.length) (by omega) (Nat.le_refl _)
          have hbl := hl b hlt
          have hjl := jobC_len (j.getD b [])
          have hfj := jobC_len (flatP j b)
          have happ : jobC (flatP j b) ++ (jobC (j.getD b [])).take ((j.getD b []).length * 2) = jobC (flatP j (b + 1)) := by
            rw [hfs, jobC_app, List.take_of_length_le (by rw [hjl]; omega)]
          have hlen1 : (flatP j (b + 1)).length = (flatP j b).length + (j.getD b []).length := by rw [hfs, List.length_append]
          obtain ⟨y, hy⟩ : ∃ y, y = flatP j b := ⟨_, rfl⟩
          rw [← hy] at hfl hfj happ hlen1 ⊢
          repeat ((conv => whnf); first | (refine And.intro (by first | omega | exact Nat.le_of_ble_eq_true rfl | (dsimp only [inK]; omega) | (simp only [mulS_eq]; omega) | (simp only [mulS_eq, setL_length]; omega) | (simp only [setL_length]; omega) | (simp only [setL_length, List.length_map]; omega) | (exact ⟨by omega, by omega, by first | exact Nat.le_of_ble_eq_true rfl | (dsimp only; omega) | (simp only [setL_length]; omega) | (simp only [setL_length, List.length_map]; omega)⟩) | (exact ⟨by omega, by first | rfl | omega, by omega, Nat.le_of_ble_eq_true rfl, Nat.le_of_ble_eq_true rfl⟩) | (exact ⟨rfl, rfl, rfl, Nat.le_of_ble_eq_true rfl, by first | rfl | omega | exact Nat.le_of_ble_eq_true rfl | (dsimp only; omega) | (simp; done) | (simp; omega), by first | rfl | omega | exact Nat.le_of_ble_eq_true rfl | (dsimp only; omega) | (simp; done) | (simp; omega), by omega, Nat.le_of_ble_eq_true rfl⟩) | exact Eq.refl true) ?_) | with_reducible refine ld (slL hlt) ?_ | refine Exists.intro _ (And.intro rfl ?_) | refine And.intro (And.intro rfl (chk_rowI _ _ _ _)) ?_ | refine br_t (by omega) ?_ | refine br_f (by omega) ?_ | refine bs_t (by omega) ?_ | refine bs_f (by omega) ?_ | refine fun (K' : K3) hK' => ?_ | (refine hK' _ _ _ ?_; clear hK' K') | refine draw_auto tok mixed (by kernel_rfl) ?_ | refine onV_ld (c := ⟨1 + b, .ro 2, jobC (j.getD b [])⟩) (by ((try (conv => lhs; arg 1; whnf)); (repeat (first | rw [find_skip (by omega)] | rw [find_hi (by omega) (by rfl)])); exact entC_find hlt)) ?_ | with_reducible refine rmK_ent (by omega) ?_ | refine bs_bt (Eq.refl true) ?_ | refine bs_bf (Eq.refl false) ?_ | refine br_bt (Eq.refl true) ?_ | refine br_bf (Eq.refl false) ?_ | refine CallK.m ?_ | refine Two.l ?_ | refine And.intro (And.intro rfl rfl) ?_)
          refine ⟨b + 1, [(32, some 33)], by omega, by omega, ?_⟩
          rw [hlen1]
          refine ⟨?_, ?_, injB_entR (p := [_, _]) rfl (by omega) rfl rfl, rfl, by first | exact Nat.le_of_ble_eq_true rfl | exact Nat.le_refl _ | omega⟩
          · repeat (first | exact trivial | (refine And.intro (covS_syn (by rfl) rfl (by first | exact trivial | exact Nat.le_of_ble_eq_true rfl | exact hy | (first | ((show ∀ p ∈ (_ : List (Nat × Nat)), p.1 < _); decide) | exact (fun p hp => nomatch hp)) | (show (_ : Nat) < _; omega))) ?_) | refine And.intro (covS_bool rfl rfl (by rfl)) ?_)
          · repeat (first | exact trivial | (exact covL_entR rfl (by omega) (by omega) (fun k hk => by (try simp only [flatN]); (repeat (first | rw [find_skip (by omega)] | rw [find_hi (by omega) (by rfl)])))) | refine And.intro (covE_some rfl (Nat.le_of_ble_eq_true rfl) (wf_sls _ _ _ (by omega)) rfl (ren_sls rfl (by omega))) ?_ | refine And.intro (covE_some (l := 33) rfl (Nat.le_of_ble_eq_true rfl) (wf_jobs _ _) (congrArg (fun c => some (E.mk 33 (.vec 47 2) c)) happ) (ren_jobs _ _)) ?_ | refine And.intro (covE_nil rfl (Nat.le_of_ble_eq_true rfl) rfl rfl) ?_ | (refine And.intro (covE_some rfl (Nat.le_of_ble_eq_true rfl) (by first | exact wf_ints _ _ | exact wf_bools _ _ | first | exact wf_sls _ _ _ (by omega) | exact wf_jobs _ _ | simp [C.wf]) rfl (by first | exact ren_ints _ _ | exact ren_bools _ _ | exact ren_shares _ _ | rfl)) ?_))
        · obtain rfl : b = j.length := by omega
          repeat ((conv => whnf); first | (refine And.intro (by first | omega | exact Nat.le_of_ble_eq_true rfl | (dsimp only [inK]; omega) | (simp only [mulS_eq]; omega) | (simp only [mulS_eq, setL_length]; omega) | (simp only [setL_length]; omega) | (simp only [setL_length, List.length_map]; omega) | (exact ⟨by omega, by omega, by first | exact Nat.le_of_ble_eq_true rfl | (dsimp only; omega) | (simp only [setL_length]; omega) | (simp only [setL_length, List.length_map]; omega)⟩) | (exact ⟨by omega, by first | rfl | omega, by omega, Nat.le_of_ble_eq_true rfl, Nat.le_of_ble_eq_true rfl⟩) | (exact ⟨rfl, rfl, rfl, Nat.le_of_ble_eq_true rfl, by first | rfl | omega | exact Nat.le_of_ble_eq_true rfl | (dsimp only; omega) | (simp; done) | (simp; omega), by first | rfl | omega | exact Nat.le_of_ble_eq_true rfl | (dsimp only; omega) | (simp; done) | (simp; omega), by omega, Nat.le_of_ble_eq_true rfl⟩) | exact Eq.refl true) ?_) | refine Exists.intro _ (And.intro rfl ?_) | refine And.intro (And.intro rfl (chk_rowI _ _ _ _)) ?_ | refine br_t (by omega) ?_ | refine br_f (by omega) ?_ | refine bs_t (by omega) ?_ | refine bs_f (by omega) ?_ | refine fun (K' : K3) hK' => ?_ | (refine hK' _ _ _ ?_; clear hK' K') | refine draw_auto tok mixed (by kernel_rfl) ?_ | refine bs_bt (Eq.refl true) ?_ | refine bs_bf (Eq.refl false) ?_ | refine br_bt (Eq.refl true) ?_ | refine br_bf (Eq.refl false) ?_ | refine CallK.m ?_ | refine Two.l ?_ | refine And.intro (And.intro rfl rfl) ?_)
          exact rfl
end Go.Proofs.Ytjijjncddjkdlaa

/- Shore: rows of rows that grow; the reference's Free. -/
namespace Go.Proofs.Ytjijjncddjkdlaa
open Go.RowKit
set_option linter.unusedVariables false
set_option linter.unusedSimpArgs false
section
variable {α : Type} {kd : Kd} {cs : α → List C} {ln : α → Nat} {d : α}
theorem famS_snoc {R : Rn} {y : Nat} {x : α} : ∀ {b : Nat} {l : List α}, (∀ k, k < l.length → renL R (k + b) = some (k + b)) → renL R (l.length + b) = some y → seqO ((famS ln b (l ++ [x])).map (C.ren R)) = some (famS ln b l ++ [.sl y (ln x)])
  | b, [], _, h => by
    simp only [List.length_nil, Nat.zero_add] at h
    simp only [List.nil_append, famS, List.map_cons, List.map_nil, C.ren, h, seqO]
  | b, a :: l, hR, h => by
    have h0 := hR 0 (by simp)
    rw [Nat.zero_add] at h0
    have ih := famS_snoc (R := R) (y := y) (x := x) (b := b + 1) (l := l) (fun k hk => by have := hR (k + 1) (by simpa using hk); rwa [show k + (b + 1) = k + 1 + b by omega]) (by rw [show l.length + (b + 1) = (a :: l).length + b by simp; omega]; exact h)
    simp only [List.cons_append, famS, List.map_cons, C.ren, h0, seqO, ih]
theorem cov_snoc {R : Rn} {nx y b : Nat} {L : List E} {l : List α} {x : α} (hp : Plain cs) (hb : b + l.length < nx) (hR : ∀ k, k < l.length → renL R (k + b) = some (k + b)) (hy : renL R (l.length + b) = some y) (hx : find L y = some ⟨y, kd, cs x⟩) (hL : ∀ i, i < l.length → find L (i + b) = some ⟨i + b, kd, cs (l.getD i d)⟩) : covL R nx L (famE kd cs b (l ++ [x])) := by
  refine covL_all fun e he => ?_
  obtain ⟨i, hi, rfl⟩ := famE_mem (d := d) he
  rw [List.length_append, List.length_singleton] at hi
  by_cases hil : i < l.length
  · have e1 : (l ++ [x]).getD i d = l.getD i d := by simp [List.getD_eq_getElem?_getD, List.getElem?_append_left hil]
    rw [e1]
    exact covE_some (hR i hil) (by simp only; omega) (hp.wf _ _) (hL i hil) (hp.ren _ _)
  · obtain rfl : i = l.length := by omega
    have e1 : (l ++ [x]).getD l.length d = x := by simp [List.getD_eq_getElem?_getD]
    rw [e1]
    exact covE_some hy (by simp only; omega) (hp.wf _ _) hx (hp.ren _ _)
end
theorem inj_two {x1 y1 x2 y2 : Nat} {T p : List E} (h : TailOk T) (hp : (p.all fun e => fixedB e.lab) = true) (hn : (p.map E.lab).Nodup) (hy : fixedB y1 = true) (hy2 : fixedB y2 = true) (hne : y1 ≠ y2) (h1 : y1 ∉ p.map E.lab) (h2 : y2 ∉ p.map E.lab) : injB [(x1, some y1), (x2, some y2)] (p ++ T) = true := by
  refine injB_tail h hp hn (by simp [hne]) fun q hq z hz => ?_
  simp only [List.mem_cons, List.not_mem_nil, or_false] at hq
  rcases hq with rfl | rfl
  · cases hz; exact ⟨h1, h.ne hy⟩
  · cases hz; exact ⟨h2, h.ne hy2⟩
theorem inj_null {x : Nat} {T p : List E} (h : TailOk T) (hp : (p.all fun e => fixedB e.lab) = true) (hn : (p.map E.lab).Nodup) : injB [(x, none)] (p ++ T) = true :=
  injB_tail h hp hn (by simp) fun q hq z hz => by
    rw [List.mem_singleton.1 hq] at hz; cases hz
theorem renL_two {a x1 x2 l : Nat} {o : Option Nat} (h1 : l ≠ a) (h2 : l ≠ x2) : renL [(a, o), (x2, some x1)] l = some l := by
  simp [renL, beq_ne h1.symm, beq_ne h2.symm]
theorem renL_two2 {a x1 x2 : Nat} {o : Option Nat} (h1 : x2 ≠ a) : renL [(a, o), (x2, some x1)] x2 = some x1 := by
  simp [renL, beq_ne h1.symm]
/-- A beach for each job. -/
def sglL (l : List Job) : Coast := l.map fun x => [x]
theorem sglL_len (l : List Job) : (sglL l).length = l.length := List.length_map ..
theorem sglL_snoc (l : List Job) (x : Job) : sglL (l ++ [x]) = sglL l ++ [[x]] := by simp [sglL]
def freeE (j : Coast) : Int := if validL j then (if 1 ≤ (flatJ j).length ∧ (flatJ j).length ≤ 6 then 0 else 5) else 60
def freeR (j : Coast) : Coast := if freeE j = 0 then sglL (flatJ j) else []
def flatB (j : Coast) (b i : Nat) : List Job := flatP j b ++ (j.getD b []).take i
end Go.Proofs.Ytjijjncddjkdlaa

/- Shore: Free. -/
namespace Go.Proofs.Ytjijjncddjkdlaa
open Go.RowKit
set_option linter.unusedVariables false
set_option linter.unusedSimpArgs false
theorem valJ_spec (lc n nx : Nat) (L : List E) : SpecM Try.prog 73 [V.c (.sl lc n)] L nx (fun v L' nx' => v = V.c (.fn 82 [(nx, 0)]) ∧ L' = ⟨nx, .own 31, [.sl lc n]⟩ :: L ∧ nx' = nx + 1) := by
  refine SpecM.of tok Try.func73 rfl rfl rfl fun n0 cx => vc_ok tok ?_
  repeat ((conv => whnf); first | (refine And.intro (by first | omega | exact Nat.le_of_ble_eq_true rfl | (dsimp only [inK]; omega) | (simp only [mulS_eq]; omega) | (simp only [mulS_eq, setL_length]; omega) | (simp only [setL_length]; omega) | (simp only [setL_length, List.length_map]; omega) | (exact ⟨by omega, by omega, by first | exact Nat.le_of_ble_eq_true rfl | (dsimp only; omega) | (simp only [setL_length]; omega) | (simp only [setL_length, List.length_map]; omega)⟩) | (exact ⟨by omega, by first | rfl | omega, by omega, Nat.le_of_ble_eq_true rfl, Nat.le_of_ble_eq_true rfl⟩) | (exact ⟨rfl, rfl, rfl, Nat.le_of_ble_eq_true rfl, by first | rfl | omega | exact Nat.le_of_ble_eq_true rfl | (dsimp only; omega) | (simp; done) | (simp; omega), by first | rfl | omega | exact Nat.le_of_ble_eq_true rfl | (dsimp only; omega) | (simp; done) | (simp; omega), by omega, Nat.le_of_ble_eq_true rfl⟩) | exact Eq.refl true) ?_) | refine Exists.intro _ (And.intro rfl ?_) | refine And.intro (And.intro rfl (chk_rowI _ _ _ _)) ?_ | refine br_t (by omega) ?_ | refine br_f (by omega) ?_ | refine bs_t (by omega) ?_ | refine bs_f (by omega) ?_ | refine fun (K' : K3) hK' => ?_ | (refine hK' _ _ _ ?_; clear hK' K') | refine draw_auto tok mixed (by kernel_rfl) ?_ | refine bs_bt (Eq.refl true) ?_ | refine bs_bf (Eq.refl false) ?_ | refine br_bt (Eq.refl true) ?_ | refine br_bf (Eq.refl false) ?_ | refine CallK.m ?_ | refine Two.l ?_ | refine And.intro (And.intro rfl rfl) ?_)
  exact ⟨rfl, rfl, rfl⟩
theorem jobTk {l : List Job} {m : Nat} (h : m < l.length) : l.take (m + 1) = l.take m ++ [l.getD m (0, 0)] := take_succ_getD h
theorem CallK.rowJ1 {P : Program} {n0 nx nac : Nat} {f : FuncId} {vs vs' : List V} {Lc L : List E} {R : Rn} {K : V → List E → Nat → Prop} {l : List Job} (spec : Spec P f vs Lc nac (fun v L' _ => ∃ lab, v = V.c (.sl lab l.length) ∧ find L' lab = some ⟨lab, .vec 47 2, jobC l⟩)) (hok : callB P f = true)
    (hv : renVs R vs = some vs') (hvw : ∀ v ∈ vs, v.wf nac) (hL : roL R nac L Lc) (hLc : injB [] Lc = true)
    (hK : K (V.c (.sl nx l.length)) [⟨nx, .vec 47 2, jobC l⟩] (nx + 1)) : CallK P n0 f vs' L nx K := by
  refine CallK.mk' hok spec hv hvw hL hLc ?_
  rintro v L' nx' hw ⟨lab, rfl, hf⟩
  refine ⟨V.c (.sl nx l.length), [⟨nx, .vec 47 2, jobC l⟩], nx + 1, [(nx, some lab)], ⟨Nat.le_succ _, ?_, ?_, ⟨covE_some (renL_one _ _) (Nat.lt_succ_self nx) (wf_jobs _ _) hf (ren_jobs _ _), trivial⟩, rfl, ?_⟩, hK⟩
  · simp only [V.ren, A.ren, C.ren, renL_one]
  · simp only [V.chk, A.chk, C.chk]; exact inLab_one nx
  · simp only [List.all_cons, List.all_nil, Bool.and_true, inLab_one, Kd.isRo, Bool.not_false, Bool.true_and]
    exact chk_jobs _ _
set_option maxHeartbeats 4000000 in
set_option maxRecDepth 100000 in
theorem Free_spec (j : Coast) (hj : Sized j) : Spec Try.prog 40 [V.c (.sl 0 j.length)] (⟨0, .ro 1, slsC 1 j⟩ :: entC 1 j) 32 (fun v L' _ => rowsR 31 rowJ jobC List.length [] (freeR j) (freeE j) v L') := by
  have hj20 := hj.len
  have hlen := slsC_len (b := 1) (j := j)
  have hC := hasC0 hj
  cases hv : validL j with
  | false =>
    have e : freeE j = 60 := by simp [freeE, hv]
    simp only [freeR, e]
    refine Spec.of tok Try.func40 rfl rfl rfl fun n0 cx => vc_ok tok ?_
    repeat ((conv => whnf); first | (refine And.intro (by first | omega | exact Nat.le_of_ble_eq_true rfl | (dsimp only [inK]; omega) | (simp only [mulS_eq]; omega) | (simp only [mulS_eq, setL_length]; omega) | (simp only [setL_length]; omega) | (simp only [setL_length, List.length_map]; omega) | (exact ⟨by omega, by omega, by first | exact Nat.le_of_ble_eq_true rfl | (dsimp only; omega) | (simp only [setL_length]; omega) | (simp only [setL_length, List.length_map]; omega)⟩) | (exact ⟨by omega, by first | rfl | omega, by omega, Nat.le_of_ble_eq_true rfl, Nat.le_of_ble_eq_true rfl⟩) | (exact ⟨rfl, rfl, rfl, Nat.le_of_ble_eq_true rfl, by first | rfl | omega | exact Nat.le_of_ble_eq_true rfl | (dsimp only; omega) | (simp; done) | (simp; omega), by first | rfl | omega | exact Nat.le_of_ble_eq_true rfl | (dsimp only; omega) | (simp; done) | (simp; omega), by omega, Nat.le_of_ble_eq_true rfl⟩) | exact Eq.refl true) ?_) | refine Exists.intro _ (And.intro rfl ?_) | refine And.intro (And.intro rfl (chk_rowI _ _ _ _)) ?_ | refine br_t (by omega) ?_ | refine br_f (by omega) ?_ | refine bs_t (by omega) ?_ | refine bs_f (by omega) ?_ | refine fun (K' : K3) hK' => ?_ | (refine hK' _ _ _ ?_; clear hK' K') | refine CallM.eq (by kernel_rfl) (open_spec j hj _ _ hC) ?_ | refine draw_auto tok mixed (by kernel_rfl) ?_ | rw [hv] | refine bs_bt (Eq.refl true) ?_ | refine bs_bf (Eq.refl false) ?_ | refine br_bt (Eq.refl true) ?_ | refine br_bf (Eq.refl false) ?_ | refine CallK.m ?_ | refine Two.l ?_ | refine And.intro (And.intro rfl rfl) ?_)
    exact .inl ⟨rfl, rfl⟩
  | true =>
    have hc := validL_coast hj hv
    have h12 := validL_many hv
    have hfl : (flatJ j).length = manyN j j.length := flatP_len (Nat.le_refl _)
    have hcs := concat_spec j hj (fun b hb => (hc.jobs b hb).2) (by omega)
    by_cases hr : (1 : Int) ≤ (manyN j j.length : Nat) ∧ ((manyN j j.length : Nat) : Int) ≤ 6
    case neg =>
      have e5 : freeE j = 5 := by unfold freeE; rw [hv, if_pos rfl, if_neg (by omega)]
      simp only [freeR, e5]
      refine Spec.of tok Try.func40 rfl rfl rfl fun n0 cx => vc_ok tok ?_
      repeat ((conv => whnf); first | (refine And.intro (by first | omega | exact Nat.le_of_ble_eq_true rfl | (dsimp only [inK]; omega) | (simp only [mulS_eq]; omega) | (simp only [mulS_eq, setL_length]; omega) | (simp only [setL_length]; omega) | (simp only [setL_length, List.length_map]; omega) | (exact ⟨by omega, by omega, by first | exact Nat.le_of_ble_eq_true rfl | (dsimp only; omega) | (simp only [setL_length]; omega) | (simp only [setL_length, List.length_map]; omega)⟩) | (exact ⟨by omega, by first | rfl | omega, by omega, Nat.le_of_ble_eq_true rfl, Nat.le_of_ble_eq_true rfl⟩) | (exact ⟨rfl, rfl, rfl, Nat.le_of_ble_eq_true rfl, by first | rfl | omega | exact Nat.le_of_ble_eq_true rfl | (dsimp only; omega) | (simp; done) | (simp; omega), by first | rfl | omega | exact Nat.le_of_ble_eq_true rfl | (dsimp only; omega) | (simp; done) | (simp; omega), by omega, Nat.le_of_ble_eq_true rfl⟩) | exact Eq.refl true) ?_) | refine Exists.intro _ (And.intro rfl ?_) | refine And.intro (And.intro rfl (chk_rowI _ _ _ _)) ?_ | refine br_t (by omega) ?_ | refine br_f (by omega) ?_ | refine bs_t (by omega) ?_ | refine bs_f (by omega) ?_ | refine fun (K' : K3) hK' => ?_ | (refine hK' _ _ _ ?_; clear hK' K') | refine CallM.eq (by kernel_rfl) (open_spec j hj _ _ hC) ?_ | refine draw_auto tok mixed (by kernel_rfl) ?_ | rw [hv] | refine CallK.val (R := []) (many_spec j hj.len hj.be) (by kernel_rfl) rfl (by simp [V.wf, A.wf, C.wf]) ⟨roE_id (by omega) (wf_sls _ _ _ (by omega)) rfl (.inr rfl) rfl, trivial⟩ rfl rfl trivial ?_ | refine CallK.val (R := []) (between_spec _ _ _) (by kernel_rfl) rfl (by simp [V.wf, A.wf, C.wf, V.i]) trivial rfl rfl trivial ?_ | (refine bs_bt (by rw [decide_eq_false hr]; rfl) ?_) | (refine br_bt (by rw [decide_eq_false hr]; rfl) ?_) | refine bs_bt (Eq.refl true) ?_ | refine bs_bf (Eq.refl false) ?_ | refine br_bt (Eq.refl true) ?_ | refine br_bf (Eq.refl false) ?_ | refine CallK.m ?_ | refine Two.l ?_ | refine And.intro (And.intro rfl rfl) ?_)
      exact .inl ⟨rfl, rfl⟩
    have e0 : freeE j = 0 := by unfold freeE; rw [hv, if_pos rfl, if_pos (by omega)]
    simp only [freeR, e0, if_true]
    obtain ⟨fl, hfe⟩ : ∃ fl, fl = flatJ j := ⟨_, rfl⟩
    rw [← hfe] at hfl hcs ⊢
    obtain ⟨n, hn⟩ : ∃ n, n = fl.length := ⟨_, rfl⟩
    have hjf := jobC_len fl
    refine Spec.of tok Try.func40 rfl rfl rfl fun n0 cx => vc_ok tok ?_
    repeat ((conv => whnf); first | (refine And.intro (by first | omega | exact Nat.le_of_ble_eq_true rfl | (dsimp only [inK]; omega) | (simp only [mulS_eq]; omega) | (simp only [mulS_eq, setL_length]; omega) | (simp only [setL_length]; omega) | (simp only [setL_length, List.length_map]; omega) | (exact ⟨by omega, by omega, by first | exact Nat.le_of_ble_eq_true rfl | (dsimp only; omega) | (simp only [setL_length]; omega) | (simp only [setL_length, List.length_map]; omega)⟩) | (exact ⟨by omega, by first | rfl | omega, by omega, Nat.le_of_ble_eq_true rfl, Nat.le_of_ble_eq_true rfl⟩) | (exact ⟨rfl, rfl, rfl, Nat.le_of_ble_eq_true rfl, by first | rfl | omega | exact Nat.le_of_ble_eq_true rfl | (dsimp only; omega) | (simp; done) | (simp; omega), by first | rfl | omega | exact Nat.le_of_ble_eq_true rfl | (dsimp only; omega) | (simp; done) | (simp; omega), by omega, Nat.le_of_ble_eq_true rfl⟩) | exact Eq.refl true) ?_) | refine Exists.intro _ (And.intro rfl ?_) | refine And.intro (And.intro rfl (chk_rowI _ _ _ _)) ?_ | refine br_t (by omega) ?_ | refine br_f (by omega) ?_ | refine bs_t (by omega) ?_ | refine bs_f (by omega) ?_ | refine fun (K' : K3) hK' => ?_ | (refine hK' _ _ _ ?_; clear hK' K') | refine CallM.eq (by kernel_rfl) (open_spec j hj _ _ hC) ?_ | refine CallM.eq (by kernel_rfl) (valJ_spec _ _ _ _) ?_ | refine draw_auto tok mixed (by kernel_rfl) ?_ | rw [hv] | refine CallK.val (R := []) (many_spec j hj.len hj.be) (by kernel_rfl) rfl (by simp [V.wf, A.wf, C.wf]) ⟨roE_id (by omega) (wf_sls _ _ _ (by omega)) rfl (.inr rfl) rfl, trivial⟩ rfl rfl trivial ?_ | refine CallK.val (R := []) (between_spec _ _ _) (by kernel_rfl) rfl (by simp [V.wf, A.wf, C.wf, V.i]) trivial rfl rfl trivial ?_ | (refine bs_bf (by rw [decide_eq_true hr]; rfl) ?_) | (refine br_bf (by rw [decide_eq_true hr]; rfl) ?_) | refine CallK.rowJ1 (R := []) hcs (by kernel_rfl) rfl (by simp [V.wf, A.wf, C.wf]) (HasC.ro ⟨rfl, fun k hk => by (repeat (first | rw [find_skip (by omega)] | rw [find_hi (by omega) (by rfl)])); exact entC_find hk⟩ hj) (injC hj) ?_ | refine bs_bt (Eq.refl true) ?_ | refine bs_bf (Eq.refl false) ?_ | refine br_bt (Eq.refl true) ?_ | refine br_bf (Eq.refl false) ?_ | refine CallK.m ?_ | refine Two.l ?_ | refine And.intro (And.intro rfl rfl) ?_)
    refine Tri.rangeFunc tok (by exact rfl) (by kernel_rfl) (by exact rfl) (by exact rfl) (by exact rfl) (by exact rfl) (by exact rfl) (by exact rfl) ?_
    intro y cxi oo ob od hy hY
    refine vc_ok tok ?_
    repeat ((conv => whnf); first | (refine And.intro (by first | omega | exact Nat.le_of_ble_eq_true rfl | (dsimp only [inK]; omega) | (simp only [mulS_eq]; omega) | (simp only [mulS_eq, setL_length]; omega) | (simp only [setL_length]; omega) | (simp only [setL_length, List.length_map]; omega) | (exact ⟨by omega, by omega, by first | exact Nat.le_of_ble_eq_true rfl | (dsimp only; omega) | (simp only [setL_length]; omega) | (simp only [setL_length, List.length_map]; omega)⟩) | (exact ⟨by omega, by first | rfl | omega, by omega, Nat.le_of_ble_eq_true rfl, Nat.le_of_ble_eq_true rfl⟩) | (exact ⟨rfl, rfl, rfl, Nat.le_of_ble_eq_true rfl, by first | rfl | omega | exact Nat.le_of_ble_eq_true rfl | (dsimp only; omega) | (simp; done) | (simp; omega), by first | rfl | omega | exact Nat.le_of_ble_eq_true rfl | (dsimp only; omega) | (simp; done) | (simp; omega), by omega, Nat.le_of_ble_eq_true rfl⟩) | exact Eq.refl true) ?_) | refine Exists.intro _ (And.intro rfl ?_) | refine And.intro (And.intro rfl (chk_rowI _ _ _ _)) ?_ | refine br_t (by omega) ?_ | refine br_f (by omega) ?_ | refine bs_t (by omega) ?_ | refine bs_f (by omega) ?_ | refine fun (K' : K3) hK' => ?_ | (refine hK' _ _ _ ?_; clear hK' K') | refine draw_auto tok mixed (by kernel_rfl) ?_ | refine bs_bt (Eq.refl true) ?_ | refine bs_bf (Eq.refl false) ?_ | refine br_bt (Eq.refl true) ?_ | refine br_bf (Eq.refl false) ?_ | refine CallK.m ?_ | refine Two.l ?_ | refine And.intro (And.intro rfl rfl) ?_)
    rw [← hn]
    refine Tri.loop (γ := Nat) (fun m => m ≤ n) (fun m => [(0, V.c (.v y)), (5, V.c (.sl 33 n)), (6, V.i n), (7, V.i (m : Nat))])
      (fun m => ⟨39, .vec 31 1, famS List.length 40 (sglL (fl.take m))⟩ :: ⟨35, .obj oo, []⟩ :: ⟨34, .own 31, [.sl 33 n]⟩ :: ⟨33, .vec 47 2, jobC fl⟩ :: ⟨32, .own 22, [.sl 39 m]⟩ :: ⟨0, .ro 1, slsC 1 j⟩ :: (famE rowJ jobC 40 (sglL (fl.take m)) ++ entC 1 j)) 60 (fun m => n - m) 0 (R0 := [(39, none)]) ?_ ?_ ?_
    · exact Nat.zero_le _
    · have hR : ∀ l, l < 39 → renL [(39, none)] l = some l := fun l hl => renL_ne (by omega)
      have hT := tail_fam (kd := rowJ) (cs := jobC) (l := sglL []) (j := j) (by simp [sglL]) hj20
      rw [List.take_zero]
      refine ⟨?_, ?_, inj_null (p := [_, _, _, _, _, _]) hT rfl (by simp), rfl, by first | exact Nat.le_of_ble_eq_true rfl | omega⟩
      · repeat (first | exact trivial | (refine And.intro (covS_syn (by first | rfl | exact (rsl (hR _ (Nat.le_of_ble_eq_true rfl))).symm | exact (rptr (hR _ (Nat.le_of_ble_eq_true rfl))).symm) rfl (by first | exact trivial | exact Nat.le_of_ble_eq_true rfl | exact hy)) ?_))
      · repeat (first | exact cov_ent (fun k hk => hR _ (by omega)) (by omega) (fun k hk => by ((try (conv => lhs; arg 1; whnf)); (repeat (first | rw [find_skip (by omega)] | rw [find_hi (by omega) (by rfl)])); exact entC_find hk)) | refine And.intro (covE_nil rfl (Nat.le_of_ble_eq_true rfl) rfl rfl) ?_ | refine And.intro (covE_some (hR _ (Nat.le_of_ble_eq_true rfl)) (Nat.le_of_ble_eq_true rfl) (wf_jobs _ _) rfl (ren_jobs _ _)) ?_ | (refine And.intro (covE_some (hR _ (Nat.le_of_ble_eq_true rfl)) (Nat.le_of_ble_eq_true rfl) (by first | exact wf_ints _ _ | exact wf_bools _ _ | first | exact wf_sls _ _ _ (by omega) | exact wf_jobs _ _ | exact wf_famS _ _ _ (by omega) | simp [C.wf]) rfl (by first | exact ren_ints _ _ | exact ren_sls_of (fun l hl => hR l (by omega)) (by omega) | exact ren_sl1 (hR _ (Nat.le_of_ble_eq_true rfl)) | rfl | rfl)) ?_))
    · intro m hm
      refine vc_ok tok ?_
      have hT := tail_fam (kd := rowJ) (cs := jobC) (l := sglL (fl.take m)) (j := j) (by rw [sglL_len, List.length_take]; omega) hj20
      by_cases hlt : m < n
      · have hlf : m < fl.length := by omega
        repeat ((conv => whnf); first | (refine And.intro (by first | omega | exact Nat.le_of_ble_eq_true rfl | (dsimp only [inK]; omega) | (simp only [mulS_eq]; omega) | (simp only [mulS_eq, setL_length]; omega) | (simp only [setL_length]; omega) | (simp only [setL_length, List.length_map]; omega) | (exact ⟨by omega, by omega, by first | exact Nat.le_of_ble_eq_true rfl | (dsimp only; omega) | (simp only [setL_length]; omega) | (simp only [setL_length, List.length_map]; omega)⟩) | (exact ⟨by omega, by first | rfl | omega, by omega, Nat.le_of_ble_eq_true rfl, Nat.le_of_ble_eq_true rfl⟩) | (exact ⟨rfl, rfl, rfl, Nat.le_of_ble_eq_true rfl, by first | rfl | omega | exact Nat.le_of_ble_eq_true rfl | (dsimp only; omega) | (simp; done) | (simp; omega), by first | rfl | omega | exact Nat.le_of_ble_eq_true rfl | (dsimp only; omega) | (simp; done) | (simp; omega), by omega, Nat.le_of_ble_eq_true rfl⟩) | exact Eq.refl true) ?_) | with_reducible refine ld (jobT rfl hlf) ?_ | refine Exists.intro _ (And.intro rfl ?_) | refine And.intro (And.intro rfl (chk_rowI _ _ _ _)) ?_ | refine br_t (by omega) ?_ | refine br_f (by omega) ?_ | refine bs_t (by omega) ?_ | refine bs_f (by omega) ?_ | refine fun (K' : K3) hK' => ?_ | (refine hK' _ _ _ ?_; clear hK' K') | refine draw_auto tok mixed (by kernel_rfl) ?_ | with_reducible refine updK_tail hT rfl ?_ | with_reducible refine rmK_tail hT rfl ?_ | with_reducible refine visC_tail hT rfl ?_ | with_reducible refine relC_tail hT rfl ?_ | with_reducible refine updO_tail hT rfl ?_ | refine bs_bt (Eq.refl true) ?_ | refine bs_bf (Eq.refl false) ?_ | refine br_bt (Eq.refl true) ?_ | refine br_bf (Eq.refl false) ?_ | refine CallK.m ?_ | refine Two.l ?_ | refine And.intro (And.intro rfl rfl) ?_)
        refine hY _ _ _ _ (Nat.le_of_ble_eq_true rfl) rfl ⟨rfl, trivial⟩ ?_
        intro cxb hcx
        refine vc_ok tok ?_
        repeat ((conv => whnf); first | (refine And.intro (by first | omega | exact Nat.le_of_ble_eq_true rfl | (dsimp only [inK]; omega) | (simp only [mulS_eq]; omega) | (simp only [mulS_eq, setL_length]; omega) | (simp only [setL_length]; omega) | (simp only [setL_length, List.length_map]; omega) | (exact ⟨by omega, by omega, by first | exact Nat.le_of_ble_eq_true rfl | (dsimp only; omega) | (simp only [setL_length]; omega) | (simp only [setL_length, List.length_map]; omega)⟩) | (exact ⟨by omega, by first | rfl | omega, by omega, Nat.le_of_ble_eq_true rfl, Nat.le_of_ble_eq_true rfl⟩) | (exact ⟨rfl, rfl, rfl, Nat.le_of_ble_eq_true rfl, by first | rfl | omega | exact Nat.le_of_ble_eq_true rfl | (dsimp only; omega) | (simp; done) | (simp; omega), by first | rfl | omega | exact Nat.le_of_ble_eq_true rfl | (dsimp only; omega) | (simp; done) | (simp; omega), by omega, Nat.le_of_ble_eq_true rfl⟩) | exact Eq.refl true) ?_) | refine Exists.intro _ (And.intro rfl ?_) | refine And.intro (And.intro rfl (chk_rowI _ _ _ _)) ?_ | refine br_t (by omega) ?_ | refine br_f (by omega) ?_ | refine bs_t (by omega) ?_ | refine bs_f (by omega) ?_ | refine fun (K' : K3) hK' => ?_ | (refine hK' _ _ _ ?_; clear hK' K') | refine draw_auto tok mixed (by kernel_rfl) ?_ | with_reducible refine updK_tail hT rfl ?_ | with_reducible refine rmK_tail hT rfl ?_ | with_reducible refine visC_tail hT rfl ?_ | with_reducible refine relC_tail hT rfl ?_ | with_reducible refine updO_tail hT rfl ?_ | refine And.intro (Eq.refl oo) ?_ | refine bs_bt (Eq.refl true) ?_ | refine bs_bf (Eq.refl false) ?_ | refine br_bt (Eq.refl true) ?_ | refine br_bf (Eq.refl false) ?_ | refine CallK.m ?_ | refine Two.l ?_ | refine And.intro (And.intro rfl rfl) ?_)
        refine vc_ok tok ?_
        have hfam : (famS List.length 40 (sglL (fl.take m))).length = m := by rw [famS_len, sglL_len, List.length_take]; omega
        repeat ((conv => whnf); first | (refine And.intro (by first | omega | exact Nat.le_of_ble_eq_true rfl | (dsimp only [inK]; omega) | (simp only [mulS_eq]; omega) | (simp only [mulS_eq, setL_length]; omega) | (simp only [setL_length]; omega) | (simp only [setL_length, List.length_map]; omega) | (exact ⟨by omega, by omega, by first | exact Nat.le_of_ble_eq_true rfl | (dsimp only; omega) | (simp only [setL_length]; omega) | (simp only [setL_length, List.length_map]; omega)⟩) | (exact ⟨by omega, by first | rfl | omega, by omega, Nat.le_of_ble_eq_true rfl, Nat.le_of_ble_eq_true rfl⟩) | (exact ⟨rfl, rfl, rfl, Nat.le_of_ble_eq_true rfl, by first | rfl | omega | exact Nat.le_of_ble_eq_true rfl | (dsimp only; omega) | (simp; done) | (simp; omega), by first | rfl | omega | exact Nat.le_of_ble_eq_true rfl | (dsimp only; omega) | (simp; done) | (simp; omega), by omega, Nat.le_of_ble_eq_true rfl⟩) | exact Eq.refl true) ?_) | refine Exists.intro _ (And.intro rfl ?_) | refine And.intro (And.intro rfl (chk_rowI _ _ _ _)) ?_ | refine br_t (by omega) ?_ | refine br_f (by omega) ?_ | refine bs_t (by omega) ?_ | refine bs_f (by omega) ?_ | refine fun (K' : K3) hK' => ?_ | (refine hK' _ _ _ ?_; clear hK' K') | refine draw_auto tok mixed (by kernel_rfl) ?_ | with_reducible refine updK_tail hT rfl ?_ | with_reducible refine rmK_tail hT rfl ?_ | with_reducible refine visC_tail hT rfl ?_ | with_reducible refine relC_tail hT rfl ?_ | with_reducible refine updO_tail hT rfl ?_ | refine And.intro (Eq.refl ob) ?_ | refine bs_bt (Eq.refl true) ?_ | refine bs_bf (Eq.refl false) ?_ | refine br_bt (Eq.refl true) ?_ | refine br_bf (Eq.refl false) ?_ | refine CallK.m ?_ | refine Two.l ?_ | refine And.intro (And.intro rfl rfl) ?_)
        have htk := jobTk hlf
        have hsn := sglL_snoc (fl.take m) (fl.getD m (0, 0))
        rw [← htk] at hsn
        have hsl := sglL_len (fl.take m)
        have htl : (fl.take m).length = m := by rw [List.length_take]; omega
        have hT3 := tail_fam (kd := rowJ) (cs := jobC) (l := sglL (fl.take (m + 1))) (j := j) (by rw [sglL_len, List.length_take]; omega) hj20
        have hR : ∀ l, l < 39 → renL [(39, some 64), ((sglL (fl.take m)).length + 40, some 62)] l = some l := fun l hl => renL_two (by omega) (by omega)
        have hR2 : ∀ k, k < (sglL (fl.take m)).length → renL [(39, some 64), ((sglL (fl.take m)).length + 40, some 62)] (k + 40) = some (k + 40) := fun k hk => renL_two (by omega) (by omega)
        have hR3 : renL [(39, some 64), ((sglL (fl.take m)).length + 40, some 62)] ((sglL (fl.take m)).length + 40) = some 62 := renL_two2 (by omega)
        have hfs := famS_snoc (ln := List.length) (y := 62) (x := [fl.getD m (0, 0)]) hR2 hR3
        rw [← hsn] at hfs
        refine ⟨m + 1, [(39, some 64), ((sglL (fl.take m)).length + 40, some 62)], by omega, by omega, ?_⟩
        refine ⟨?_, ?_, inj_two (p := [_, _, _, _, _, _]) hT3 rfl (by simp) rfl rfl (by omega) (by simp) (by simp), rfl, by first | exact Nat.le_of_ble_eq_true rfl | omega⟩
        · repeat (first | exact trivial | (refine And.intro (covS_syn (by first | rfl | exact (rsl (hR _ (Nat.le_of_ble_eq_true rfl))).symm | exact (rptr (hR _ (Nat.le_of_ble_eq_true rfl))).symm | (refine congrArg some (congrArg V.i ?_); omega)) rfl (by first | exact trivial | exact Nat.le_of_ble_eq_true rfl | exact hy)) ?_))
        · repeat (first | ((rw [hsn]; exact covL_app (cov_snoc (d := []) plain_jobs (by omega) hR2 hR3 rfl (fun i' hi' => by (repeat rw [find_skip (by omega)]); exact tail_row hi')) (cov_ent (fun k hk => hR _ (by omega)) (by omega) (fun k hk => by (repeat rw [find_skip (by omega)]); exact tail_be hk hj20)))) | (refine And.intro (covE_some (l := 64) rfl (Nat.le_of_ble_eq_true rfl) (wf_famS _ _ _ (by rw [sglL_len, List.length_take]; omega)) rfl hfs) ?_) | refine And.intro (covE_some (hR _ (Nat.le_of_ble_eq_true rfl)) (Nat.le_of_ble_eq_true rfl) (wf_jobs _ _) rfl (ren_jobs _ _)) ?_ | (refine And.intro (covE_some (hR _ (Nat.le_of_ble_eq_true rfl)) (Nat.le_of_ble_eq_true rfl) (by first | exact wf_ints _ _ | exact wf_bools _ _ | first | exact wf_sls _ _ _ (by omega) | exact wf_jobs _ _ | exact wf_famS _ _ _ (by omega) | simp [C.wf]) rfl (by first | exact ren_ints _ _ | exact ren_sls_of (fun l hl => hR l (by omega)) (by omega) | exact ren_sl1 (hR _ (Nat.le_of_ble_eq_true rfl)) | rfl | rfl)) ?_))
      · obtain rfl : m = n := by omega
        have htk : fl.take m = fl := List.take_of_length_le (by omega)
        rw [htk] at hT ⊢
        repeat ((conv => whnf); first | (refine And.intro (by first | omega | exact Nat.le_of_ble_eq_true rfl | (dsimp only [inK]; omega) | (simp only [mulS_eq]; omega) | (simp only [mulS_eq, setL_length]; omega) | (simp only [setL_length]; omega) | (simp only [setL_length, List.length_map]; omega) | (exact ⟨by omega, by omega, by first | exact Nat.le_of_ble_eq_true rfl | (dsimp only; omega) | (simp only [setL_length]; omega) | (simp only [setL_length, List.length_map]; omega)⟩) | (exact ⟨by omega, by first | rfl | omega, by omega, Nat.le_of_ble_eq_true rfl, Nat.le_of_ble_eq_true rfl⟩) | (exact ⟨rfl, rfl, rfl, Nat.le_of_ble_eq_true rfl, by first | rfl | omega | exact Nat.le_of_ble_eq_true rfl | (dsimp only; omega) | (simp; done) | (simp; omega), by first | rfl | omega | exact Nat.le_of_ble_eq_true rfl | (dsimp only; omega) | (simp; done) | (simp; omega), by omega, Nat.le_of_ble_eq_true rfl⟩) | exact Eq.refl true) ?_) | refine Exists.intro _ (And.intro rfl ?_) | refine And.intro (And.intro rfl (chk_rowI _ _ _ _)) ?_ | refine br_t (by omega) ?_ | refine br_f (by omega) ?_ | refine bs_t (by omega) ?_ | refine bs_f (by omega) ?_ | refine fun (K' : K3) hK' => ?_ | (refine hK' _ _ _ ?_; clear hK' K') | refine draw_auto tok mixed (by kernel_rfl) ?_ | refine bs_bt (Eq.refl true) ?_ | refine bs_bf (Eq.refl false) ?_ | refine br_bt (Eq.refl true) ?_ | refine br_bf (Eq.refl false) ?_ | refine CallK.m ?_ | refine Two.l ?_ | refine And.intro (And.intro rfl rfl) ?_)
        refine Or.inl ?_
        repeat ((conv => whnf); first | (refine And.intro (by first | omega | exact Nat.le_of_ble_eq_true rfl | (dsimp only [inK]; omega) | (simp only [mulS_eq]; omega) | (simp only [mulS_eq, setL_length]; omega) | (simp only [setL_length]; omega) | (simp only [setL_length, List.length_map]; omega) | (exact ⟨by omega, by omega, by first | exact Nat.le_of_ble_eq_true rfl | (dsimp only; omega) | (simp only [setL_length]; omega) | (simp only [setL_length, List.length_map]; omega)⟩) | (exact ⟨by omega, by first | rfl | omega, by omega, Nat.le_of_ble_eq_true rfl, Nat.le_of_ble_eq_true rfl⟩) | (exact ⟨rfl, rfl, rfl, Nat.le_of_ble_eq_true rfl, by first | rfl | omega | exact Nat.le_of_ble_eq_true rfl | (dsimp only; omega) | (simp; done) | (simp; omega), by first | rfl | omega | exact Nat.le_of_ble_eq_true rfl | (dsimp only; omega) | (simp; done) | (simp; omega), by omega, Nat.le_of_ble_eq_true rfl⟩) | exact Eq.refl true) ?_) | refine Exists.intro _ (And.intro rfl ?_) | refine And.intro (And.intro rfl (chk_rowI _ _ _ _)) ?_ | refine br_t (by omega) ?_ | refine br_f (by omega) ?_ | refine bs_t (by omega) ?_ | refine bs_f (by omega) ?_ | refine fun (K' : K3) hK' => ?_ | (refine hK' _ _ _ ?_; clear hK' K') | refine draw_auto tok mixed (by kernel_rfl) ?_ | refine And.intro (Eq.refl oo) ?_ | with_reducible refine updK_tail hT rfl ?_ | with_reducible refine rmK_tail hT rfl ?_ | with_reducible refine visC_tail hT rfl ?_ | with_reducible refine relC_tail hT rfl ?_ | with_reducible refine updO_tail hT rfl ?_ | refine bs_bt (Eq.refl true) ?_ | refine bs_bf (Eq.refl false) ?_ | refine br_bt (Eq.refl true) ?_ | refine br_bf (Eq.refl false) ?_ | refine CallK.m ?_ | refine Two.l ?_ | refine And.intro (And.intro rfl rfl) ?_)
        exact .inr ⟨39, congrArg (C.sl 39) (hn.trans (sglL_len fl).symm), rfl, fun k hk => by (repeat rw [find_skip (by omega)]); exact tail_row hk⟩
end Go.Proofs.Ytjijjncddjkdlaa

/- The pairs' bound is below the harm of each order; jobs turned round have the same harm backwards. Plain law. -/
namespace Go.Proofs.Ytjijjncddjkdlaa
open Go.RowKit
set_option linter.unusedVariables false
set_option linter.unusedSimpArgs false
theorem sum_getD {α : Type} {F : α → Int} {d : α} : ∀ {l : List α}, sumZ l.length (fun i => F (l.getD i d)) = (l.map F).sum := by
  intro l
  have key : ∀ n, n ≤ l.length → sumZ n (fun i => F (l.getD i d)) = ((l.take n).map F).sum := by
    intro n
    induction n with
    | zero => intro _; rfl
    | succ n ih =>
      intro h
      rw [take_succ_getD (d := d) (by omega), List.map_append, List.sum_append]
      simp only [sumZ, ih (by omega)]
      simp
  rw [key l.length (Nat.le_refl _), List.take_length]
theorem sumZ_add {n : Nat} {F G : Nat → Int} : sumZ n (fun i => F i + G i) = sumZ n F + sumZ n G := by
  induction n with
  | zero => rfl
  | succ n ih => simp only [sumZ, ih]; omega
theorem sumZ_comm {n m : Nat} {F : Nat → Nat → Int} : sumZ n (fun i => sumZ m (fun k => F i k)) = sumZ m (fun k => sumZ n (fun i => F i k)) := by
  induction n with
  | zero => simp only [sumZ]; exact sumZ_zero.symm
  | succ n ih => simp only [sumZ, ih, sumZ_add]
def minJ (x y : Job) : Int := if y.1 * x.2 < x.1 * y.2 then y.1 * x.2 else x.1 * y.2
theorem minJ_comm (x y : Job) : minJ x y = minJ y x := by
  unfold minJ
  split <;> split <;> omega
theorem minJ_le (x y : Job) : minJ x y ≤ x.1 * y.2 := by unfold minJ; split <;> omega
def P1 (x : Job) (m : List Job) : Int := (m.map (minJ x)).sum
def PP (l m : List Job) : Int := (l.map fun x => P1 x m).sum
theorem P1_le (x : Job) (m : List Job) : P1 x m ≤ x.1 * wS m := by
  induction m with
  | nil => simp [P1, wS]
  | cons y m ih =>
    have := minJ_le x y
    simp only [P1, List.map_cons, List.sum_cons, wS_cons] at *
    rw [Int.mul_add]; omega
theorem PP_cons (x : Job) (l m : List Job) : PP (x :: l) m = P1 x m + PP l m := by simp [PP]
theorem PP_cons' (l : List Job) (y : Job) (m : List Job) : PP l (y :: m) = P1 y l + PP l m := by
  induction l with
  | nil => simp [PP, P1]
  | cons x l ih =>
    rw [PP_cons, PP_cons, ih]
    simp only [P1, List.map_cons, List.sum_cons]
    rw [minJ_comm x y]; omega
/-- The bound of what is left. -/
def BR (j : Coast) (f : Nat → Nat) : Int := sumZ j.length fun b => costS 0 (remC j f b) + sumZ b fun c => PP (remC j f b) (remC j f c)
theorem tri_same {n c : Nat} {G G' : Nat → Nat → Int} (h : ∀ b d, d < b → b ≠ c → d ≠ c → G b d = G' b d) (hn : n ≤ c) : sumZ n (fun b => sumZ b (G b)) = sumZ n (fun b => sumZ b (G' b)) :=
  sumZ_congr fun b hb => sumZ_congr fun d hd => h b d hd (by omega) (by omega)
theorem tri_diff {c : Nat} {G G' : Nat → Nat → Int} {e : Nat → Int} (h : ∀ b d, d < b → b ≠ c → d ≠ c → G b d = G' b d) (h1 : ∀ d, d < c → G c d = G' c d + e d) (h2 : ∀ b, c < b → G b c = G' b c + e b) : ∀ {n : Nat}, c < n → sumZ n (fun b => sumZ b (G b)) = sumZ n (fun b => sumZ b (G' b)) + sumZ n (fun d => if d = c then 0 else e d)
  | n + 1, hn => by
    simp only [sumZ]
    by_cases hc : c = n
    · subst hc
      rw [tri_same h (Nat.le_refl _), if_pos rfl]
      have e1 : sumZ c (G c) = sumZ c (fun d => G' c d + e d) := sumZ_congr fun d hd => h1 d hd
      have e2 : sumZ c (fun d => if d = c then 0 else e d) = sumZ c e := sumZ_congr fun d hd => by rw [if_neg (by omega)]
      rw [e1, sumZ_add, e2]
      omega
    · have ih := tri_diff h h1 h2 (n := n) (by omega)
      have e1 : sumZ n (G n) = sumZ n (G' n) + e n := sumZ_upd (c := c) (by omega) (h2 n (by omega)) (fun d hd hne => h n d hd (fun e => hc e.symm) hne)
      rw [ih, e1, if_neg (fun e => hc e.symm)]
      omega
theorem wS_jobsF {j : Coast} : ∀ {o : List Nat} {f : Nat → Nat}, OrdF j f o → wS (jobsF j f o) = sumZ j.length fun b => wS (remC j f b)
  | [], f, ho => by
    have : sumZ j.length (fun b => wS (remC j f b)) = sumZ j.length (fun _ => 0) := sumZ_congr fun b hb => by
      have := ho.remLen hb
      rw [List.count_nil] at this
      rw [List.length_eq_zero_iff.1 this]; rfl
    rw [this, sumZ_zero]; rfl
  | c :: o, f, ho => by
    have ih := wS_jobsF ho.tail
    have hcl := ho.lt c (by simp)
    simp only [jobsF, wS_cons, ih]
    rw [sumZ_upd (F := fun b => wS (remC j f b)) (G := fun b => wS (remC j (upd f c 1) b)) (c := c) (d := ((j.getD c []).getD (f c) (0, 0)).2) hcl]
    · omega
    · rw [ho.head, wS_cons]; omega
    · intro b _ hne
      rw [remC_upd_ne hne]
theorem bound_le {j : Coast} (hp : ∀ c, c < j.length → ∀ x ∈ j.getD c [], 0 ≤ x.1 ∧ 0 ≤ x.2) : ∀ {o : List Nat} {f : Nat → Nat}, OrdF j f o → BR j f ≤ costS 0 (jobsF j f o)
  | [], f, ho => by
    have hnil : ∀ b, b < j.length → remC j f b = [] := fun b hb => by
      have := ho.remLen hb
      rw [List.count_nil] at this
      exact List.length_eq_zero_iff.1 this
    have : BR j f = sumZ j.length (fun _ => 0) := by
      unfold BR
      refine sumZ_congr fun b hb => ?_
      rw [hnil b hb]
      have e : sumZ b (fun c => PP [] (remC j f c)) = sumZ b (fun _ => 0) := sumZ_congr fun c _ => rfl
      rw [e, sumZ_zero]; rfl
    rw [this, sumZ_zero]; simp [jobsF, costS]
  | c :: o, f, ho => by
    have ih := bound_le hp ho.tail
    have hcl := ho.lt c (by simp)
    have hhd := ho.head
    have hw := wS_jobsF ho.tail
    obtain ⟨x, hx⟩ : ∃ x, x = (j.getD c []).getD (f c) (0, 0) := ⟨_, rfl⟩
    rw [← hx] at hhd
    have hx0 : 0 ≤ x.1 ∧ 0 ≤ x.2 := by
      refine hp c hcl x ?_
      have : x ∈ remC j f c := by rw [hhd]; simp
      exact List.mem_of_mem_drop this
    simp only [jobsF, costS]
    rw [← hx]
    rw [show (0 : Int) + x.1 = 0 + x.1 from rfl, costS_shift 0 x.1]
    have hB : BR j f = BR j (upd f c 1) + (x.2 * (0 + x.1) + x.1 * wS (remC j (upd f c 1) c)) + sumZ j.length (fun d => if d = c then 0 else P1 x (remC j f d)) := by
      unfold BR
      rw [sumZ_add, sumZ_add]
      have e1 : sumZ j.length (fun b => costS 0 (remC j f b)) = sumZ j.length (fun b => costS 0 (remC j (upd f c 1) b)) + (x.2 * (0 + x.1) + x.1 * wS (remC j (upd f c 1) c)) := by
        refine sumZ_upd hcl ?_ (fun b _ hne => by rw [remC_upd_ne hne])
        rw [hhd]
        simp only [costS]
        rw [costS_shift 0 x.1]
        omega
      have e2 := tri_diff (n := j.length) (c := c) (G := fun b d => PP (remC j f b) (remC j f d)) (G' := fun b d => PP (remC j (upd f c 1) b) (remC j (upd f c 1) d)) (e := fun d => P1 x (remC j f d))
        (fun b d _ hb hd => by rw [remC_upd_ne hb, remC_upd_ne hd])
        (fun d hd => by rw [hhd, PP_cons, remC_upd_ne (show d ≠ c by omega)]; omega)
        (fun b hb => by rw [hhd, PP_cons', remC_upd_ne (show b ≠ c by omega)]; omega) hcl
      rw [e1, e2]
      omega
    have hP : sumZ j.length (fun d => if d = c then 0 else P1 x (remC j f d)) + x.1 * wS (remC j (upd f c 1) c) ≤ x.1 * sumZ j.length (fun b => wS (remC j (upd f c 1) b)) := by
      have e3 : x.1 * sumZ j.length (fun b => wS (remC j (upd f c 1) b)) = sumZ j.length (fun b => x.1 * wS (remC j (upd f c 1) b)) := by
        generalize j.length = n
        induction n with
        | zero => simp [sumZ]
        | succ n ih2 => simp only [sumZ, Int.mul_add, ih2]
      rw [e3]
      have e4 : sumZ j.length (fun b => if b = c then x.1 * wS (remC j (upd f c 1) c) else P1 x (remC j f b)) = sumZ j.length (fun d => if d = c then 0 else P1 x (remC j f d)) + x.1 * wS (remC j (upd f c 1) c) :=
        sumZ_upd hcl (by simp) (fun b _ hne => by rw [if_neg hne, if_neg hne])
      rw [← e4]
      refine sumZ_le fun b hb => ?_
      split
      · next h => rw [h]; exact Int.le_refl _
      · next h => rw [← remC_upd_ne (k := 1) h]; exact P1_le _ _
    rw [hB, hw]
    rw [hw] at *
    omega
theorem boundO_BR (j : Coast) : boundO j = BR j (fun _ => 0) := by
  unfold boundO BR
  refine sumZ_congr fun b hb => ?_
  have hr : ∀ c, remC j (fun _ => 0) c = j.getD c [] := fun c => by simp [remC]
  rw [hr b]
  simp only [hr]
  unfold beachF rowF
  rw [sumZ_add]
  congr 1
  · -- within a beach
    have key : ∀ (l : List Job), sumZ l.length (fun i => sumZ (l.length - i) (fun k => (l.getD i (0, 0)).1 * (l.getD (i + k) (0, 0)).2)) = costS 0 l := by
      intro l
      induction l with
      | nil => rfl
      | cons x l ih =>
        have shift : ∀ (n : Nat) (F : Nat → Int), sumZ (n + 1) F = F 0 + sumZ n (fun i => F (i + 1)) := by
          intro n F
          induction n with
          | zero => simp [sumZ]
          | succ n ih => rw [sumZ, ih]; simp only [sumZ]; omega
        rw [List.length_cons, shift]
        simp only [costS]
        rw [costS_shift 0 x.1, ← ih]
        have e1 : sumZ l.length (fun i => sumZ (l.length + 1 - (i + 1)) (fun k => ((x :: l).getD (i + 1) (0, 0)).1 * ((x :: l).getD (i + 1 + k) (0, 0)).2)) = sumZ l.length (fun i => sumZ (l.length - i) (fun k => (l.getD i (0, 0)).1 * (l.getD (i + k) (0, 0)).2)) := by
          refine sumZ_congr fun i hi => ?_
          rw [show l.length + 1 - (i + 1) = l.length - i by omega]
          refine sumZ_congr fun k hk => ?_
          rw [List.getD_cons_succ, show i + 1 + k = (i + k) + 1 by omega, List.getD_cons_succ]
        have e2 : sumZ (l.length + 1 - 0) (fun k => ((x :: l).getD 0 (0, 0)).1 * ((x :: l).getD (0 + k) (0, 0)).2) = x.2 * (0 + x.1) + x.1 * wS l := by
          rw [Nat.sub_zero, shift]
          have e3 : sumZ l.length (fun i => ((x :: l).getD 0 (0, 0)).1 * ((x :: l).getD (0 + (i + 1)) (0, 0)).2) = sumZ l.length (fun i => x.1 * (l.getD i (0, 0)).2) := sumZ_congr fun i hi => by
            rw [Nat.zero_add, List.getD_cons_succ]; rfl
          have e4 : sumZ l.length (fun i => x.1 * (l.getD i (0, 0)).2) = (l.map fun y => x.1 * y.2).sum := sum_getD (F := fun y : Job => x.1 * y.2)
          have e5 : (l.map fun y => x.1 * y.2).sum = x.1 * wS l := by
            clear ih e1 e3 e4
            induction l with
            | nil => simp [wS]
            | cons y l ih => simp only [List.map_cons, List.sum_cons, wS_cons, ih, Int.mul_add]
          rw [e3, e4, e5]
          show x.1 * x.2 + x.1 * wS l = x.2 * (0 + x.1) + x.1 * wS l
          rw [Int.zero_add, Int.mul_comm]
        rw [e1, e2]
        omega
    exact key (j.getD b [])
  · rw [sumZ_comm]
    refine sumZ_congr fun c hc => ?_
    have e1 : PP (j.getD b []) (j.getD c []) = sumZ (j.getD b []).length (fun i => P1 ((j.getD b []).getD i (0, 0)) (j.getD c [])) := (sum_getD (F := fun x => P1 x (j.getD c []))).symm
    rw [e1]
    refine sumZ_congr fun i hi => ?_
    exact sum_getD (F := minJ ((j.getD b []).getD i (0, 0)))
theorem CoastOk.pos {j : Coast} (hj : CoastOk j) : ∀ c, c < j.length → ∀ x ∈ j.getD c [], 0 ≤ x.1 ∧ 0 ≤ x.2 := fun c hc x hx => by
  have := (hj.jobs c hc).1.mem hx; omega
theorem bound_least {j : Coast} (hj : CoastOk j) : boundO j ≤ leastO j := by
  unfold leastO
  rw [harm_costS, boundO_BR]
  exact bound_le hj.pos (bestO_ord hj)
/-- Turned round. -/
theorem turnJ_len {j : Coast} : (turnJ j).length = j.length := turnL_len
theorem tpart_full (l : List Job) : tpart l l.length = l.reverse.map swapJ := by
  unfold tpart
  rw [List.take_of_length_le (by simp)]
theorem turnJ_get {j : Coast} {b : Nat} (hb : b < j.length) : (turnJ j).getD b [] = (j.getD b []).reverse.map swapJ := by
  unfold turnJ; rw [turnL_get hb, if_pos hb, tpart_full]
theorem swapJ_swapJ (l : List Job) : (l.map swapJ).map swapJ = l := by
  rw [List.map_map]
  have : swapJ ∘ swapJ = id := by funext x; rfl
  rw [this, List.map_id]
theorem turnJ_turnJ (j : Coast) : turnJ (turnJ j) = j := by
  apply List.ext_getElem (by rw [turnJ_len, turnJ_len])
  intro b h1 h2
  have e := turnJ_get (j := turnJ j) (b := b) (by rw [turnJ_len]; exact h2)
  rw [turnJ_get h2, getD_lt h1, getD_lt h2] at e
  rw [e, ← List.map_reverse, List.reverse_reverse, swapJ_swapJ]
theorem cost_turn (l : List Job) : costS 0 (l.reverse.map swapJ) = costS 0 l := by
  induction l with
  | nil => rfl
  | cons x l ih =>
    rw [List.reverse_cons, List.map_append, costS_app, ih]
    simp only [List.map_cons, List.map_nil, costS]
    rw [costS_shift 0 x.1]
    have e : hS (l.reverse.map swapJ) = wS l := by
      clear ih
      induction l with
      | nil => rfl
      | cons y l ih => rw [List.reverse_cons, List.map_append, hS_app, ih, wS_cons]; simp [hS, swapJ]; omega
    rw [e]
    simp only [swapJ]
    grind
theorem jobs_turn {j : Coast} : ∀ {o : List Nat} {f : Nat → Nat}, OrdF j f o → jobsF (turnJ j) (fun _ => 0) o.reverse = (jobsF j f o).reverse.map swapJ
  | [], f, _ => rfl
  | c :: o, f, ho => by
    have ih := jobs_turn ho.tail
    have hcl := ho.lt c (by simp)
    have hcn := ho.cnt c hcl
    rw [List.count_cons_self] at hcn
    rw [List.reverse_cons, jobsF_app, ih]
    simp only [jobsF, List.reverse_cons, List.map_append]
    congr 1
    simp only [List.map_cons, List.map_nil, List.cons.injEq, and_true]
    have hr : o.reverse.count c = o.count c := List.count_reverse
    rw [turnJ_get hcl, hr, Nat.zero_add]
    have hlt : f c < (j.getD c []).length := by omega
    rw [getD_lt (by rw [List.length_map, List.length_reverse]; omega), getD_lt hlt, List.getElem_map, List.getElem_reverse]
    congr 2
    omega
theorem ord_turn {j : Coast} {o : List Nat} (ho : OrdF j (fun _ => 0) o) : OrdF (turnJ j) (fun _ => 0) o.reverse := by
  refine ⟨fun x hx => by rw [turnJ_len]; exact ho.lt x (List.mem_reverse.1 hx), fun b hb => ?_⟩
  rw [turnJ_len] at hb
  rw [List.count_reverse, turnJ_get hb, List.length_map, List.length_reverse]
  exact ho.cnt b hb
theorem harm_turn {j : Coast} {o : List Nat} (ho : OrdF j (fun _ => 0) o) : costS 0 (jobsF (turnJ j) (fun _ => 0) o.reverse) = costS 0 (jobsF j (fun _ => 0) o) := by
  rw [jobs_turn ho, cost_turn]
theorem turn_valid {j : Coast} (hv : validL j = true) (hh : harmful j = true) : validL (turnJ j) = true := by
  have hc := hv
  simp only [validL, Bool.and_eq_true, decide_eq_true_eq] at hc
  obtain ⟨⟨h1, h2⟩, h3⟩ := hc
  have hlen : ∀ b, b < j.length → ((turnJ j).getD b []).length = (j.getD b []).length := fun b hb => by rw [turnJ_get hb]; simp
  refine validL_ok (fun b hb m hm => ?_) (by rw [turnJ_len]; omega) ?_
  · rw [turnJ_len] at hb
    rw [hlen b hb] at hm
    rw [turnJ_get hb, getD_lt (by rw [List.length_map, List.length_reverse]; exact hm), List.getElem_map, List.getElem_reverse]
    have e : j.getD b [] = j[b] := getD_lt hb
    have hg := List.all_eq_true.1 h1 _ (List.getElem_mem hb)
    have hh1 := List.all_eq_true.1 (List.all_eq_true.1 hh _ (List.getElem_mem hb))
    rw [← e] at hg hh1
    have hmem : (j.getD b [])[(j.getD b []).length - 1 - m]'(by omega) ∈ j.getD b [] := List.getElem_mem _
    generalize (j.getD b [])[(j.getD b []).length - 1 - m]'(by omega) = x at hmem
    have hx := hh1 x hmem
    simp only [decide_eq_true_eq] at hx
    have hb2 : jobBad x = false := Bool.eq_false_iff.2 fun h5 => by
      have : (j.getD b []).any jobBad = true := List.any_eq_true.2 ⟨_, hmem, h5⟩
      rw [this] at hg; cases hg
    simp only [jobBad, Bool.or_eq_false_iff, Bool.not_eq_false', decide_eq_true_eq] at hb2
    refine bad_false ?_
    simp only [swapJ]
    omega
  · have key : ∀ k, k ≤ j.length → manyN (turnJ j) k = manyN j k := by
      intro k
      induction k with
      | zero => intro _; simp [manyN]
      | succ k ih =>
        intro hk
        rw [manyN_succ (by rw [turnJ_len]; omega), manyN_succ (by omega), ih (by omega), hlen k (by omega)]
    rw [turnJ_len, key j.length (Nat.le_refl _)]
    omega
theorem turn_sized {j : Coast} (hj : Sized j) : Sized (turnJ j) :=
  ⟨by rw [turnJ_len]; exact hj.len, fun k hk => by rw [turnJ_len] at hk; rw [turnJ_get hk, List.length_map, List.length_reverse]; exact hj.be k hk⟩
theorem turn_least {j : Coast} (hc : CoastOk j) (ht : CoastOk (turnJ j)) : leastO (turnJ j) = leastO j := by
  unfold leastO
  rw [harm_costS, harm_costS]
  have h1 := bestO_least ht (ord_turn (bestO_ord hc))
  rw [harm_turn (bestO_ord hc)] at h1
  have h2o := ord_turn (bestO_ord ht)
  rw [turnJ_turnJ] at h2o
  have h2 := bestO_least hc h2o
  have h3 := harm_turn (bestO_ord ht)
  rw [turnJ_turnJ] at h3
  omega
end Go.Proofs.Ytjijjncddjkdlaa

/- Shore: lists backwards; calls on beaches turned round. -/
namespace Go.Proofs.Ytjijjncddjkdlaa
open Go.RowKit
set_option linter.unusedVariables false
set_option linter.unusedSimpArgs false
/-- Names of beaches that lie as rows of one's own. -/
def turR (lab oa n B : Nat) : Rn := (0, some lab) :: (21, some oa) :: shiftR 1 B n
theorem turR_be {lab oa n B i : Nat} (hi : i < n) (hn : n ≤ 20) : renL (turR lab oa n B) (1 + i) = some (i + B) := by
  simp only [turR, renL, beq_ne (show 0 ≠ 1 + i by omega), beq_ne (show 21 ≠ 1 + i by omega), cond_false]
  rw [renL_shift, if_pos (by omega)]
  congr 1; omega
theorem turR_sls {lab oa n B : Nat} (hn : n ≤ 20) : ∀ {m : Nat} {t : Coast}, m + t.length ≤ n → seqO ((slsC (1 + m) t).map (C.ren (turR lab oa n B))) = some (famS List.length (m + B) t)
  | m, [], _ => rfl
  | m, x :: r, h => by
    simp only [List.length_cons] at h
    have ih := turR_sls (lab := lab) (oa := oa) (B := B) hn (m := m + 1) (t := r) (by omega)
    simp only [slsC, List.map_cons, C.ren, turR_be (show m < n by omega) hn, seqO, famS]
    rw [show 1 + m + 1 = 1 + (m + 1) by omega, ih, show m + 1 + B = m + B + 1 by omega]
structure HasT (L : List E) (lab B : Nat) (t : Coast) : Prop where
  sl : find L lab = some ⟨lab, .vec 31 1, famS List.length B t⟩
  be : ∀ i, i < t.length → find L (i + B) = some ⟨i + B, rowJ, jobC (t.getD i [])⟩
theorem HasT.ro {L : List E} {lab B oa : Nat} {t : Coast} {o : List Int} {ko : Kd} (h : HasT L lab B t) (ht : Sized t) (ho : find L oa = some ⟨oa, ko, o.map C.i⟩) : roL (turR lab oa t.length B) 32 L (⟨0, .ro 1, slsC 1 t⟩ :: ⟨21, .ro 0, o.map C.i⟩ :: entC 1 t) := by
  have := ht.len
  have hs := turR_sls (lab := lab) (oa := oa) (B := B) ht.len (m := 0) (t := t) (by omega)
  rw [Nat.zero_add] at hs
  refine ⟨⟨Nat.le_of_ble_eq_true rfl, wf_sls _ _ _ (by omega), .vec 31 1, _, h.sl, .inr rfl, hs⟩, ⟨Nat.le_of_ble_eq_true rfl, wf_ints _ _, ko, _, ho, .inl rfl, ren_ints _ _⟩, roL_all fun e he => ?_⟩
  obtain ⟨i, hi, rfl⟩ := entC_mem he
  unfold roE
  simp only [turR_be hi ht.len]
  exact ⟨by omega, wf_jobs _ _, rowJ, _, h.be i hi, .inr rfl, ren_jobs _ _⟩
theorem HasT.ro0 {L : List E} {lab B : Nat} {t : Coast} (h : HasT L lab B t) (ht : Sized t) : roL (turR lab 0 t.length B) 32 L (⟨0, .ro 1, slsC 1 t⟩ :: entC 1 t) := by
  have := ht.len
  have hs := turR_sls (lab := lab) (oa := 0) (B := B) ht.len (m := 0) (t := t) (by omega)
  rw [Nat.zero_add] at hs
  refine ⟨⟨Nat.le_of_ble_eq_true rfl, wf_sls _ _ _ (by omega), .vec 31 1, _, h.sl, .inr rfl, hs⟩, roL_all fun e he => ?_⟩
  obtain ⟨i, hi, rfl⟩ := entC_mem he
  unfold roE
  simp only [turR_be hi ht.len]
  exact ⟨by omega, wf_jobs _ _, rowJ, _, h.be i hi, .inr rfl, ren_jobs _ _⟩
end Go.Proofs.Ytjijjncddjkdlaa

/- Shore: the reference's Same, where both lists are the same. -/
namespace Go.Proofs.Ytjijjncddjkdlaa
open Go.RowKit
set_option linter.unusedVariables false
set_option linter.unusedSimpArgs false
theorem two_1 {j : Coast} {k : Nat} (hk : k < j.length) : find (entC 1 j ++ entC 22 j) (1 + k) = some ⟨1 + k, .ro 2, jobC (j.getD k [])⟩ := find_app_some (entC_find hk)
theorem two_2 {j : Coast} {k : Nat} (hk : k < j.length) (hj : j.length ≤ 20) : find (entC 1 j ++ entC 22 j) (22 + k) = some ⟨22 + k, .ro 2, jobC (j.getD k [])⟩ := by
  rw [find_app (fun e he => ?_)]
  · exact entC_find hk
  · obtain ⟨i, hi, rfl⟩ := entC_mem he
    simp only; omega
theorem slLb {b : Nat} {j : Coast} {k : Nat} {z : Int} (hz : z = k) (h : k < j.length) : (slsC b j)[mulS z.toNat 1]? = some (C.sl (b + k) (j.getD k []).length) := by
  subst hz; rw [mulS_eq]; simpa using slsC_get h
theorem inj_same {j : Coast} (hj : j.length ≤ 20) : injB [] (⟨0, .ro 1, slsC 1 j⟩ :: ⟨21, .ro 1, slsC 22 j⟩ :: (entC 1 j ++ entC 22 j)) = true := by
  refine injB_gen (by simp) ?_ (by simp)
  simp only [List.map_cons, List.map_append, entC_labs, List.nodup_cons, List.mem_cons, List.mem_append, List.mem_range'_1]
  refine ⟨by omega, by omega, List.nodup_append.2 ⟨range_nd _ _, range_nd _ _, fun a ha b hb => ?_⟩⟩
  have := List.mem_range'_1.1 ha
  have := List.mem_range'_1.1 hb
  omega
theorem cov_same {j : Coast} {x y : E} (hj : j.length ≤ 20) (hx : x.lab = 0) (hy : y.lab = 21) : covL [] 43 (x :: y :: (entC 1 j ++ entC 22 j)) (entC 1 j ++ entC 22 j) := by
  obtain ⟨lx, kx, cx⟩ := x
  obtain ⟨ly, ky, cy⟩ := y
  simp only at hx hy
  subst hx hy
  refine covL_app (cov_ent (fun k hk => rfl) (by omega) fun k hk => ?_) (cov_ent (fun k hk => rfl) (by omega) fun k hk => ?_)
  · rw [find_skip (by omega), find_skip (by omega)]; exact two_1 hk
  · rw [find_skip (by omega), find_skip (by omega)]; exact two_2 hk hj
set_option maxHeartbeats 2000000 in
set_option maxRecDepth 100000 in
theorem same_spec (j : Coast) (hj : Sized j) (hl : ∀ b, b < j.length → (j.getD b []).length ≤ 100) : Spec Try.prog 44 [V.c (.sl 0 j.length), V.c (.sl 21 j.length)] (⟨0, .ro 1, slsC 1 j⟩ :: ⟨21, .ro 1, slsC 22 j⟩ :: (entC 1 j ++ entC 22 j)) 43 (Is (V.c (.bool true))) := by
  have hj20 := hj.len
  have hs1 := slsC_len (b := 1) (j := j)
  have hs2 := slsC_len (b := 22) (j := j)
  have hne : ¬ ((j.length : Nat) : Int) ≠ (j.length : Nat) := fun h => h rfl
  refine Spec.of tok Try.func44 rfl rfl rfl fun n0 cx => vc_ok tok ?_
  repeat ((conv => whnf); first | (refine And.intro (by first | omega | exact Nat.le_of_ble_eq_true rfl | (dsimp only [inK]; omega) | (simp only [mulS_eq]; omega) | (simp only [mulS_eq, setL_length]; omega) | (simp only [setL_length]; omega) | (simp only [setL_length, List.length_map]; omega) | (exact ⟨by omega, by omega, by first | exact Nat.le_of_ble_eq_true rfl | (dsimp only; omega) | (simp only [setL_length]; omega) | (simp only [setL_length, List.length_map]; omega)⟩) | (exact ⟨by omega, by first | rfl | omega, by omega, Nat.le_of_ble_eq_true rfl, Nat.le_of_ble_eq_true rfl⟩) | (exact ⟨rfl, rfl, rfl, Nat.le_of_ble_eq_true rfl, by first | rfl | omega | exact Nat.le_of_ble_eq_true rfl | (dsimp only; omega) | (simp; done) | (simp; omega), by first | rfl | omega | exact Nat.le_of_ble_eq_true rfl | (dsimp only; omega) | (simp; done) | (simp; omega), by omega, Nat.le_of_ble_eq_true rfl⟩) | exact Eq.refl true) ?_) | refine Exists.intro _ (And.intro rfl ?_) | refine And.intro (And.intro rfl (chk_rowI _ _ _ _)) ?_ | refine br_t (by omega) ?_ | refine br_f (by omega) ?_ | refine bs_t (by omega) ?_ | refine bs_f (by omega) ?_ | refine fun (K' : K3) hK' => ?_ | (refine hK' _ _ _ ?_; clear hK' K') | refine draw_auto tok mixed (by kernel_rfl) ?_ | refine bs_f hne ?_ | refine br_f hne ?_ | refine bs_bt (Eq.refl true) ?_ | refine bs_bf (Eq.refl false) ?_ | refine br_bt (Eq.refl true) ?_ | refine br_bf (Eq.refl false) ?_ | refine CallK.m ?_ | refine Two.l ?_ | refine And.intro (And.intro rfl rfl) ?_)
  refine Tri.loop (γ := Nat) (fun b => b ≤ j.length) (fun b => [(0, V.c (.sl 0 j.length)), (1, V.c (.sl 21 j.length)), (5, V.i (b : Nat))])
    (fun b => ⟨0, .ro 1, slsC 1 j⟩ :: ⟨21, .ro 1, slsC 22 j⟩ :: (entC 1 j ++ entC 22 j)) 43 (fun b => j.length - b) 0 (R0 := []) ?_ ?_ ?_
  · omega
  · have hI : injB [] (⟨0, .ro 1, slsC 1 j⟩ :: ⟨21, .ro 1, slsC 22 j⟩ :: (entC 1 j ++ entC 22 j)) = true := inj_same hj20
    have hcv := cov_same (j := j) (x := ⟨0, .ro 1, slsC 1 j⟩) (y := ⟨21, .ro 1, slsC 22 j⟩) hj20 rfl rfl
    refine ⟨?_, ?_, hI, rfl, by first | exact Nat.le_of_ble_eq_true rfl | omega⟩
    · repeat (first | exact trivial | (refine And.intro (covS_syn (by first | rfl | exact (rsl (hR _ (Nat.le_of_ble_eq_true rfl))).symm | exact (rptr (hR _ (Nat.le_of_ble_eq_true rfl))).symm) rfl (by first | exact trivial | exact Nat.le_of_ble_eq_true rfl | exact hy)) ?_))
    · repeat (first | exact hcv | refine And.intro (covE_some (l := 21) rfl (Nat.le_of_ble_eq_true rfl) (wf_sls _ _ _ (by omega)) rfl seqO_id) ?_ | refine And.intro (covE_some (l := 0) rfl (Nat.le_of_ble_eq_true rfl) (wf_sls _ _ _ (by omega)) rfl seqO_id) ?_ | (refine And.intro (covE_some (hR _ (Nat.le_of_ble_eq_true rfl)) (Nat.le_of_ble_eq_true rfl) (by first | exact wf_ints _ _ | exact wf_bools _ _ | first | exact wf_sls _ _ _ (by omega) | exact wf_jobs _ _ | exact wf_famS _ _ _ (by omega) | simp [C.wf]) rfl (by first | exact ren_ints _ _ | exact ren_sls_of (fun l hl => hR l (by omega)) (by omega) | exact ren_sl1 (hR _ (Nat.le_of_ble_eq_true rfl)) | fail | rfl)) ?_))
  · intro b hb
    refine vc_ok tok ?_
    by_cases hlt : b < j.length
    · have hjl := jobC_len (j.getD b [])
      have hbl := hl b hlt
      have hne2 : ¬ (((j.getD b []).length : Nat) : Int) ≠ ((j.getD b []).length : Nat) := fun h => h rfl
      have hf1 := two_1 (j := j) hlt
      have hf2 := two_2 (j := j) hlt hj20
      repeat ((conv => whnf); first | (refine And.intro (by first | omega | exact Nat.le_of_ble_eq_true rfl | (dsimp only [inK]; omega) | (simp only [mulS_eq]; omega) | (simp only [mulS_eq, setL_length]; omega) | (simp only [setL_length]; omega) | (simp only [setL_length, List.length_map]; omega) | (exact ⟨by omega, by omega, by first | exact Nat.le_of_ble_eq_true rfl | (dsimp only; omega) | (simp only [setL_length]; omega) | (simp only [setL_length, List.length_map]; omega)⟩) | (exact ⟨by omega, by first | rfl | omega, by omega, Nat.le_of_ble_eq_true rfl, Nat.le_of_ble_eq_true rfl⟩) | (exact ⟨rfl, rfl, rfl, Nat.le_of_ble_eq_true rfl, by first | rfl | omega | exact Nat.le_of_ble_eq_true rfl | (dsimp only; omega) | (simp; done) | (simp; omega), by first | rfl | omega | exact Nat.le_of_ble_eq_true rfl | (dsimp only; omega) | (simp; done) | (simp; omega), by omega, Nat.le_of_ble_eq_true rfl⟩) | exact Eq.refl true) ?_) | with_reducible refine ld (slLb rfl hlt) ?_ | refine Exists.intro _ (And.intro rfl ?_) | refine And.intro (And.intro rfl (chk_rowI _ _ _ _)) ?_ | refine br_t (by omega) ?_ | refine br_f (by omega) ?_ | refine bs_t (by omega) ?_ | refine bs_f (by omega) ?_ | refine fun (K' : K3) hK' => ?_ | (refine hK' _ _ _ ?_; clear hK' K') | refine draw_auto tok mixed (by kernel_rfl) ?_ | refine bs_f hne2 ?_ | refine br_f hne2 ?_ | refine bs_bt (Eq.refl true) ?_ | refine bs_bf (Eq.refl false) ?_ | refine br_bt (Eq.refl true) ?_ | refine br_bf (Eq.refl false) ?_ | refine CallK.m ?_ | refine Two.l ?_ | refine And.intro (And.intro rfl rfl) ?_)
      refine Tri.loop (γ := Nat) (fun i => i ≤ (j.getD b []).length) (fun i => [(0, V.c (.sl 0 j.length)), (1, V.c (.sl 21 j.length)), (5, V.i (b : Nat)), (6, V.i (i : Nat))])
        (fun i => ⟨0, .ro 1, slsC 1 j⟩ :: ⟨21, .ro 1, slsC 22 j⟩ :: (entC 1 j ++ entC 22 j)) 43 (fun i => (j.getD b []).length - i) 0 (R0 := []) ?_ ?_ ?_
      · omega
      · have hI : injB [] (⟨0, .ro 1, slsC 1 j⟩ :: ⟨21, .ro 1, slsC 22 j⟩ :: (entC 1 j ++ entC 22 j)) = true := inj_same hj20
        have hcv := cov_same (j := j) (x := ⟨0, .ro 1, slsC 1 j⟩) (y := ⟨21, .ro 1, slsC 22 j⟩) hj20 rfl rfl
        refine ⟨?_, ?_, hI, rfl, by first | exact Nat.le_of_ble_eq_true rfl | omega⟩
        · repeat (first | exact trivial | (refine And.intro (covS_syn (by first | rfl | exact (rsl (hR _ (Nat.le_of_ble_eq_true rfl))).symm | exact (rptr (hR _ (Nat.le_of_ble_eq_true rfl))).symm) rfl (by first | exact trivial | exact Nat.le_of_ble_eq_true rfl | exact hy)) ?_))
        · repeat (first | exact hcv | refine And.intro (covE_some (l := 21) rfl (Nat.le_of_ble_eq_true rfl) (wf_sls _ _ _ (by omega)) rfl seqO_id) ?_ | refine And.intro (covE_some (l := 0) rfl (Nat.le_of_ble_eq_true rfl) (wf_sls _ _ _ (by omega)) rfl seqO_id) ?_ | (refine And.intro (covE_some (hR _ (Nat.le_of_ble_eq_true rfl)) (Nat.le_of_ble_eq_true rfl) (by first | exact wf_ints _ _ | exact wf_bools _ _ | first | exact wf_sls _ _ _ (by omega) | exact wf_jobs _ _ | exact wf_famS _ _ _ (by omega) | simp [C.wf]) rfl (by first | exact ren_ints _ _ | exact ren_sls_of (fun l hl => hR l (by omega)) (by omega) | exact ren_sl1 (hR _ (Nat.le_of_ble_eq_true rfl)) | fail | rfl)) ?_))
      · intro i hi
        refine vc_ok tok ?_
        have hI : injB [] (⟨0, .ro 1, slsC 1 j⟩ :: ⟨21, .ro 1, slsC 22 j⟩ :: (entC 1 j ++ entC 22 j)) = true := inj_same hj20
        have hcv := cov_same (j := j) (x := ⟨0, .ro 1, slsC 1 j⟩) (y := ⟨21, .ro 1, slsC 22 j⟩) hj20 rfl rfl
        by_cases hil : i < (j.getD b []).length
        · repeat ((conv => whnf); first | (refine And.intro (by first | omega | exact Nat.le_of_ble_eq_true rfl | (dsimp only [inK]; omega) | (simp only [mulS_eq]; omega) | (simp only [mulS_eq, setL_length]; omega) | (simp only [setL_length]; omega) | (simp only [setL_length, List.length_map]; omega) | (exact ⟨by omega, by omega, by first | exact Nat.le_of_ble_eq_true rfl | (dsimp only; omega) | (simp only [setL_length]; omega) | (simp only [setL_length, List.length_map]; omega)⟩) | (exact ⟨by omega, by first | rfl | omega, by omega, Nat.le_of_ble_eq_true rfl, Nat.le_of_ble_eq_true rfl⟩) | (exact ⟨rfl, rfl, rfl, Nat.le_of_ble_eq_true rfl, by first | rfl | omega | exact Nat.le_of_ble_eq_true rfl | (dsimp only; omega) | (simp; done) | (simp; omega), by first | rfl | omega | exact Nat.le_of_ble_eq_true rfl | (dsimp only; omega) | (simp; done) | (simp; omega), by omega, Nat.le_of_ble_eq_true rfl⟩) | exact Eq.refl true) ?_) | with_reducible refine ld (slLb rfl hlt) ?_ | with_reducible refine ld (jobT rfl hil) ?_ | refine Exists.intro _ (And.intro rfl ?_) | refine And.intro (And.intro rfl (chk_rowI _ _ _ _)) ?_ | refine br_t (by omega) ?_ | refine br_f (by omega) ?_ | refine bs_t (by omega) ?_ | refine bs_f (by omega) ?_ | refine fun (K' : K3) hK' => ?_ | (refine hK' _ _ _ ?_; clear hK' K') | refine draw_auto tok mixed (by kernel_rfl) ?_ | (refine onV_ld (c := ⟨1 + b, .ro 2, jobC (j.getD b [])⟩) (by (try (conv => lhs; arg 1; whnf)); (repeat (first | rw [find_skip (by omega)])); exact hf1) ?_) | (refine onV_ld (c := ⟨22 + b, .ro 2, jobC (j.getD b [])⟩) (by (try (conv => lhs; arg 1; whnf)); (repeat (first | rw [find_skip (by omega)])); exact hf2) ?_) | refine br_bf (by simp) ?_ | refine bs_bt (Eq.refl true) ?_ | refine bs_bf (Eq.refl false) ?_ | refine br_bt (Eq.refl true) ?_ | refine br_bf (Eq.refl false) ?_ | refine CallK.m ?_ | refine Two.l ?_ | refine And.intro (And.intro rfl rfl) ?_)
          refine ⟨i + 1, [], by omega, by omega, ?_⟩
          refine ⟨?_, ?_, hI, rfl, by first | exact Nat.le_of_ble_eq_true rfl | omega⟩
          · repeat (first | exact trivial | (refine And.intro (covS_syn (by first | rfl | exact (rsl (hR _ (Nat.le_of_ble_eq_true rfl))).symm | exact (rptr (hR _ (Nat.le_of_ble_eq_true rfl))).symm | (refine congrArg some (congrArg V.i ?_); omega)) rfl (by first | exact trivial | exact Nat.le_of_ble_eq_true rfl | exact hy)) ?_))
          · repeat (first | exact hcv | refine And.intro (covE_some (l := 21) rfl (Nat.le_of_ble_eq_true rfl) (wf_sls _ _ _ (by omega)) rfl seqO_id) ?_ | refine And.intro (covE_some (l := 0) rfl (Nat.le_of_ble_eq_true rfl) (wf_sls _ _ _ (by omega)) rfl seqO_id) ?_ | (refine And.intro (covE_some (hR _ (Nat.le_of_ble_eq_true rfl)) (Nat.le_of_ble_eq_true rfl) (by first | exact wf_ints _ _ | exact wf_bools _ _ | first | exact wf_sls _ _ _ (by omega) | exact wf_jobs _ _ | exact wf_famS _ _ _ (by omega) | simp [C.wf]) rfl (by first | exact ren_ints _ _ | exact ren_sls_of (fun l hl => hR l (by omega)) (by omega) | exact ren_sl1 (hR _ (Nat.le_of_ble_eq_true rfl)) | fail | rfl)) ?_))
        · obtain rfl : i = (j.getD b []).length := by omega
          repeat ((conv => whnf); first | (refine And.intro (by first | omega | exact Nat.le_of_ble_eq_true rfl | (dsimp only [inK]; omega) | (simp only [mulS_eq]; omega) | (simp only [mulS_eq, setL_length]; omega) | (simp only [setL_length]; omega) | (simp only [setL_length, List.length_map]; omega) | (exact ⟨by omega, by omega, by first | exact Nat.le_of_ble_eq_true rfl | (dsimp only; omega) | (simp only [setL_length]; omega) | (simp only [setL_length, List.length_map]; omega)⟩) | (exact ⟨by omega, by first | rfl | omega, by omega, Nat.le_of_ble_eq_true rfl, Nat.le_of_ble_eq_true rfl⟩) | (exact ⟨rfl, rfl, rfl, Nat.le_of_ble_eq_true rfl, by first | rfl | omega | exact Nat.le_of_ble_eq_true rfl | (dsimp only; omega) | (simp; done) | (simp; omega), by first | rfl | omega | exact Nat.le_of_ble_eq_true rfl | (dsimp only; omega) | (simp; done) | (simp; omega), by omega, Nat.le_of_ble_eq_true rfl⟩) | exact Eq.refl true) ?_) | with_reducible refine ld (slLb rfl hlt) ?_ | refine Exists.intro _ (And.intro rfl ?_) | refine And.intro (And.intro rfl (chk_rowI _ _ _ _)) ?_ | refine br_t (by omega) ?_ | refine br_f (by omega) ?_ | refine bs_t (by omega) ?_ | refine bs_f (by omega) ?_ | refine fun (K' : K3) hK' => ?_ | (refine hK' _ _ _ ?_; clear hK' K') | refine draw_auto tok mixed (by kernel_rfl) ?_ | refine bs_bt (Eq.refl true) ?_ | refine bs_bf (Eq.refl false) ?_ | refine br_bt (Eq.refl true) ?_ | refine br_bf (Eq.refl false) ?_ | refine CallK.m ?_ | refine Two.l ?_ | refine And.intro (And.intro rfl rfl) ?_)
          refine ⟨b + 1, [], by omega, by omega, ?_⟩
          refine ⟨?_, ?_, hI, rfl, by first | exact Nat.le_of_ble_eq_true rfl | omega⟩
          · repeat (first | exact trivial | (refine And.intro (covS_syn (by first | rfl | exact (rsl (hR _ (Nat.le_of_ble_eq_true rfl))).symm | exact (rptr (hR _ (Nat.le_of_ble_eq_true rfl))).symm | (refine congrArg some (congrArg V.i ?_); omega)) rfl (by first | exact trivial | exact Nat.le_of_ble_eq_true rfl | exact hy)) ?_))
          · repeat (first | exact hcv | refine And.intro (covE_some (l := 21) rfl (Nat.le_of_ble_eq_true rfl) (wf_sls _ _ _ (by omega)) rfl seqO_id) ?_ | refine And.intro (covE_some (l := 0) rfl (Nat.le_of_ble_eq_true rfl) (wf_sls _ _ _ (by omega)) rfl seqO_id) ?_ | (refine And.intro (covE_some (hR _ (Nat.le_of_ble_eq_true rfl)) (Nat.le_of_ble_eq_true rfl) (by first | exact wf_ints _ _ | exact wf_bools _ _ | first | exact wf_sls _ _ _ (by omega) | exact wf_jobs _ _ | exact wf_famS _ _ _ (by omega) | simp [C.wf]) rfl (by first | exact ren_ints _ _ | exact ren_sls_of (fun l hl => hR l (by omega)) (by omega) | exact ren_sl1 (hR _ (Nat.le_of_ble_eq_true rfl)) | fail | rfl)) ?_))
    · obtain rfl : b = j.length := by omega
      repeat ((conv => whnf); first | (refine And.intro (by first | omega | exact Nat.le_of_ble_eq_true rfl | (dsimp only [inK]; omega) | (simp only [mulS_eq]; omega) | (simp only [mulS_eq, setL_length]; omega) | (simp only [setL_length]; omega) | (simp only [setL_length, List.length_map]; omega) | (exact ⟨by omega, by omega, by first | exact Nat.le_of_ble_eq_true rfl | (dsimp only; omega) | (simp only [setL_length]; omega) | (simp only [setL_length, List.length_map]; omega)⟩) | (exact ⟨by omega, by first | rfl | omega, by omega, Nat.le_of_ble_eq_true rfl, Nat.le_of_ble_eq_true rfl⟩) | (exact ⟨rfl, rfl, rfl, Nat.le_of_ble_eq_true rfl, by first | rfl | omega | exact Nat.le_of_ble_eq_true rfl | (dsimp only; omega) | (simp; done) | (simp; omega), by first | rfl | omega | exact Nat.le_of_ble_eq_true rfl | (dsimp only; omega) | (simp; done) | (simp; omega), by omega, Nat.le_of_ble_eq_true rfl⟩) | exact Eq.refl true) ?_) | refine Exists.intro _ (And.intro rfl ?_) | refine And.intro (And.intro rfl (chk_rowI _ _ _ _)) ?_ | refine br_t (by omega) ?_ | refine br_f (by omega) ?_ | refine bs_t (by omega) ?_ | refine bs_f (by omega) ?_ | refine fun (K' : K3) hK' => ?_ | (refine hK' _ _ _ ?_; clear hK' K') | refine draw_auto tok mixed (by kernel_rfl) ?_ | refine bs_bt (Eq.refl true) ?_ | refine bs_bf (Eq.refl false) ?_ | refine br_bt (Eq.refl true) ?_ | refine br_bf (Eq.refl false) ?_ | refine CallK.m ?_ | refine Two.l ?_ | refine And.intro (And.intro rfl rfl) ?_)
      intro ρ; rfl
end Go.Proofs.Ytjijjncddjkdlaa

/- Shore: the reference's Turned. -/
namespace Go.Proofs.Ytjijjncddjkdlaa
open Go.RowKit
set_option linter.unusedVariables false
set_option linter.unusedSimpArgs false
end Go.Proofs.Ytjijjncddjkdlaa

/- Shore: two lists of beaches that lie as rows of one's own, held against each other. -/
namespace Go.Proofs.Ytjijjncddjkdlaa
open Go.RowKit
set_option linter.unusedVariables false
set_option linter.unusedSimpArgs false
theorem slsC_ren {R : Rn} {b B n : Nat} (hR : ∀ i, i < n → renL R (b + i) = some (i + B)) : ∀ {m : Nat} {t : Coast}, m + t.length ≤ n → seqO ((slsC (b + m) t).map (C.ren R)) = some (famS List.length (m + B) t)
  | m, [], _ => rfl
  | m, x :: r, h => by
    simp only [List.length_cons] at h
    have ih := slsC_ren (R := R) (b := b) (B := B) (n := n) hR (m := m + 1) (t := r) (by omega)
    simp only [slsC, List.map_cons, C.ren, hR m (by omega), seqO, famS]
    rw [show b + m + 1 = b + (m + 1) by omega, ih, show m + 1 + B = m + B + 1 by omega]
theorem renL_app {l : Nat} {Q : Rn} : ∀ {R : Rn}, (∀ p ∈ R, p.1 ≠ l) → renL (R ++ Q) l = renL Q l
  | [], _ => rfl
  | p :: R, h => by
    simp only [List.cons_append, renL, beq_ne (h p (by simp)), cond_false]
    exact renL_app fun q hq => h q (by simp [hq])
theorem renL_shift_app {b c l n : Nat} {Q : Rn} (h : b ≤ l ∧ l < b + n) : renL (shiftR b c n ++ Q) l = some (l - b + c) := by
  have key : ∀ {r : List Nat}, (∃ k ∈ r, k + b = l) → renL ((r.map fun k => (k + b, some (k + c))) ++ Q) l = some (l - b + c) := by
    intro r
    induction r with
    | nil => rintro ⟨k, hk, _⟩; cases hk
    | cons a r ih =>
      rintro ⟨k, hk, he⟩
      simp only [List.map_cons, List.cons_append, renL]
      by_cases ha : a + b = l
      · rw [ha, Nat.beq_refl, cond_true]; congr 1; omega
      · rw [beq_ne ha, cond_false]
        refine ih ⟨k, ?_, he⟩
        rcases List.mem_cons.1 hk with rfl | hk
        · exact absurd he ha
        · exact hk
  exact key ⟨l - b, List.mem_range.2 (by omega), by omega⟩
/-- Names of two lists of beaches. -/
def samR (la Ba lb Bb n : Nat) : Rn := (0, some la) :: (21, some lb) :: (shiftR 1 Ba n ++ shiftR 22 Bb n)
theorem samR_1 {la Ba lb Bb n i : Nat} (hi : i < n) (hn : n ≤ 20) : renL (samR la Ba lb Bb n) (1 + i) = some (i + Ba) := by
  simp only [samR, renL, beq_ne (show 0 ≠ 1 + i by omega), beq_ne (show 21 ≠ 1 + i by omega), cond_false]
  rw [renL_shift_app (by omega)]; congr 1; omega
theorem samR_2 {la Ba lb Bb n i : Nat} (hi : i < n) (hn : n ≤ 20) : renL (samR la Ba lb Bb n) (22 + i) = some (i + Bb) := by
  simp only [samR, renL, beq_ne (show 0 ≠ 22 + i by omega), beq_ne (show 21 ≠ 22 + i by omega), cond_false]
  rw [renL_app, renL_shift, if_pos (by omega)]
  · congr 1; omega
  · intro p hp
    obtain ⟨k, hk, rfl⟩ := List.mem_map.1 hp
    have := List.mem_range.1 hk
    simp only; omega
/-- Beaches that came in, or that lie as rows of one's own. -/
structure HasU (L : List E) (lab B : Nat) (t : Coast) : Prop where
  sl : ∃ k, find L lab = some ⟨lab, k, famS List.length B t⟩ ∧ k.z = some 1
  be : ∀ i, i < t.length → ∃ k, find L (i + B) = some ⟨i + B, k, jobC (t.getD i [])⟩ ∧ k.z = some 2
theorem HasT.u {L : List E} {lab B : Nat} {t : Coast} (h : HasT L lab B t) : HasU L lab B t := ⟨⟨_, h.sl, rfl⟩, fun i hi => ⟨_, h.be i hi, rfl⟩⟩
theorem slsC_fam : ∀ {b : Nat} {j : Coast}, slsC b j = famS List.length b j
  | _, [] => rfl
  | b, x :: r => by simp only [slsC, famS, slsC_fam (b := b + 1) (j := r)]
theorem HasC.u {L : List E} {j : Coast} (h : HasC L j) : HasU L 0 1 j := ⟨⟨_, by rw [← slsC_fam]; exact h.sl, rfl⟩, fun i hi => ⟨.ro 2, by rw [Nat.add_comm]; exact h.be i hi, rfl⟩⟩
theorem HasU.same {L : List E} {la Ba lb Bb : Nat} {t : Coast} (h : HasU L la Ba t) (h2 : HasU L lb Bb t) (ht : Sized t) : roL (samR la Ba lb Bb t.length) 43 L (⟨0, .ro 1, slsC 1 t⟩ :: ⟨21, .ro 1, slsC 22 t⟩ :: (entC 1 t ++ entC 22 t)) := by
  have h20 := ht.len
  have hs := slsC_ren (R := samR la Ba lb Bb t.length) (b := 1) (B := Ba) (n := t.length) (fun i hi => samR_1 hi h20) (m := 0) (t := t) (by omega)
  have hs2 := slsC_ren (R := samR la Ba lb Bb t.length) (b := 22) (B := Bb) (n := t.length) (fun i hi => samR_2 hi h20) (m := 0) (t := t) (by omega)
  rw [Nat.zero_add] at hs hs2
  obtain ⟨k1, e1, z1⟩ := h.sl
  obtain ⟨k2, e2, z2⟩ := h2.sl
  refine ⟨⟨Nat.le_of_ble_eq_true rfl, wf_sls _ _ _ (by omega), k1, _, e1, .inr z1, hs⟩, ⟨Nat.le_of_ble_eq_true rfl, wf_sls _ _ _ (by omega), k2, _, e2, .inr z2, hs2⟩, roL_all fun e he => ?_⟩
  rcases List.mem_append.1 he with he | he
  · obtain ⟨i, hi, rfl⟩ := entC_mem he
    obtain ⟨k, e3, z3⟩ := h.be i hi
    unfold roE
    simp only [samR_1 hi h20]
    exact ⟨by omega, wf_jobs _ _, k, _, e3, .inr z3, ren_jobs _ _⟩
  · obtain ⟨i, hi, rfl⟩ := entC_mem he
    obtain ⟨k, e3, z3⟩ := h2.be i hi
    unfold roE
    simp only [samR_2 hi h20]
    exact ⟨by omega, wf_jobs _ _, k, _, e3, .inr z3, ren_jobs _ _⟩
theorem sgl_sized {l : List Job} (h : l.length ≤ 20) : Sized (sglL l) := ⟨by rw [sglL_len]; exact h, fun k hk => by
  rw [sglL_len] at hk
  have : (sglL l).getD k [] = [l[k]] := by simp [sglL, List.getD_eq_getElem?_getD, hk]
  rw [this]; simp⟩
end Go.Proofs.Ytjijjncddjkdlaa

/- Shore, plain: a beach for each job: the bound is the least harm, and without order nothing is worse. -/
namespace Go.Proofs.Ytjijjncddjkdlaa
open Go.RowKit
set_option linter.unusedVariables false
set_option linter.unusedSimpArgs false
theorem P1_eq {x : Job} : ∀ {l : List Job}, (∀ y ∈ l, x.1 * y.2 ≤ y.1 * x.2) → P1 x l = x.1 * wS l
  | [], _ => by simp [P1, wS]
  | y :: l, h => by
    have ih := P1_eq (x := x) (l := l) fun z hz => h z (by simp [hz])
    have h1 : minJ x y = x.1 * y.2 := by
      have := h y (by simp)
      unfold minJ; rw [if_neg (by omega)]
    simp only [P1, List.map_cons, List.sum_cons] at *
    rw [ih, h1, wS_cons, Int.mul_add]
theorem BR_step {j : Coast} {c : Nat} {f : Nat → Nat} {x : Job} (hcl : c < j.length) (hhd : remC j f c = x :: remC j (upd f c 1) c) : BR j f = BR j (upd f c 1) + (x.2 * (0 + x.1) + x.1 * wS (remC j (upd f c 1) c)) + sumZ j.length (fun d => if d = c then 0 else P1 x (remC j f d)) := by
  unfold BR
  rw [sumZ_add, sumZ_add]
  have e1 : sumZ j.length (fun b => costS 0 (remC j f b)) = sumZ j.length (fun b => costS 0 (remC j (upd f c 1) b)) + (x.2 * (0 + x.1) + x.1 * wS (remC j (upd f c 1) c)) := by
    refine sumZ_upd hcl ?_ (fun b _ hne => by rw [remC_upd_ne hne])
    rw [hhd]
    simp only [costS]
    rw [costS_shift 0 x.1]
    omega
  have e2 := tri_diff (n := j.length) (c := c) (G := fun b d => PP (remC j f b) (remC j f d)) (G' := fun b d => PP (remC j (upd f c 1) b) (remC j (upd f c 1) d)) (e := fun d => P1 x (remC j f d))
    (fun b d _ hb hd => by rw [remC_upd_ne hb, remC_upd_ne hd])
    (fun d hd => by rw [hhd, PP_cons, remC_upd_ne (show d ≠ c by omega)]; omega)
    (fun b hb => by rw [hhd, PP_cons', remC_upd_ne (show b ≠ c by omega)]; omega) hcl
  rw [e1, e2]
  omega
theorem bound_ge {j : Coast} {f : Nat → Nat} {o : List Nat} (h : LedF j f o) : (∀ c, c < j.length → (remC j f c).length ≤ 1) → costS 0 (jobsF j f o) ≤ BR j f := by
  induction h with
  | @nil f hd =>
    intro _
    have hnil : ∀ b, b < j.length → remC j f b = [] := fun b hb => by
      unfold remC; rw [hd b hb]; simp
    have : BR j f = sumZ j.length (fun _ => 0) := by
      unfold BR
      refine sumZ_congr fun b hb => ?_
      rw [hnil b hb]
      have e : sumZ b (fun c => PP [] (remC j f c)) = sumZ b (fun _ => 0) := sumZ_congr fun c _ => rfl
      rw [e, sumZ_zero]; rfl
    rw [this, sumZ_zero]; simp [jobsF, costS]
  | @cons f c k o ht hl ih =>
    intro h1
    have hcl := ht.lt
    have hk : k = 1 := by
      have h2 := h1 c hcl
      have h3 := ht.le
      have h4 := ht.k1
      unfold remC at h2
      rw [List.length_drop] at h2; omega
    subst hk
    have hord := (LedF.cons ht hl).ord
    rw [show List.replicate 1 c ++ o = c :: o from rfl] at hord ⊢
    have hhd := hord.head
    have hw := wS_jobsF hord.tail
    obtain ⟨x, hx⟩ : ∃ x, x = (j.getD c []).getD (f c) (0, 0) := ⟨_, rfl⟩
    rw [← hx] at hhd
    have hB := BR_step hcl hhd
    have hemp : remC j (upd f c 1) c = [] := by
      have := h1 c hcl
      rw [hhd, List.length_cons] at this
      exact List.length_eq_zero_iff.1 (by omega)
    have ih' := ih fun d hd => by
      by_cases hdc : d = c
      · rw [hdc, hemp]; simp
      · rw [remC_upd_ne hdc]; exact h1 d hd
    have hm := ht.most
    rw [hhd] at hm
    have hxs : hS ((x :: remC j (upd f c 1) c).take 1) = x.1 ∧ wS ((x :: remC j (upd f c 1) c).take 1) = x.2 := by simp [hS, wS]
    rw [hxs.1, hxs.2] at hm
    have hP : ∀ d, d < j.length → d ≠ c → P1 x (remC j f d) = x.1 * wS (remC j f d) := fun d hd _ => P1_eq fun y hy => by
      have h2 := h1 d hd
      have h3 : remC j f d = [y] := by
        cases hr : remC j f d with
        | nil => rw [hr] at hy; cases hy
        | cons z r =>
          rw [hr] at hy h2
          rw [List.length_cons] at h2
          have : r = [] := List.length_eq_zero_iff.1 (by omega)
          subst this
          rw [List.mem_singleton.1 hy]
      have h4 := hm d hd 1
      rw [h3] at h4
      have h5 : wS ([y].take 1) = y.2 ∧ hS ([y].take 1) = y.1 := by simp [wS, hS]
      rw [h5.1, h5.2] at h4
      have e1 : y.2 * x.1 = x.1 * y.2 := Int.mul_comm _ _
      have e2 : x.2 * y.1 = y.1 * x.2 := Int.mul_comm _ _
      omega
    simp only [jobsF, costS]
    rw [← hx]
    rw [show (0 : Int) + x.1 = 0 + x.1 from rfl, costS_shift 0 x.1, hw, hB, hemp]
    have hsum : x.1 * sumZ j.length (fun b => wS (remC j (upd f c 1) b)) = sumZ j.length (fun d => if d = c then 0 else P1 x (remC j f d)) := by
      have e3 : x.1 * sumZ j.length (fun b => wS (remC j (upd f c 1) b)) = sumZ j.length (fun b => x.1 * wS (remC j (upd f c 1) b)) := by
        generalize j.length = n
        induction n with
        | zero => simp [sumZ]
        | succ n ih2 => simp only [sumZ, Int.mul_add, ih2]
      rw [e3]
      refine sumZ_congr fun b hb => ?_
      by_cases hbc : b = c
      · rw [if_pos hbc, hbc, hemp]; simp [wS]
      · rw [if_neg hbc, hP b hb hbc, remC_upd_ne hbc]
    rw [hsum]
    simp only [wS, List.map_nil, List.sum_nil, Int.mul_zero]
    omega
/-- Where no beach has more than one job, the pairs' bound is the least harm. -/
theorem bound_one {j : Coast} (hj : CoastOk j) (h1 : ∀ c, c < j.length → (j.getD c []).length ≤ 1) : boundO j = leastO j := by
  have h2 := bound_least hj
  have h3 := bound_ge (bestO_led hj) fun c hc => by simpa [remC] using h1 c hc
  rw [← boundO_BR] at h3
  have h4 : leastO j = costS 0 (jobsF j (fun _ => 0) (bestO j)) := by unfold leastO; rw [harm_costS]
  omega
/-! A beach for each job. -/
def flR (j : Coast) (f : Nat → Nat) : Nat → List Job
  | 0 => []
  | n + 1 => flR j f n ++ remC j f n
theorem flR_step {j : Coast} {f : Nat → Nat} {c : Nat} {x : Job} (hhd : remC j f c = x :: remC j (upd f c 1) c) : ∀ n, (n ≤ c → flR j f n = flR j (upd f c 1) n) ∧ (c < n → (flR j f n).Perm (x :: flR j (upd f c 1) n))
  | 0 => ⟨fun _ => rfl, fun h => by omega⟩
  | n + 1 => by
    obtain ⟨h1, h2⟩ := flR_step hhd n
    refine ⟨fun h => ?_, fun h => ?_⟩
    · simp only [flR]; rw [h1 (by omega), remC_upd_ne (show n ≠ c by omega)]
    · simp only [flR]
      by_cases hn : c = n
      · subst hn
        rw [h1 (Nat.le_refl _), hhd]
        exact List.perm_middle
      · rw [remC_upd_ne (show n ≠ c by omega)]
        exact (h2 (by omega)).append_right _
theorem jobs_perm {j : Coast} : ∀ {o : List Nat} {f : Nat → Nat}, OrdF j f o → (jobsF j f o).Perm (flR j f j.length)
  | [], f, ho => by
    have : ∀ n, n ≤ j.length → flR j f n = [] := by
      intro n
      induction n with
      | zero => intro _; rfl
      | succ n ih =>
        intro hn
        have h1 := ho.remLen (show n < j.length by omega)
        rw [List.count_nil] at h1
        simp only [flR]
        rw [ih (by omega), List.length_eq_zero_iff.1 h1]; rfl
    rw [this _ (Nat.le_refl _)]
    exact List.Perm.refl _
  | c :: o, f, ho => by
    have hcl := ho.lt c (by simp)
    simp only [jobsF]
    exact ((jobs_perm ho.tail).cons _).trans ((flR_step ho.head j.length).2 hcl).symm
theorem flR_flat {j : Coast} : ∀ {n}, n ≤ j.length → flR j (fun _ => 0) n = flatP j n
  | 0, _ => rfl
  | n + 1, h => by
    simp only [flR]
    rw [flR_flat (by omega), flatP_succ (by omega)]
    simp [remC]
theorem perm_map {α β : Type} {f : α → β} {l m : List β} (h : l.Perm m) : ∀ {s : List α}, m = s.map f → ∃ s' : List α, s'.Perm s ∧ l = s'.map f := by
  induction h with
  | nil => intro s hs; exact ⟨s, List.Perm.refl _, hs⟩
  | cons x h ih =>
    intro s hs
    cases s with
    | nil => cases hs
    | cons a s =>
      simp only [List.map_cons, List.cons.injEq] at hs
      obtain ⟨s', h1, h2⟩ := ih hs.2
      exact ⟨a :: s', h1.cons a, by rw [h2, hs.1]; rfl⟩
  | swap x y l =>
    intro s hs
    match s, hs with
    | a :: b :: s, hs =>
      simp only [List.map_cons, List.cons.injEq] at hs
      exact ⟨b :: a :: s, List.Perm.swap .., by rw [hs.1, hs.2.1, hs.2.2]; rfl⟩
  | trans h1 h2 ih1 ih2 =>
    intro s hs
    obtain ⟨s1, g1, g2⟩ := ih2 hs
    obtain ⟨s2, g3, g4⟩ := ih1 g2
    exact ⟨s2, g3.trans g1, g4⟩
theorem sgl_get {l : List Job} {k : Nat} (h : k < l.length) : (sglL l).getD k [] = [l.getD k (0, 0)] := by
  simp [sglL, List.getD_eq_getElem?_getD, h]
theorem jobsF_sgl {l : List Job} : ∀ {o : List Nat} {F : Nat → Nat}, (∀ x ∈ o, F x = 0) → o.Nodup → (∀ x ∈ o, x < l.length) → jobsF (sglL l) F o = o.map fun x => l.getD x (0, 0)
  | [], _, _, _, _ => rfl
  | c :: o, F, h0, hn, hl => by
    obtain ⟨hn1, hn2⟩ := List.nodup_cons.1 hn
    simp only [jobsF, List.map_cons]
    rw [sgl_get (hl c (by simp)), h0 c (by simp), jobsF_sgl (F := upd F c 1) (fun x hx => ?_) hn2 fun x hx => hl x (by simp [hx])]
    · rfl
    · rw [upd_ne (fun e => hn1 (by rw [← e]; exact hx))]
      exact h0 x (by simp [hx])
theorem count_nd {b : Nat} : ∀ {l : List Nat}, l.Nodup → b ∈ l → l.count b = 1
  | a :: l, hn, hb => by
    obtain ⟨h1, h2⟩ := List.nodup_cons.1 hn
    rcases List.mem_cons.1 hb with rfl | hb
    · rw [List.count_cons_self, List.count_eq_zero.2 h1]
    · rw [List.count_cons_of_ne (fun e => h1 (by rw [e]; exact hb)), count_nd h2 hb]
/-- Without order nothing is worse. -/
theorem free_le {j : Coast} (hc : CoastOk j) (hf : CoastOk (sglL (flatJ j))) : leastO (sglL (flatJ j)) ≤ leastO j := by
  have hp := jobs_perm (bestO_ord hc)
  rw [flR_flat (Nat.le_refl _)] at hp
  have he : flatP j j.length = (List.range (flatJ j).length).map fun x => (flatJ j).getD x (0, 0) := by
    refine List.ext_getElem (by simp [flatJ]) fun i h1 h2 => ?_
    simp only [List.getElem_map, List.getElem_range]
    rw [getD_lt (by unfold flatJ; exact h1)]; rfl
  obtain ⟨o', h1, h2⟩ := perm_map hp he
  have hnd : o'.Nodup := h1.nodup_iff.2 List.nodup_range
  have hlt : ∀ x ∈ o', x < (flatJ j).length := fun x hx => List.mem_range.1 (h1.subset hx)
  have ho : OrdF (sglL (flatJ j)) (fun _ => 0) o' := by
    refine ⟨fun x hx => by rw [sglL_len]; exact hlt x hx, fun b hb => ?_⟩
    rw [sglL_len] at hb
    rw [sgl_get hb, count_nd hnd (h1.mem_iff.2 (List.mem_range.2 hb))]; rfl
  have h3 := bestO_least hf ho
  rw [jobsF_sgl (fun _ _ => rfl) hnd hlt, ← h2] at h3
  unfold leastO
  rw [harm_costS, harm_costS]
  exact h3
theorem flat_mem {j : Coast} {x : Job} : ∀ {n}, x ∈ flatP j n → ∃ b, x ∈ j.getD b [] := by
  intro n h
  unfold flatP at h
  obtain ⟨l, hl, hx⟩ := List.mem_flatten.1 h
  obtain ⟨b, hb, rfl⟩ := List.mem_iff_getElem.1 (List.mem_of_mem_take hl)
  exact ⟨b, by rw [getD_lt hb]; exact hx⟩
theorem free_valid {j : Coast} (hv : validL j = true) (h : 1 ≤ (flatJ j).length ∧ (flatJ j).length ≤ 6) : validL (sglL (flatJ j)) = true := by
  have hc := hv
  simp only [validL, Bool.and_eq_true, decide_eq_true_eq] at hc
  obtain ⟨⟨h1, h2⟩, h3⟩ := hc
  have hlen : ∀ b, b < (flatJ j).length → ((sglL (flatJ j)).getD b []).length = 1 := fun b hb => by rw [sgl_get hb]; rfl
  refine validL_ok (fun b hb m hm => ?_) (by rw [sglL_len]; omega) ?_
  · rw [sglL_len] at hb
    rw [hlen b hb] at hm
    obtain rfl : m = 0 := by omega
    rw [sgl_get hb]
    show jobBad ((flatJ j).getD b (0, 0)) = false
    have hmem : (flatJ j).getD b (0, 0) ∈ flatP j j.length := by
      rw [getD_lt hb]; exact List.getElem_mem hb
    obtain ⟨d, hd⟩ := flat_mem hmem
    refine Bool.eq_false_iff.2 fun h5 => ?_
    by_cases hdl : d < j.length
    · have e : j.getD d [] = j[d] := getD_lt hdl
      have hg := List.all_eq_true.1 h1 _ (List.getElem_mem hdl)
      rw [← e] at hg
      have : (j.getD d []).any jobBad = true := List.any_eq_true.2 ⟨_, hd, h5⟩
      rw [this] at hg; cases hg
    · rw [List.getD_eq_getElem?_getD, List.getElem?_eq_none (by omega)] at hd
      cases hd
  · have key : ∀ k, k ≤ (flatJ j).length → manyN (sglL (flatJ j)) k = k := by
      intro k
      induction k with
      | zero => intro _; simp [manyN]
      | succ k ih => intro hk; rw [manyN_succ (by rw [sglL_len]; omega), ih (by omega), hlen k (by omega)]
    rw [sglL_len, key _ (Nat.le_refl _)]
    omega
theorem turn_harmful {j : Coast} (hv : validL j = true) : harmful (turnJ j) = true := by
  have hc := hv
  simp only [validL, Bool.and_eq_true, decide_eq_true_eq] at hc
  obtain ⟨⟨h1, _⟩, _⟩ := hc
  refine harmful_of fun b hb i hi => ?_
  rw [turnJ_len] at hb
  unfold jobA
  rw [turnJ_get hb] at hi ⊢
  rw [List.length_map, List.length_reverse] at hi
  rw [getD_lt (by rw [List.length_map, List.length_reverse]; exact hi), List.getElem_map, List.getElem_reverse]
  have e : j.getD b [] = j[b] := getD_lt hb
  have hg := List.all_eq_true.1 h1 _ (List.getElem_mem hb)
  rw [← e] at hg
  have hmem : (j.getD b [])[(j.getD b []).length - 1 - i]'(by omega) ∈ j.getD b [] := List.getElem_mem _
  generalize (j.getD b [])[(j.getD b []).length - 1 - i]'(by omega) = x at hmem
  have hb2 : jobBad x = false := Bool.eq_false_iff.2 fun h5 => by
    have : (j.getD b []).any jobBad = true := List.any_eq_true.2 ⟨_, hmem, h5⟩
    rw [this] at hg; cases hg
  simp only [jobBad, Bool.or_eq_false_iff, Bool.not_eq_false', decide_eq_true_eq] at hb2
  simp only [swapJ]
  omega
end Go.Proofs.Ytjijjncddjkdlaa

/- The law of the leads. -/
namespace Go.Proofs.Ytjijjncddjkdlaa
open Go.RowKit
set_option linter.unusedVariables false
set_option linter.unusedSimpArgs false
section
variable {n0 nx : Nat} {L : List E} {K : V → List E → Nat → Prop} {j : Coast}
theorem long_k (hj : j.length < 9223372036854775808) (hs : find L 0 = some ⟨0, .ro 1, slsC 1 j⟩) (hK : K (V.c (.bool (longB j))) [] nx) : CallK Try.prog n0 14 [V.c (.sl 0 j.length)] L nx K :=
  CallK.val (R := []) (long_any j hj) (by kernel_rfl) rfl (by simp [V.wf, A.wf, C.wf]) ⟨roE_id (Nat.succ_pos _) (wf_sls _ _ _ (by omega)) hs (.inr rfl) rfl, trivial⟩ rfl rfl trivial hK
theorem sane_k (hK : K (V.c (.bool true)) [] nx) : CallK Try.prog n0 15 [] L nx K :=
  CallK.val (R := []) sane_spec (by kernel_rfl) rfl (by simp) trivial rfl rfl trivial hK
end
theorem isTrue_any {f : FuncId} {vs : List V} {L : List E} {na : Nat} {ρ : Env} {w : World} {args : Array Value} (spec : Spec Try.prog f vs L na (Is (V.c (.bool true)))) (hp : Hp w.heap.size ρ w L na) (hv : ∀ v ∈ vs, v.wf na) (ha : (vs.map (V.den ρ)).toArray = args) :
    Calls Try.prog f args w fun e w' => e = .returned (.bool true) ∧ Below w.heap.size w w' := by
  subst ha
  refine (spec ρ w hp hv).mono ?_
  rintro e w' ⟨v, ρ', L', nx', rfl, h1, h2, h3, h4, h5, h6⟩
  exact ⟨by rw [h6 ρ']; rfl, h4⟩
end Go.Proofs.Ytjijjncddjkdlaa

/- The law without order, and of beaches turned round. -/
namespace Go.Proofs.Ytjijjncddjkdlaa
open Go.RowKit
set_option linter.unusedVariables false
set_option linter.unusedSimpArgs false
theorem frees_long (j : Coast) (hj : j.length < 9223372036854775808) (hl : longB j = true) :
    Spec Try.prog 13 [V.c (.sl 0 j.length)] [⟨0, .ro 1, slsC 1 j⟩] (j.length + 32) (Is (V.c (.bool true))) := by
  refine Spec.of tok Try.func13 rfl rfl rfl fun n0 cx => vc_ok tok ?_
  repeat ((conv => whnf); first | (refine And.intro (by first | omega | exact Nat.le_of_ble_eq_true rfl | (dsimp only [inK]; omega) | (simp only [mulS_eq]; omega) | (simp only [mulS_eq, setL_length]; omega) | (simp only [setL_length]; omega) | (simp only [setL_length, List.length_map]; omega) | (exact ⟨by omega, by omega, by first | exact Nat.le_of_ble_eq_true rfl | (dsimp only; omega) | (simp only [setL_length]; omega) | (simp only [setL_length, List.length_map]; omega)⟩) | (exact ⟨by omega, by first | rfl | omega, by omega, Nat.le_of_ble_eq_true rfl, Nat.le_of_ble_eq_true rfl⟩) | (exact ⟨rfl, rfl, rfl, Nat.le_of_ble_eq_true rfl, by first | rfl | omega | exact Nat.le_of_ble_eq_true rfl | (dsimp only; omega) | (simp; done) | (simp; omega), by first | rfl | omega | exact Nat.le_of_ble_eq_true rfl | (dsimp only; omega) | (simp; done) | (simp; omega), by omega, Nat.le_of_ble_eq_true rfl⟩) | exact Eq.refl true) ?_) | refine Exists.intro _ (And.intro rfl ?_) | refine And.intro (And.intro rfl (chk_rowI _ _ _ _)) ?_ | refine br_t (by omega) ?_ | refine br_f (by omega) ?_ | refine bs_t (by omega) ?_ | refine bs_f (by omega) ?_ | refine fun (K' : K3) hK' => ?_ | (refine hK' _ _ _ ?_; clear hK' K') | refine draw_auto tok mixed (by kernel_rfl) ?_ | refine long_k hj rfl ?_ | refine bs_bt hl ?_ | refine br_bt hl ?_ | refine sane_k ?_ | refine bs_bt (Eq.refl true) ?_ | refine bs_bf (Eq.refl false) ?_ | refine br_bt (Eq.refl true) ?_ | refine br_bf (Eq.refl false) ?_ | refine CallK.m ?_ | refine Two.l ?_ | refine And.intro (And.intro rfl rfl) ?_)
  intro ρ; rfl
set_option maxHeartbeats 16000000 in
set_option maxRecDepth 100000 in
theorem frees_spec (j : Coast) (hj : Sized j) (hl : longB j = false) :
    Spec Try.prog 13 [V.c (.sl 0 j.length)] (⟨0, .ro 1, slsC 1 j⟩ :: entC 1 j) 32 (Is (V.c (.bool true))) := by
  have hj20 := hj.len
  by_cases hv : validL j = true
  case neg =>
    have hv : validL j = false := by simpa using hv
    refine Spec.of tok Try.func13 rfl rfl rfl fun n0 cx => vc_ok tok ?_
    repeat ((conv => whnf); first | (refine And.intro (by first | omega | exact Nat.le_of_ble_eq_true rfl | (dsimp only [inK]; omega) | (simp only [mulS_eq]; omega) | (simp only [mulS_eq, setL_length]; omega) | (simp only [setL_length]; omega) | (simp only [setL_length, List.length_map]; omega) | (exact ⟨by omega, by omega, by first | exact Nat.le_of_ble_eq_true rfl | (dsimp only; omega) | (simp only [setL_length]; omega) | (simp only [setL_length, List.length_map]; omega)⟩) | (exact ⟨by omega, by first | rfl | omega, by omega, Nat.le_of_ble_eq_true rfl, Nat.le_of_ble_eq_true rfl⟩) | (exact ⟨rfl, rfl, rfl, Nat.le_of_ble_eq_true rfl, by first | rfl | omega | exact Nat.le_of_ble_eq_true rfl | (dsimp only; omega) | (simp; done) | (simp; omega), by first | rfl | omega | exact Nat.le_of_ble_eq_true rfl | (dsimp only; omega) | (simp; done) | (simp; omega), by omega, Nat.le_of_ble_eq_true rfl⟩) | exact Eq.refl true) ?_) | refine Exists.intro _ (And.intro rfl ?_) | refine And.intro (And.intro rfl (chk_rowI _ _ _ _)) ?_ | refine br_t (by omega) ?_ | refine br_f (by omega) ?_ | refine bs_t (by omega) ?_ | refine bs_f (by omega) ?_ | refine fun (K' : K3) hK' => ?_ | (refine hK' _ _ _ ?_; clear hK' K') | refine draw_auto tok mixed (by kernel_rfl) ?_ | refine long_k (by omega) rfl ?_ | refine bs_bf hl ?_ | refine CallK.val (R := []) (rvalid_spec j hj) (by kernel_rfl) rfl (by simp [V.wf, A.wf, C.wf]) (HasC.ro ⟨rfl, fun k hk => by (repeat (first | rw [find_skip (by omega)] | rw [find_hi (by omega) (by rfl)])); exact entC_find hk⟩ hj) (injC hj) rfl trivial ?_ | (refine br_bt (by rw [hv]; rfl) ?_) | refine sane_k ?_ | refine bs_bt (Eq.refl true) ?_ | refine bs_bf (Eq.refl false) ?_ | refine br_bt (Eq.refl true) ?_ | refine br_bf (Eq.refl false) ?_ | refine CallK.m ?_ | refine Two.l ?_ | refine And.intro (And.intro rfl rfl) ?_)
    intro ρ; rfl
  have hc := validL_coast hj hv
  have hLj := least_spec j hj
  rw [hv] at hLj
  simp only [if_true] at hLj
  have hF := Free_spec j hj
  have hT := Turned_spec j hj
  -- a beach for each job
  have freeC : (freeE j = 5 ∧ freeR j = []) ∨ (freeE j = 0 ∧ ∃ t M, freeR j = t ∧ Sized t ∧ M ≤ leastO j ∧ Spec Try.prog 19 [V.c (.sl 0 t.length)] (⟨0, .ro 1, slsC 1 t⟩ :: entC 1 t) 32 (Is (.tup [.c (.i M), .c (.i 0)])) ∧ Spec Try.prog 20 [V.c (.sl 0 t.length)] (⟨0, .ro 1, slsC 1 t⟩ :: entC 1 t) 32 (Is (.tup [.c (.i M), .c (.i 0)]))) := by
    by_cases h : 1 ≤ (flatJ j).length ∧ (flatJ j).length ≤ 6
    · have e0 : freeE j = 0 := by unfold freeE; rw [hv, if_pos rfl, if_pos h]
      have eR : freeR j = sglL (flatJ j) := by unfold freeR; rw [if_pos e0]
      have hs := sgl_sized (l := flatJ j) (by omega)
      have hvf := free_valid hv h
      have hcf := validL_coast hs hvf
      have h1 := least_spec (sglL (flatJ j)) hs
      have h2 := bound_spec (sglL (flatJ j)) hs
      rw [hvf] at h1 h2
      simp only [if_true] at h1 h2
      rw [bound_one hcf fun c hcl => by
        rw [sglL_len] at hcl
        rw [sgl_get hcl]; simp] at h2
      exact .inr ⟨e0, _, _, eR, hs, free_le hc hcf, h1, h2⟩
    · have e5 : freeE j = 5 := by unfold freeE; rw [hv, if_pos rfl, if_neg h]
      exact .inl ⟨e5, by unfold freeR; rw [if_neg (by omega)]⟩
  -- beaches turned round
  have turnC : (turnE j = 5 ∧ turnR j = []) ∨ (turnE j = 0 ∧ ∃ t, turnR j = t ∧ Sized t ∧ Spec Try.prog 19 [V.c (.sl 0 t.length)] (⟨0, .ro 1, slsC 1 t⟩ :: entC 1 t) 32 (Is (.tup [.c (.i (leastO j)), .c (.i 0)])) ∧ Spec Try.prog 42 [V.c (.sl 0 t.length)] (⟨0, .ro 1, slsC 1 t⟩ :: entC 1 t) 32 (fun v L' _ => rowsR 31 rowJ jobC List.length [] j 0 v L')) := by
    rcases bool_or (harmful j) with hh | hh
    · have e5 : turnE j = 5 := by simp [turnE, hv, hh]
      exact .inl ⟨e5, by simp [turnR, e5]⟩
    · have e0 : turnE j = 0 := by simp [turnE, hv, hh]
      have eR : turnR j = turnJ j := by simp [turnR, e0]
      have hvt := turn_valid hv hh
      have hst := turn_sized hj
      have hct := validL_coast hst hvt
      have h1 := least_spec (turnJ j) hst
      rw [hvt, turn_least hc hct] at h1
      simp only [if_true] at h1
      have h2 := Turned_spec (turnJ j) hst
      have e1 : turnE (turnJ j) = 0 := by simp [turnE, hvt, turn_harmful hv]
      have e2 : turnR (turnJ j) = j := by simp [turnR, e1, turnJ_turnJ]
      rw [e1, e2] at h2
      exact .inr ⟨e0, _, eR, hst, h1, h2⟩
  have s1 := same_spec j hj hj.be
  obtain ⟨N, hN⟩ : ∃ N, N = leastO j := ⟨_, rfl⟩
  rw [← hN] at hLj freeC turnC
  have q1 : N = N := rfl
  rcases freeC with ⟨e5, eR⟩ | ⟨e0, a, M, eR, hsa, hM, hLa, hBa⟩
  · rw [e5, eR] at hF
    rcases turnC with ⟨f5, fR⟩ | ⟨f0, t, fR, hst, hLt, hTt⟩
    · rw [f5, fR] at hT
      refine Spec.of tok Try.func13 rfl rfl rfl fun n0 cx => vc_ok tok ?_
      repeat ((conv => whnf); first | (refine And.intro (by first | omega | exact Nat.le_of_ble_eq_true rfl | (dsimp only [inK]; omega) | (simp only [mulS_eq]; omega) | (simp only [mulS_eq, setL_length]; omega) | (simp only [setL_length]; omega) | (simp only [setL_length, List.length_map]; omega) | (exact ⟨by omega, by omega, by first | exact Nat.le_of_ble_eq_true rfl | (dsimp only; omega) | (simp only [setL_length]; omega) | (simp only [setL_length, List.length_map]; omega)⟩) | (exact ⟨by omega, by first | rfl | omega, by omega, Nat.le_of_ble_eq_true rfl, Nat.le_of_ble_eq_true rfl⟩) | (exact ⟨rfl, rfl, rfl, Nat.le_of_ble_eq_true rfl, by first | rfl | omega | exact Nat.le_of_ble_eq_true rfl | (dsimp only; omega) | (simp; done) | (simp; omega), by first | rfl | omega | exact Nat.le_of_ble_eq_true rfl | (dsimp only; omega) | (simp; done) | (simp; omega), by omega, Nat.le_of_ble_eq_true rfl⟩) | exact Eq.refl true) ?_) | refine Exists.intro _ (And.intro rfl ?_) | refine And.intro (And.intro rfl (chk_rowI _ _ _ _)) ?_ | refine br_t (by omega) ?_ | refine br_f (by omega) ?_ | refine bs_t (by omega) ?_ | refine bs_f (by omega) ?_ | refine fun (K' : K3) hK' => ?_ | (refine hK' _ _ _ ?_; clear hK' K') | (refine CallM.rows (d := []) (R := []) 40 (by omega) plain_jobs (fun p x => chk_jobs p x) rfl (fun e => by cases e) (by simp) hF (by kernel_rfl) rfl (by simp [V.wf, A.wf, C.wf]) (HasC.ro ⟨by ((try (conv => lhs; arg 1; whnf)); (repeat (first | rw [find_skip (by omega)] | rw [find_fam (by omega)])); rfl), fun k hk => by ((try (conv => lhs; arg 1; whnf)); (repeat (first | rw [find_skip (by omega)] | rw [find_fam (by omega)])); exact entC_find hk)⟩ hj) (injC hj) ?_) | (refine CallM.rows (d := []) (R := []) 61 (by omega) plain_jobs (fun p x => chk_jobs p x) rfl (fun e => by cases e) (by simp) hT (by kernel_rfl) rfl (by simp [V.wf, A.wf, C.wf]) (HasC.ro ⟨by ((try (conv => lhs; arg 1; whnf)); (repeat (first | rw [find_skip (by omega)] | rw [find_fam (by omega)])); rfl), fun k hk => by ((try (conv => lhs; arg 1; whnf)); (repeat (first | rw [find_skip (by omega)] | rw [find_fam (by omega)])); exact entC_find hk)⟩ hj) (injC hj) ?_) | refine draw_auto tok mixed (by kernel_rfl) ?_ | refine long_k (by omega) rfl ?_ | refine bs_bf hl ?_ | refine CallK.val (R := []) (rvalid_spec j hj) (by kernel_rfl) rfl (by simp [V.wf, A.wf, C.wf]) (HasC.ro ⟨rfl, fun k hk => by (repeat (first | rw [find_skip (by omega)] | rw [find_hi (by omega) (by rfl)])); exact entC_find hk⟩ hj) (injC hj) rfl trivial ?_ | (refine br_bf (by rw [hv]; rfl) ?_) | refine CallK.val (R := []) hLj (by kernel_rfl) rfl (by simp [V.wf, A.wf, C.wf]) (HasC.ro ⟨rfl, fun k hk => by (repeat (first | rw [find_skip (by omega)] | rw [find_hi (by omega) (by rfl)])); exact entC_find hk⟩ hj) (injC hj) rfl (by simp [V.wf, A.wf, C.wf]) ?_ | refine sane_k ?_ | refine bs_bt (Eq.refl true) ?_ | refine bs_bf (Eq.refl false) ?_ | refine br_bt (Eq.refl true) ?_ | refine br_bf (Eq.refl false) ?_ | refine CallK.m ?_ | refine Two.l ?_ | refine And.intro (And.intro rfl rfl) ?_)
      intro ρ; rfl
    · rw [f0, fR] at hT
      have ht20 := hst.len
      refine Spec.of tok Try.func13 rfl rfl rfl fun n0 cx => vc_ok tok ?_
      repeat ((conv => whnf); first | (refine And.intro (by first | omega | exact Nat.le_of_ble_eq_true rfl | (dsimp only [inK]; omega) | (simp only [mulS_eq]; omega) | (simp only [mulS_eq, setL_length]; omega) | (simp only [setL_length]; omega) | (simp only [setL_length, List.length_map]; omega) | (exact ⟨by omega, by omega, by first | exact Nat.le_of_ble_eq_true rfl | (dsimp only; omega) | (simp only [setL_length]; omega) | (simp only [setL_length, List.length_map]; omega)⟩) | (exact ⟨by omega, by first | rfl | omega, by omega, Nat.le_of_ble_eq_true rfl, Nat.le_of_ble_eq_true rfl⟩) | (exact ⟨rfl, rfl, rfl, Nat.le_of_ble_eq_true rfl, by first | rfl | omega | exact Nat.le_of_ble_eq_true rfl | (dsimp only; omega) | (simp; done) | (simp; omega), by first | rfl | omega | exact Nat.le_of_ble_eq_true rfl | (dsimp only; omega) | (simp; done) | (simp; omega), by omega, Nat.le_of_ble_eq_true rfl⟩) | exact Eq.refl true) ?_) | refine Exists.intro _ (And.intro rfl ?_) | refine And.intro (And.intro rfl (chk_rowI _ _ _ _)) ?_ | refine br_t (by omega) ?_ | refine br_f (by omega) ?_ | refine bs_t (by omega) ?_ | refine bs_f (by omega) ?_ | refine fun (K' : K3) hK' => ?_ | (refine hK' _ _ _ ?_; clear hK' K') | (refine CallM.rows (d := []) (R := []) 40 (by omega) plain_jobs (fun p x => chk_jobs p x) rfl (fun e => by cases e) (by simp) hF (by kernel_rfl) rfl (by simp [V.wf, A.wf, C.wf]) (HasC.ro ⟨by ((try (conv => lhs; arg 1; whnf)); (repeat (first | rw [find_skip (by omega)] | rw [find_fam (by omega)])); rfl), fun k hk => by ((try (conv => lhs; arg 1; whnf)); (repeat (first | rw [find_skip (by omega)] | rw [find_fam (by omega)])); exact entC_find hk)⟩ hj) (injC hj) ?_) | (refine CallM.rows (d := []) (R := []) 61 (by omega) plain_jobs (fun p x => chk_jobs p x) rfl (fun e => by cases e) ht20 hT (by kernel_rfl) rfl (by simp [V.wf, A.wf, C.wf]) (HasC.ro ⟨by ((try (conv => lhs; arg 1; whnf)); (repeat (first | rw [find_skip (by omega)] | rw [find_fam (by omega)])); rfl), fun k hk => by ((try (conv => lhs; arg 1; whnf)); (repeat (first | rw [find_skip (by omega)] | rw [find_fam (by omega)])); exact entC_find hk)⟩ hj) (injC hj) ?_) | (refine CallM.rows (d := []) (R := turR 60 0 t.length 61) 82 (by omega) plain_jobs (fun p x => chk_jobs p x) rfl (fun e => by cases e) hj20 hTt (by kernel_rfl) rfl (by simp [V.wf, A.wf, C.wf]) (HasT.ro0 ⟨by ((try (conv => lhs; arg 1; whnf)); (repeat (first | rw [find_skip (by omega)] | rw [find_fam (by omega)])); rfl), fun i hi => by ((try (conv => lhs; arg 1; whnf)); (repeat (first | rw [find_skip (by omega)] | rw [find_fam (by omega)])); exact find_app_some (famE_find hi))⟩ hst) (injC hst) ?_) | refine draw_auto tok mixed (by kernel_rfl) ?_ | refine long_k (by omega) rfl ?_ | refine bs_bf hl ?_ | refine CallK.val (R := []) (rvalid_spec j hj) (by kernel_rfl) rfl (by simp [V.wf, A.wf, C.wf]) (HasC.ro ⟨rfl, fun k hk => by (repeat (first | rw [find_skip (by omega)] | rw [find_hi (by omega) (by rfl)])); exact entC_find hk⟩ hj) (injC hj) rfl trivial ?_ | (refine br_bf (by rw [hv]; rfl) ?_) | refine CallK.val (R := []) hLj (by kernel_rfl) rfl (by simp [V.wf, A.wf, C.wf]) (HasC.ro ⟨rfl, fun k hk => by (repeat (first | rw [find_skip (by omega)] | rw [find_hi (by omega) (by rfl)])); exact entC_find hk⟩ hj) (injC hj) rfl (by simp [V.wf, A.wf, C.wf]) ?_ | (refine CallK.val (R := turR 60 0 t.length 61) hLt (by kernel_rfl) rfl (by simp [V.wf, A.wf, C.wf]) (HasT.ro0 ⟨by ((try (conv => lhs; arg 1; whnf)); (repeat (first | rw [find_skip (by omega)] | rw [find_fam (by omega)])); rfl), fun i hi => by ((try (conv => lhs; arg 1; whnf)); (repeat (first | rw [find_skip (by omega)] | rw [find_fam (by omega)])); exact find_app_some (famE_find hi))⟩ hst) (injC hst) rfl (by simp [V.wf, A.wf, C.wf]) ?_) | refine bs_t q1 ?_ | refine br_t q1 ?_ | (refine CallK.val (R := samR 81 82 0 1 j.length) s1 (by kernel_rfl) rfl (by simp [V.wf, A.wf, C.wf]) (HasU.same (HasT.u ⟨by ((try (conv => lhs; arg 1; whnf)); (repeat (first | rw [find_skip (by omega)] | rw [find_fam (by omega)])); rfl), fun i hi => by ((try (conv => lhs; arg 1; whnf)); (repeat (first | rw [find_skip (by omega)] | rw [find_fam (by omega)])); exact find_app_some (famE_find hi))⟩) (HasC.u ⟨by ((try (conv => lhs; arg 1; whnf)); (repeat (first | rw [find_skip (by omega)] | rw [find_fam (by omega)])); rfl), fun k hk => by ((try (conv => lhs; arg 1; whnf)); (repeat (first | rw [find_skip (by omega)] | rw [find_fam (by omega)])); exact entC_find hk)⟩) hj) (inj_same hj20) rfl trivial ?_) | refine sane_k ?_ | refine bs_bt (Eq.refl true) ?_ | refine bs_bf (Eq.refl false) ?_ | refine br_bt (Eq.refl true) ?_ | refine br_bf (Eq.refl false) ?_ | refine CallK.m ?_ | refine Two.l ?_ | refine And.intro (And.intro rfl rfl) ?_)
      intro ρ; rfl
  · rw [e0, eR] at hF
    have ha20 := hsa.len
    have q2 : ¬ M > N := by omega
    have q3 : ¬ M ≠ M := fun h => h rfl
    rcases turnC with ⟨f5, fR⟩ | ⟨f0, t, fR, hst, hLt, hTt⟩
    · rw [f5, fR] at hT
      refine Spec.of tok Try.func13 rfl rfl rfl fun n0 cx => vc_ok tok ?_
      repeat ((conv => whnf); first | (refine And.intro (by first | omega | exact Nat.le_of_ble_eq_true rfl | (dsimp only [inK]; omega) | (simp only [mulS_eq]; omega) | (simp only [mulS_eq, setL_length]; omega) | (simp only [setL_length]; omega) | (simp only [setL_length, List.length_map]; omega) | (exact ⟨by omega, by omega, by first | exact Nat.le_of_ble_eq_true rfl | (dsimp only; omega) | (simp only [setL_length]; omega) | (simp only [setL_length, List.length_map]; omega)⟩) | (exact ⟨by omega, by first | rfl | omega, by omega, Nat.le_of_ble_eq_true rfl, Nat.le_of_ble_eq_true rfl⟩) | (exact ⟨rfl, rfl, rfl, Nat.le_of_ble_eq_true rfl, by first | rfl | omega | exact Nat.le_of_ble_eq_true rfl | (dsimp only; omega) | (simp; done) | (simp; omega), by first | rfl | omega | exact Nat.le_of_ble_eq_true rfl | (dsimp only; omega) | (simp; done) | (simp; omega), by omega, Nat.le_of_ble_eq_true rfl⟩) | exact Eq.refl true) ?_) | refine Exists.intro _ (And.intro rfl ?_) | refine And.intro (And.intro rfl (chk_rowI _ _ _ _)) ?_ | refine br_t (by omega) ?_ | refine br_f (by omega) ?_ | refine bs_t (by omega) ?_ | refine bs_f (by omega) ?_ | refine fun (K' : K3) hK' => ?_ | (refine hK' _ _ _ ?_; clear hK' K') | (refine CallM.rows (d := []) (R := []) 40 (by omega) plain_jobs (fun p x => chk_jobs p x) rfl (fun e => by cases e) ha20 hF (by kernel_rfl) rfl (by simp [V.wf, A.wf, C.wf]) (HasC.ro ⟨by ((try (conv => lhs; arg 1; whnf)); (repeat (first | rw [find_skip (by omega)] | rw [find_fam (by omega)])); rfl), fun k hk => by ((try (conv => lhs; arg 1; whnf)); (repeat (first | rw [find_skip (by omega)] | rw [find_fam (by omega)])); exact entC_find hk)⟩ hj) (injC hj) ?_) | (refine CallM.rows (d := []) (R := []) 61 (by omega) plain_jobs (fun p x => chk_jobs p x) rfl (fun e => by cases e) (by simp) hT (by kernel_rfl) rfl (by simp [V.wf, A.wf, C.wf]) (HasC.ro ⟨by ((try (conv => lhs; arg 1; whnf)); (repeat (first | rw [find_skip (by omega)] | rw [find_fam (by omega)])); rfl), fun k hk => by ((try (conv => lhs; arg 1; whnf)); (repeat (first | rw [find_skip (by omega)] | rw [find_fam (by omega)])); exact entC_find hk)⟩ hj) (injC hj) ?_) | refine draw_auto tok mixed (by kernel_rfl) ?_ | refine long_k (by omega) rfl ?_ | refine bs_bf hl ?_ | refine CallK.val (R := []) (rvalid_spec j hj) (by kernel_rfl) rfl (by simp [V.wf, A.wf, C.wf]) (HasC.ro ⟨rfl, fun k hk => by (repeat (first | rw [find_skip (by omega)] | rw [find_hi (by omega) (by rfl)])); exact entC_find hk⟩ hj) (injC hj) rfl trivial ?_ | (refine br_bf (by rw [hv]; rfl) ?_) | refine CallK.val (R := []) hLj (by kernel_rfl) rfl (by simp [V.wf, A.wf, C.wf]) (HasC.ro ⟨rfl, fun k hk => by (repeat (first | rw [find_skip (by omega)] | rw [find_hi (by omega) (by rfl)])); exact entC_find hk⟩ hj) (injC hj) rfl (by simp [V.wf, A.wf, C.wf]) ?_ | (refine CallK.val (R := turR 32 0 a.length 40) hLa (by kernel_rfl) rfl (by simp [V.wf, A.wf, C.wf]) (HasT.ro0 ⟨by ((try (conv => lhs; arg 1; whnf)); (repeat (first | rw [find_skip (by omega)] | rw [find_fam (by omega)])); rfl), fun i hi => by ((try (conv => lhs; arg 1; whnf)); (repeat (first | rw [find_skip (by omega)] | rw [find_fam (by omega)])); exact find_app_some (famE_find hi))⟩ hsa) (injC hsa) rfl (by simp [V.wf, A.wf, C.wf]) ?_) | (refine CallK.val (R := turR 32 0 a.length 40) hBa (by kernel_rfl) rfl (by simp [V.wf, A.wf, C.wf]) (HasT.ro0 ⟨by ((try (conv => lhs; arg 1; whnf)); (repeat (first | rw [find_skip (by omega)] | rw [find_fam (by omega)])); rfl), fun i hi => by ((try (conv => lhs; arg 1; whnf)); (repeat (first | rw [find_skip (by omega)] | rw [find_fam (by omega)])); exact find_app_some (famE_find hi))⟩ hsa) (injC hsa) rfl (by simp [V.wf, A.wf, C.wf]) ?_) | refine bs_f q2 ?_ | refine br_f q2 ?_ | refine bs_f q3 ?_ | refine br_f q3 ?_ | refine sane_k ?_ | refine bs_bt (Eq.refl true) ?_ | refine bs_bf (Eq.refl false) ?_ | refine br_bt (Eq.refl true) ?_ | refine br_bf (Eq.refl false) ?_ | refine CallK.m ?_ | refine Two.l ?_ | refine And.intro (And.intro rfl rfl) ?_)
      intro ρ; rfl
    · rw [f0, fR] at hT
      have ht20 := hst.len
      refine Spec.of tok Try.func13 rfl rfl rfl fun n0 cx => vc_ok tok ?_
      repeat ((conv => whnf); first | (refine And.intro (by first | omega | exact Nat.le_of_ble_eq_true rfl | (dsimp only [inK]; omega) | (simp only [mulS_eq]; omega) | (simp only [mulS_eq, setL_length]; omega) | (simp only [setL_length]; omega) | (simp only [setL_length, List.length_map]; omega) | (exact ⟨by omega, by omega, by first | exact Nat.le_of_ble_eq_true rfl | (dsimp only; omega) | (simp only [setL_length]; omega) | (simp only [setL_length, List.length_map]; omega)⟩) | (exact ⟨by omega, by first | rfl | omega, by omega, Nat.le_of_ble_eq_true rfl, Nat.le_of_ble_eq_true rfl⟩) | (exact ⟨rfl, rfl, rfl, Nat.le_of_ble_eq_true rfl, by first | rfl | omega | exact Nat.le_of_ble_eq_true rfl | (dsimp only; omega) | (simp; done) | (simp; omega), by first | rfl | omega | exact Nat.le_of_ble_eq_true rfl | (dsimp only; omega) | (simp; done) | (simp; omega), by omega, Nat.le_of_ble_eq_true rfl⟩) | exact Eq.refl true) ?_) | refine Exists.intro _ (And.intro rfl ?_) | refine And.intro (And.intro rfl (chk_rowI _ _ _ _)) ?_ | refine br_t (by omega) ?_ | refine br_f (by omega) ?_ | refine bs_t (by omega) ?_ | refine bs_f (by omega) ?_ | refine fun (K' : K3) hK' => ?_ | (refine hK' _ _ _ ?_; clear hK' K') | (refine CallM.rows (d := []) (R := []) 40 (by omega) plain_jobs (fun p x => chk_jobs p x) rfl (fun e => by cases e) ha20 hF (by kernel_rfl) rfl (by simp [V.wf, A.wf, C.wf]) (HasC.ro ⟨by ((try (conv => lhs; arg 1; whnf)); (repeat (first | rw [find_skip (by omega)] | rw [find_fam (by omega)])); rfl), fun k hk => by ((try (conv => lhs; arg 1; whnf)); (repeat (first | rw [find_skip (by omega)] | rw [find_fam (by omega)])); exact entC_find hk)⟩ hj) (injC hj) ?_) | (refine CallM.rows (d := []) (R := []) 61 (by omega) plain_jobs (fun p x => chk_jobs p x) rfl (fun e => by cases e) ht20 hT (by kernel_rfl) rfl (by simp [V.wf, A.wf, C.wf]) (HasC.ro ⟨by ((try (conv => lhs; arg 1; whnf)); (repeat (first | rw [find_skip (by omega)] | rw [find_fam (by omega)])); rfl), fun k hk => by ((try (conv => lhs; arg 1; whnf)); (repeat (first | rw [find_skip (by omega)] | rw [find_fam (by omega)])); exact entC_find hk)⟩ hj) (injC hj) ?_) | (refine CallM.rows (d := []) (R := turR 60 0 t.length 61) 82 (by omega) plain_jobs (fun p x => chk_jobs p x) rfl (fun e => by cases e) hj20 hTt (by kernel_rfl) rfl (by simp [V.wf, A.wf, C.wf]) (HasT.ro0 ⟨by ((try (conv => lhs; arg 1; whnf)); (repeat (first | rw [find_skip (by omega)] | rw [find_fam (by omega)])); rfl), fun i hi => by ((try (conv => lhs; arg 1; whnf)); (repeat (first | rw [find_skip (by omega)] | rw [find_fam (by omega)])); exact find_app_some (famE_find hi))⟩ hst) (injC hst) ?_) | refine draw_auto tok mixed (by kernel_rfl) ?_ | refine long_k (by omega) rfl ?_ | refine bs_bf hl ?_ | refine CallK.val (R := []) (rvalid_spec j hj) (by kernel_rfl) rfl (by simp [V.wf, A.wf, C.wf]) (HasC.ro ⟨rfl, fun k hk => by (repeat (first | rw [find_skip (by omega)] | rw [find_hi (by omega) (by rfl)])); exact entC_find hk⟩ hj) (injC hj) rfl trivial ?_ | (refine br_bf (by rw [hv]; rfl) ?_) | refine CallK.val (R := []) hLj (by kernel_rfl) rfl (by simp [V.wf, A.wf, C.wf]) (HasC.ro ⟨rfl, fun k hk => by (repeat (first | rw [find_skip (by omega)] | rw [find_hi (by omega) (by rfl)])); exact entC_find hk⟩ hj) (injC hj) rfl (by simp [V.wf, A.wf, C.wf]) ?_ | (refine CallK.val (R := turR 32 0 a.length 40) hLa (by kernel_rfl) rfl (by simp [V.wf, A.wf, C.wf]) (HasT.ro0 ⟨by ((try (conv => lhs; arg 1; whnf)); (repeat (first | rw [find_skip (by omega)] | rw [find_fam (by omega)])); rfl), fun i hi => by ((try (conv => lhs; arg 1; whnf)); (repeat (first | rw [find_skip (by omega)] | rw [find_fam (by omega)])); exact find_app_some (famE_find hi))⟩ hsa) (injC hsa) rfl (by simp [V.wf, A.wf, C.wf]) ?_) | (refine CallK.val (R := turR 32 0 a.length 40) hBa (by kernel_rfl) rfl (by simp [V.wf, A.wf, C.wf]) (HasT.ro0 ⟨by ((try (conv => lhs; arg 1; whnf)); (repeat (first | rw [find_skip (by omega)] | rw [find_fam (by omega)])); rfl), fun i hi => by ((try (conv => lhs; arg 1; whnf)); (repeat (first | rw [find_skip (by omega)] | rw [find_fam (by omega)])); exact find_app_some (famE_find hi))⟩ hsa) (injC hsa) rfl (by simp [V.wf, A.wf, C.wf]) ?_) | refine bs_f q2 ?_ | refine br_f q2 ?_ | refine bs_f q3 ?_ | refine br_f q3 ?_ | (refine CallK.val (R := turR 60 0 t.length 61) hLt (by kernel_rfl) rfl (by simp [V.wf, A.wf, C.wf]) (HasT.ro0 ⟨by ((try (conv => lhs; arg 1; whnf)); (repeat (first | rw [find_skip (by omega)] | rw [find_fam (by omega)])); rfl), fun i hi => by ((try (conv => lhs; arg 1; whnf)); (repeat (first | rw [find_skip (by omega)] | rw [find_fam (by omega)])); exact find_app_some (famE_find hi))⟩ hst) (injC hst) rfl (by simp [V.wf, A.wf, C.wf]) ?_) | refine bs_t q1 ?_ | refine br_t q1 ?_ | (refine CallK.val (R := samR 81 82 0 1 j.length) s1 (by kernel_rfl) rfl (by simp [V.wf, A.wf, C.wf]) (HasU.same (HasT.u ⟨by ((try (conv => lhs; arg 1; whnf)); (repeat (first | rw [find_skip (by omega)] | rw [find_fam (by omega)])); rfl), fun i hi => by ((try (conv => lhs; arg 1; whnf)); (repeat (first | rw [find_skip (by omega)] | rw [find_fam (by omega)])); exact find_app_some (famE_find hi))⟩) (HasC.u ⟨by ((try (conv => lhs; arg 1; whnf)); (repeat (first | rw [find_skip (by omega)] | rw [find_fam (by omega)])); rfl), fun k hk => by ((try (conv => lhs; arg 1; whnf)); (repeat (first | rw [find_skip (by omega)] | rw [find_fam (by omega)])); exact entC_find hk)⟩) hj) (inj_same hj20) rfl trivial ?_) | refine sane_k ?_ | refine bs_bt (Eq.refl true) ?_ | refine bs_bf (Eq.refl false) ?_ | refine br_bt (Eq.refl true) ?_ | refine br_bf (Eq.refl false) ?_ | refine CallK.m ?_ | refine Two.l ?_ | refine And.intro (And.intro rfl rfl) ?_)
      intro ρ; rfl
theorem frees_any (j : Coast) (ao : Option Addr) (c : Nat) (bs : Nat → Option Addr × Nat) (w : World) (h : CoastAt w ao c j bs) :
    Calls Try.prog 13 #[.slice ao j.length c] w fun e w' => e = .returned (.bool true) ∧ Below w.heap.size w w' := by
  rcases bool_or (longB j) with hl | hl
  · exact isTrue_any (vs := [V.c (.sl 0 j.length)]) (frees_spec j (longB_sized hl) hl) (hp_coast h (longB_sized hl)) (by simp [V.wf, A.wf, C.wf]) rfl
  · exact isTrue_any (vs := [V.c (.sl 0 j.length)]) (frees_long j h.lt hl) (hp_long h none 0) (by simp [V.wf, A.wf, C.wf]) rfl
end Go.Proofs.Ytjijjncddjkdlaa

