/- The reference's sum of two slicks. -/
import Derived.Test.YtnafllhgjidbkaaAD
import Derived.Test.YtnafllhgjidbkaaT28
namespace Go.Proofs.Ytnafllhgjidbkaa
open Go.RowKit
set_option linter.unusedVariables false
set_option linter.unusedSimpArgs false
theorem covE_some {R : Rn} {nx l : Nat} {L : List E} {e : E} {cs' : List C} (hr : renL R e.lab = some l) (h1 : e.lab < nx) (h2 : ∀ c ∈ e.cs, c.wf nx) (h3 : find L l = some ⟨l, e.kd, cs'⟩) (h4 : seqO (e.cs.map (C.ren R)) = some cs') : covE R nx L e := by
  unfold covE; rw [hr]; exact ⟨h1, h2, cs', h3, h4⟩
theorem covE_nil {R : Rn} {nx t z : Nat} {L : List E} {e : E} (hr : renL R e.lab = none) (h1 : e.lab < nx) (h2 : e.cs = []) (h3 : e.kd = .vec t z) : covE R nx L e := by
  unfold covE; rw [hr]; exact ⟨h1, (by rw [h2]; simp), h2, t, z, h3⟩
theorem ren_bools (R : Rn) (l : List Bool) : seqO ((l.map C.bool).map (C.ren R)) = some (l.map C.bool) := by
  induction l with
  | nil => rfl
  | cons x r ih => simp only [List.map_cons, C.ren, seqO] at *; rw [ih]
theorem seqO_fix {R : Rn} {l : List C} (h : ∀ c ∈ l, c.ren R = some c) : seqO (l.map (C.ren R)) = some l := by
  induction l with
  | nil => rfl
  | cons x r ih =>
    rw [List.map_cons, h x (by simp)]
    simp only [seqO]
    rw [ih (fun c hc => h c (by simp [hc]))]
theorem ren_shares (R : Rn) (l : List Five) : seqO ((shareC l).map (C.ren R)) = some (shareC l) := seqO_fix fun c hc => by
  obtain ⟨j, _, hc⟩ := List.mem_flatMap.1 hc
  simp only [fiveC, List.mem_cons, List.not_mem_nil, or_false] at hc
  rcases hc with rfl | rfl | rfl | rfl | rfl <;> rfl
theorem find_take {L : List E} {l : Nat} {k : Kd} {xs : List Int} {n : Nat} (hn : n = xs.length) (h : find L l = some ⟨l, k, (xs.take n).map C.i⟩) : find L l = some ⟨l, k, xs.map C.i⟩ := by
  subst hn; rwa [List.take_length] at h
theorem take_more {l : List Int} {k : Nat} {x : Int} (h : k < l.length) (hx : l.getD k 0 = x) : (l.take k).map C.i ++ [C.i x] = (l.take (k + 1)).map C.i := by
  rw [List.take_add_one, List.map_append, ← hx]
  simp [List.getD_eq_getElem?_getD, h]
theorem rsE_bay {B : Bay} {s t : Slk} (h : validB B = false) : sumE B s t = 20 := by unfold sumE; rw [h]; rfl
theorem rsE_no {B : Bay} {s t : Slk} (h : validB B = true) (hn : ¬ (fitsB B s = true ∧ fitsB B t = true ∧ s.K = t.K ∧ fitsB B (addS s t) = true)) : sumE B s t = 21 := by unfold sumE; rw [if_pos h, if_neg hn]
theorem rsE_ok {B : Bay} {s t : Slk} (h : validB B = true) (hn : fitsB B s = true ∧ fitsB B t = true ∧ s.K = t.K ∧ fitsB B (addS s t) = true) : sumE B s t = 0 := by unfold sumE; rw [if_pos h, if_pos hn]
theorem rsS_no {B : Bay} {s t : Slk} (h : sumE B s t ≠ 0) : sumS B s t = ⟨0, [], 0⟩ := by unfold sumS; rw [if_neg h]
theorem rsS_ok {B : Bay} {s t : Slk} (h : sumE B s t = 0) : sumS B s t = addS s t := by unfold sumS; rw [if_pos h]
def slkQ (S : Slk) (Er : Int) (v : V) (L' : List E) : Prop :=
  ∃ o : C, v = V.tup [A.agg [C.i S.K, o, C.i S.Away], A.c (C.i Er)] ∧ ((o = C.nil ∧ S.Oil = []) ∨ ∃ l, o = C.sl l S.Oil.length ∧ find L' l = some ⟨l, .vec 3 1, S.Oil.map C.i⟩)
theorem slkQ_zero {S : Slk} {Er : Int} {L' : List E} (h : S = ⟨0, [], 0⟩) : slkQ S Er (V.tup [A.agg [C.i 0, C.nil, C.i 0], A.c (C.i Er)]) L' := by
  subst h; exact ⟨C.nil, rfl, .inl ⟨rfl, rfl⟩⟩
set_option maxRecDepth 100000 in
theorem rsum_spec (B : Bay) (s t : Slk) (hll : B.Land.length ≤ 100) (hsl : B.Share.length ≤ 100) (hsn : s.Oil.length < 1152921504606846976) (htn : t.Oil.length < 1152921504606846976) :
    Spec Try.prog 41 [V.agg [C.i B.W, C.i B.H, C.sl 0 B.Land.length, C.sl 1 B.Share.length], V.agg [C.i s.K, C.sl 2 s.Oil.length, C.i s.Away], V.agg [C.i t.K, C.sl 3 t.Oil.length, C.i t.Away]]
      [⟨0, .ro 0, B.Land.map C.bool⟩, ⟨1, .ro 0, shareC B.Share⟩, ⟨2, .ro 0, s.Oil.map C.i⟩, ⟨3, .ro 0, t.Oil.map C.i⟩] 4
      (fun v L' _ => slkQ (sumS B s t) (sumE B s t) v L') := by
  cases hval : validB B
  · have hE := rsE_bay (s := s) (t := t) hval
    have hS := rsS_no (B := B) (s := s) (t := t) (by rw [hE]; decide)
    have hb : (!validB B) = true := by rw [hval]; rfl
    rw [hE]
    refine Spec.of tok Try.func41 rfl rfl rfl fun n0 => vc_ok tok ?_
    repeat ((conv => whnf); first
        | (refine And.intro (by first | omega | exact Nat.le_of_ble_eq_true rfl | (dsimp only [inK]; omega) | (simp only [mulS_eq]; omega) | (simp only [mulS_eq, setL_length]; omega) | (simp only [setL_length, List.length_map]; omega) | exact ⟨by omega, by omega, by first | exact Nat.le_of_ble_eq_true rfl | (dsimp only; omega) | (simp only [setL_length]; omega) | (simp only [setL_length, List.length_map]; omega)⟩ | exact ⟨by omega, by first | rfl | omega, by omega, Nat.le_of_ble_eq_true rfl, Nat.le_of_ble_eq_true rfl⟩ | exact ⟨rfl, rfl, rfl, Nat.le_of_ble_eq_true rfl, by first | rfl | omega | exact Nat.le_of_ble_eq_true rfl | (simp; done) | (simp; omega), by first | rfl | omega | exact Nat.le_of_ble_eq_true rfl | (simp; done) | (simp; omega), by omega, Nat.le_of_ble_eq_true rfl⟩ | exact Eq.refl true) ?_)
        | (refine Exists.intro _ (And.intro rfl ?_))
        | (refine br_t (by omega) ?_)
        | (refine br_f (by omega) ?_)
        | (refine bs_t (by omega) ?_)
        | (refine bs_f (by omega) ?_)
        | (refine fun (K' : K3) hK' => ?_)
        | (refine hK' _ _ _ ?_; clear hK' K')
        | (refine draw_auto tok mixed (by kernel_rfl) ?_)
        | (refine rvalid_k hll hsl rfl rfl ?_)
        | (refine br_bt hb ?_)
        | (refine And.intro (And.intro rfl rfl) ?_))
    exact slkQ_zero hS
  have hb : (!validB B) = false := by rw [hval]; rfl
  have hvp : validP B := by simpa [validB] using hval
  have refuse : ¬ (fitsB B s = true ∧ fitsB B t = true ∧ s.K = t.K ∧ fitsB B (addS s t) = true) → sumE B s t = 21 ∧ sumS B s t = ⟨0, [], 0⟩ := fun h => ⟨rsE_no hval h, rsS_no (by rw [rsE_no hval h]; decide)⟩
  cases hfs : fitsB B s
  · obtain ⟨hE, hS⟩ := refuse (by simp [hfs])
    have hb1 : (!fitsB B s) = true := by rw [hfs]; rfl
    rw [hE]
    refine Spec.of tok Try.func41 rfl rfl rfl fun n0 => vc_ok tok ?_
    repeat ((conv => whnf); first
        | (refine And.intro (by first | omega | exact Nat.le_of_ble_eq_true rfl | (dsimp only [inK]; omega) | (simp only [mulS_eq]; omega) | (simp only [mulS_eq, setL_length]; omega) | (simp only [setL_length, List.length_map]; omega) | exact ⟨by omega, by omega, by first | exact Nat.le_of_ble_eq_true rfl | (dsimp only; omega) | (simp only [setL_length]; omega) | (simp only [setL_length, List.length_map]; omega)⟩ | exact ⟨by omega, by first | rfl | omega, by omega, Nat.le_of_ble_eq_true rfl, Nat.le_of_ble_eq_true rfl⟩ | exact ⟨rfl, rfl, rfl, Nat.le_of_ble_eq_true rfl, by first | rfl | omega | exact Nat.le_of_ble_eq_true rfl | (simp; done) | (simp; omega), by first | rfl | omega | exact Nat.le_of_ble_eq_true rfl | (simp; done) | (simp; omega), by omega, Nat.le_of_ble_eq_true rfl⟩ | exact Eq.refl true) ?_)
        | (refine Exists.intro _ (And.intro rfl ?_))
        | (refine br_t (by omega) ?_)
        | (refine br_f (by omega) ?_)
        | (refine bs_t (by omega) ?_)
        | (refine bs_f (by omega) ?_)
        | (refine fun (K' : K3) hK' => ?_)
        | (refine hK' _ _ _ ?_; clear hK' K')
        | (refine draw_auto tok mixed (by kernel_rfl) ?_)
        | (refine rvalid_k hll hsl rfl rfl ?_)
        | (refine br_bf hb ?_)
        | (refine is_k (s := s) hvp hll hsl hsn rfl rfl rfl ?_)
        | (refine br_bt hb1 ?_)
        | (refine bs_bt hb1 ?_)
        | (refine And.intro (And.intro rfl rfl) ?_))
    exact slkQ_zero hS
  have hb1 : (!fitsB B s) = false := by rw [hfs]; rfl
  cases hft : fitsB B t
  · obtain ⟨hE, hS⟩ := refuse (by simp [hft])
    have hb2 : (!fitsB B t) = true := by rw [hft]; rfl
    rw [hE]
    refine Spec.of tok Try.func41 rfl rfl rfl fun n0 => vc_ok tok ?_
    repeat ((conv => whnf); first
        | (refine And.intro (by first | omega | exact Nat.le_of_ble_eq_true rfl | (dsimp only [inK]; omega) | (simp only [mulS_eq]; omega) | (simp only [mulS_eq, setL_length]; omega) | (simp only [setL_length, List.length_map]; omega) | exact ⟨by omega, by omega, by first | exact Nat.le_of_ble_eq_true rfl | (dsimp only; omega) | (simp only [setL_length]; omega) | (simp only [setL_length, List.length_map]; omega)⟩ | exact ⟨by omega, by first | rfl | omega, by omega, Nat.le_of_ble_eq_true rfl, Nat.le_of_ble_eq_true rfl⟩ | exact ⟨rfl, rfl, rfl, Nat.le_of_ble_eq_true rfl, by first | rfl | omega | exact Nat.le_of_ble_eq_true rfl | (simp; done) | (simp; omega), by first | rfl | omega | exact Nat.le_of_ble_eq_true rfl | (simp; done) | (simp; omega), by omega, Nat.le_of_ble_eq_true rfl⟩ | exact Eq.refl true) ?_)
        | (refine Exists.intro _ (And.intro rfl ?_))
        | (refine br_t (by omega) ?_)
        | (refine br_f (by omega) ?_)
        | (refine bs_t (by omega) ?_)
        | (refine bs_f (by omega) ?_)
        | (refine fun (K' : K3) hK' => ?_)
        | (refine hK' _ _ _ ?_; clear hK' K')
        | (refine draw_auto tok mixed (by kernel_rfl) ?_)
        | (refine rvalid_k hll hsl rfl rfl ?_)
        | (refine br_bf hb ?_)
        | (refine is_k (s := s) hvp hll hsl hsn rfl rfl rfl ?_)
        | (refine is_k (s := t) hvp hll hsl htn rfl rfl rfl ?_)
        | (refine br_bf hb1 ?_)
        | (refine bs_bf hb1 ?_)
        | (refine br_bt hb2 ?_)
        | (refine bs_bt hb2 ?_)
        | (refine And.intro (And.intro rfl rfl) ?_))
    exact slkQ_zero hS
  have hb2 : (!fitsB B t) = false := by rw [hft]; rfl
  by_cases hk : s.K = t.K
  case neg =>
    obtain ⟨hE, hS⟩ := refuse (by simp [hk])
    rw [hE]
    refine Spec.of tok Try.func41 rfl rfl rfl fun n0 => vc_ok tok ?_
    repeat ((conv => whnf); first
        | (refine And.intro (by first | omega | exact Nat.le_of_ble_eq_true rfl | (dsimp only [inK]; omega) | (simp only [mulS_eq]; omega) | (simp only [mulS_eq, setL_length]; omega) | (simp only [setL_length, List.length_map]; omega) | exact ⟨by omega, by omega, by first | exact Nat.le_of_ble_eq_true rfl | (dsimp only; omega) | (simp only [setL_length]; omega) | (simp only [setL_length, List.length_map]; omega)⟩ | exact ⟨by omega, by first | rfl | omega, by omega, Nat.le_of_ble_eq_true rfl, Nat.le_of_ble_eq_true rfl⟩ | exact ⟨rfl, rfl, rfl, Nat.le_of_ble_eq_true rfl, by first | rfl | omega | exact Nat.le_of_ble_eq_true rfl | (simp; done) | (simp; omega), by first | rfl | omega | exact Nat.le_of_ble_eq_true rfl | (simp; done) | (simp; omega), by omega, Nat.le_of_ble_eq_true rfl⟩ | exact Eq.refl true) ?_)
        | (refine Exists.intro _ (And.intro rfl ?_))
        | (refine br_t (by omega) ?_)
        | (refine br_f (by omega) ?_)
        | (refine bs_t (by omega) ?_)
        | (refine bs_f (by omega) ?_)
        | (refine fun (K' : K3) hK' => ?_)
        | (refine hK' _ _ _ ?_; clear hK' K')
        | (refine draw_auto tok mixed (by kernel_rfl) ?_)
        | (refine rvalid_k hll hsl rfl rfl ?_)
        | (refine br_bf hb ?_)
        | (refine is_k (s := s) hvp hll hsl hsn rfl rfl rfl ?_)
        | (refine is_k (s := t) hvp hll hsl htn rfl rfl rfl ?_)
        | (refine br_bf hb1 ?_)
        | (refine bs_bf hb1 ?_)
        | (refine br_bf hb2 ?_)
        | (refine bs_bf hb2 ?_)
        | (refine And.intro (And.intro rfl rfl) ?_))
    exact slkQ_zero hS
  have fs := fitsB_iff.1 hfs
  have ft := fitsB_iff.1 hft
  have hlen : s.Oil.length = t.Oil.length := by have := fs.2.1; have := ft.2.1; omega
  have hal : (addS s t).Oil.length = s.Oil.length := addL_len hlen
  have hp36 := mul36 hvp.1.1 hvp.1.2 hvp.2.1.1 hvp.2.1.2
  have h36 : s.Oil.length ≤ 36 := by have := fs.2.1; omega
  have hrs := amt_range fs.2.2.1
  have hrt := amt_range ft.2.2.1
  have hps := pow_bd s.K fs.1.1 fs.1.2
  have hpt := pow_bd t.K ft.1.1 ft.1.2
  have hls : lim s.K ≤ 37748736000 := by unfold lim; omega
  have hlt : lim t.K ≤ 37748736000 := by unfold lim; omega
  have hss := sum_bd s.Oil hrs
  have hst := sum_bd t.Oil hrt
  have fa := fs.2.2.2
  have ta := ft.2.2.2
  have main : ∀ (S : Slk) (Er : Int), ((fitsB B (addS s t) = true ∧ S = addS s t ∧ Er = 0) ∨ (fitsB B (addS s t) = false ∧ S = ⟨0, [], 0⟩ ∧ Er = 21)) →
      Spec Try.prog 41 [V.agg [C.i B.W, C.i B.H, C.sl 0 B.Land.length, C.sl 1 B.Share.length], V.agg [C.i s.K, C.sl 2 s.Oil.length, C.i s.Away], V.agg [C.i t.K, C.sl 3 t.Oil.length, C.i t.Away]]
      [⟨0, .ro 0, B.Land.map C.bool⟩, ⟨1, .ro 0, shareC B.Share⟩, ⟨2, .ro 0, s.Oil.map C.i⟩, ⟨3, .ro 0, t.Oil.map C.i⟩] 4
      (fun v L' _ => slkQ S Er v L') := by
    intro S Er hSE
    refine Spec.of tok Try.func41 rfl rfl rfl fun n0 => vc_ok tok ?_
    repeat ((conv => whnf); first
        | (refine And.intro (by first | omega | exact Nat.le_of_ble_eq_true rfl | (dsimp only [inK]; omega) | (simp only [mulS_eq]; omega) | (simp only [mulS_eq, setL_length]; omega) | (simp only [setL_length, List.length_map]; omega) | exact ⟨by omega, by omega, by first | exact Nat.le_of_ble_eq_true rfl | (dsimp only; omega) | (simp only [setL_length]; omega) | (simp only [setL_length, List.length_map]; omega)⟩ | exact ⟨by omega, by first | rfl | omega, by omega, Nat.le_of_ble_eq_true rfl, Nat.le_of_ble_eq_true rfl⟩ | exact ⟨rfl, rfl, rfl, Nat.le_of_ble_eq_true rfl, by first | rfl | omega | exact Nat.le_of_ble_eq_true rfl | (simp; done) | (simp; omega), by first | rfl | omega | exact Nat.le_of_ble_eq_true rfl | (simp; done) | (simp; omega), by omega, Nat.le_of_ble_eq_true rfl⟩ | exact Eq.refl true) ?_)
        | (refine Exists.intro _ (And.intro rfl ?_))
        | (refine br_t (by omega) ?_)
        | (refine br_f (by omega) ?_)
        | (refine bs_t (by omega) ?_)
        | (refine bs_f (by omega) ?_)
        | (refine fun (K' : K3) hK' => ?_)
        | (refine hK' _ _ _ ?_; clear hK' K')
        | (refine draw_auto tok mixed (by kernel_rfl) ?_)
        | (refine rvalid_k hll hsl rfl rfl ?_)
        | (refine br_bf hb ?_)
        | (refine is_k (s := s) hvp hll hsl hsn rfl rfl rfl ?_)
        | (refine is_k (s := t) hvp hll hsl htn rfl rfl rfl ?_)
        | (refine br_bf hb1 ?_)
        | (refine bs_bf hb1 ?_)
        | (refine br_bf hb2 ?_)
        | (refine bs_bf hb2 ?_)
        | (refine And.intro (And.intro rfl rfl) ?_))
    refine Tri.loop (γ := Nat) (fun k => k ≤ s.Oil.length)
      (fun k => [(3, V.c (.ptr 4 0)), (4, V.c (.ptr 5 0)), (5, V.c (.ptr 6 0)), (6, V.c (.ptr 7 0)), (8, V.c (.ptr 8 0)), (9, V.i (k : Int))])
      (fun k => [⟨0, .ro 0, B.Land.map C.bool⟩, ⟨1, .ro 0, shareC B.Share⟩, ⟨2, .ro 0, s.Oil.map C.i⟩, ⟨3, .ro 0, t.Oil.map C.i⟩, ⟨4, .own 25, [C.i B.W, C.i B.H, C.sl 0 B.Land.length, C.sl 1 B.Share.length]⟩, ⟨5, .own 28, [C.i s.K, C.sl 2 s.Oil.length, C.i s.Away]⟩, ⟨6, .own 28, [C.i t.K, C.sl 3 t.Oil.length, C.i t.Away]⟩, ⟨7, .own 28, [C.i 0, C.nil, C.i 0]⟩,
        ⟨8, .own 28, [C.i s.K, C.sl 9 k, C.i (s.Away + t.Away)]⟩, ⟨9, .vec 3 1, ((addS s t).Oil.take k).map C.i⟩]) 10 (fun k => s.Oil.length - k) 0 (R0 := [(9, none)]) ?_ ?_ ?_
    · exact Nat.zero_le _
    · skip
      refine ⟨?_, ?_, rfl, rfl, Nat.le_of_ble_eq_true rfl⟩
      · repeat (first | exact trivial | refine And.intro (And.intro (by first | rfl) (And.intro rfl (by first | exact trivial | exact Nat.le_of_ble_eq_true rfl))) ?_)
      · repeat (first | exact trivial | refine And.intro (covE_nil rfl (Nat.le_of_ble_eq_true rfl) rfl rfl) ?_ | refine And.intro (covE_some rfl (Nat.le_of_ble_eq_true rfl) (by first | exact wf_ints _ _ | exact wf_bools _ _ | exact wf_shares _ _ | simp [C.wf]) rfl (by first | exact ren_ints _ _ | exact ren_bools _ _ | exact ren_shares _ _ | (refine (ren_ints _ _).trans (congrArg some ?_); fail) | rfl)) ?_)
    · rintro k hk
      refine vc_ok tok ?_
      by_cases hlt : k < s.Oil.length
      · have hr1 := hrs k hlt
        have hr2 := hrt k (by omega)
        repeat ((conv => whnf); first
            | (refine And.intro (by first | omega | exact Nat.le_of_ble_eq_true rfl | (dsimp only [inK]; omega) | (simp only [mulS_eq]; omega) | (simp only [mulS_eq, setL_length]; omega) | (simp only [setL_length, List.length_map]; omega) | exact ⟨by omega, by omega, by first | exact Nat.le_of_ble_eq_true rfl | (dsimp only; omega) | (simp only [setL_length]; omega) | (simp only [setL_length, List.length_map]; omega)⟩ | exact ⟨by omega, by first | rfl | omega, by omega, Nat.le_of_ble_eq_true rfl, Nat.le_of_ble_eq_true rfl⟩ | exact ⟨rfl, rfl, rfl, Nat.le_of_ble_eq_true rfl, by first | rfl | omega | exact Nat.le_of_ble_eq_true rfl | (simp; done) | (simp; omega), by first | rfl | omega | exact Nat.le_of_ble_eq_true rfl | (simp; done) | (simp; omega), by omega, Nat.le_of_ble_eq_true rfl⟩ | exact Eq.refl true) ?_)
            | (with_reducible refine ld (intL hlt) ?_)
            | (with_reducible refine ld (intL (l := t.Oil) (by omega)) ?_)
            | (refine Exists.intro _ (And.intro rfl ?_))
            | (refine br_t (by omega) ?_)
            | (refine br_f (by omega) ?_)
            | (refine bs_t (by omega) ?_)
            | (refine bs_f (by omega) ?_)
            | (refine fun (K' : K3) hK' => ?_)
            | (refine hK' _ _ _ ?_; clear hK' K')
            | (refine draw_auto tok mixed (by kernel_rfl) ?_)
            | (refine And.intro (And.intro rfl rfl) ?_))
        have htm : ((addS s t).Oil.take k).map C.i ++ [C.i (s.Oil.getD k 0 + t.Oil.getD k 0)] = ((addS s t).Oil.take (k + 1)).map C.i := take_more (by omega) (addL_get hlen k)
        refine ⟨k + 1, [(9, some 11)], by omega, by omega, ?_⟩
        refine ⟨?_, ?_, rfl, rfl, Nat.le_of_ble_eq_true rfl⟩
        · repeat (first | exact trivial | refine And.intro (And.intro (by first | rfl) (And.intro rfl (by first | exact trivial | exact Nat.le_of_ble_eq_true rfl))) ?_)
        · repeat (first | exact trivial | refine And.intro (covE_nil rfl (Nat.le_of_ble_eq_true rfl) rfl rfl) ?_ | refine And.intro (covE_some rfl (Nat.le_of_ble_eq_true rfl) (by first | exact wf_ints _ _ | exact wf_bools _ _ | exact wf_shares _ _ | simp [C.wf]) rfl (by first | exact ren_ints _ _ | exact ren_bools _ _ | exact ren_shares _ _ | (refine (ren_ints _ _).trans (congrArg some ?_); exact htm.symm) | rfl)) ?_)
      · obtain rfl : k = (addS s t).Oil.length := by omega
        have hlt : ¬ (((addS s t).Oil.length : Int) < (s.Oil.length : Int)) := by omega
        rcases hSE with ⟨hf, rfl, rfl⟩ | ⟨hf, rfl, rfl⟩
        · have hb3 : (!fitsB B (addS s t)) = false := by rw [hf]; rfl
          repeat ((conv => whnf); first
              | (refine And.intro (by first | omega | exact Nat.le_of_ble_eq_true rfl | (dsimp only [inK]; omega) | (simp only [mulS_eq]; omega) | (simp only [mulS_eq, setL_length]; omega) | (simp only [setL_length, List.length_map]; omega) | exact ⟨by omega, by omega, by first | exact Nat.le_of_ble_eq_true rfl | (dsimp only; omega) | (simp only [setL_length]; omega) | (simp only [setL_length, List.length_map]; omega)⟩ | exact ⟨by omega, by first | rfl | omega, by omega, Nat.le_of_ble_eq_true rfl, Nat.le_of_ble_eq_true rfl⟩ | exact ⟨rfl, rfl, rfl, Nat.le_of_ble_eq_true rfl, by first | rfl | omega | exact Nat.le_of_ble_eq_true rfl | (simp; done) | (simp; omega), by first | rfl | omega | exact Nat.le_of_ble_eq_true rfl | (simp; done) | (simp; omega), by omega, Nat.le_of_ble_eq_true rfl⟩ | exact Eq.refl true) ?_)
              | (refine Exists.intro _ (And.intro rfl ?_))
              | (refine br_t (by omega) ?_)
              | (refine br_f (by omega) ?_)
              | (refine bs_t (by omega) ?_)
              | (refine bs_f (by omega) ?_)
              | (refine fun (K' : K3) hK' => ?_)
              | (refine hK' _ _ _ ?_; clear hK' K')
              | (refine draw_auto tok mixed (by kernel_rfl) ?_)
              | (refine is_k (s := addS s t) hvp hll hsl (by omega) rfl rfl (find_take rfl rfl) ?_)
              | (refine br_bf hb3 ?_)
              | (refine And.intro (And.intro rfl rfl) ?_))
          exact .inr ⟨9, rfl, find_take rfl rfl⟩
        · have hb3 : (!fitsB B (addS s t)) = true := by rw [hf]; rfl
          repeat ((conv => whnf); first
              | (refine And.intro (by first | omega | exact Nat.le_of_ble_eq_true rfl | (dsimp only [inK]; omega) | (simp only [mulS_eq]; omega) | (simp only [mulS_eq, setL_length]; omega) | (simp only [setL_length, List.length_map]; omega) | exact ⟨by omega, by omega, by first | exact Nat.le_of_ble_eq_true rfl | (dsimp only; omega) | (simp only [setL_length]; omega) | (simp only [setL_length, List.length_map]; omega)⟩ | exact ⟨by omega, by first | rfl | omega, by omega, Nat.le_of_ble_eq_true rfl, Nat.le_of_ble_eq_true rfl⟩ | exact ⟨rfl, rfl, rfl, Nat.le_of_ble_eq_true rfl, by first | rfl | omega | exact Nat.le_of_ble_eq_true rfl | (simp; done) | (simp; omega), by first | rfl | omega | exact Nat.le_of_ble_eq_true rfl | (simp; done) | (simp; omega), by omega, Nat.le_of_ble_eq_true rfl⟩ | exact Eq.refl true) ?_)
              | (refine Exists.intro _ (And.intro rfl ?_))
              | (refine br_t (by omega) ?_)
              | (refine br_f (by omega) ?_)
              | (refine bs_t (by omega) ?_)
              | (refine bs_f (by omega) ?_)
              | (refine fun (K' : K3) hK' => ?_)
              | (refine hK' _ _ _ ?_; clear hK' K')
              | (refine draw_auto tok mixed (by kernel_rfl) ?_)
              | (refine is_k (s := addS s t) hvp hll hsl (by omega) rfl rfl (find_take rfl rfl) ?_)
              | (refine br_bt hb3 ?_)
              | (refine And.intro (And.intro rfl rfl) ?_))
          exact .inl ⟨rfl, rfl⟩
  cases hfa : fitsB B (addS s t)
  · obtain ⟨hE, hS⟩ := refuse (by simp [hfa])
    rw [hE, hS]
    exact main _ _ (.inr ⟨hfa, rfl, rfl⟩)
  · have hE := rsE_ok hval ⟨hfs, hft, hk, hfa⟩
    rw [hE, rsS_ok hE]
    exact main _ _ (.inl ⟨hfa, rfl, rfl⟩)
theorem Aft3_of {w w' : World} {n0 nx : Nat} {ρ : Env} {S : Slk} {Er : Int} {v : V} {L : List E} (hq : slkQ S Er v L) (hp : Hp n0 ρ w' L nx) (h0 : w.heap.size ≤ n0) (hn : S.Oil.length < 1152921504606846976) (hb : Below w.heap.size w w') : Aft3 w S Er (.returned (v.den ρ)) w' := by
  obtain ⟨o, rfl, ⟨rfl, h⟩ | ⟨l, rfl, hf⟩⟩ := hq
  · refine ⟨.agg #[.int .i64 S.K, .slice none 0 0, .int .i64 S.Away], rfl, ⟨none, 0, by rw [h]; rfl, ?_, hn, by simp⟩, hb⟩
    intro hc; rw [h] at hc; exact absurd rfl hc
  · obtain ⟨g1, g2⟩ := hp.row hf
    rw [den_ints] at g1
    exact ⟨_, rfl, ⟨(ρ l).1, (ρ l).2, rfl, g1, hn, fun a ha => Nat.le_trans h0 (g2 rfl a ha)⟩, hb⟩
theorem sumS_len {B : Bay} {s t : Slk} (hsn : s.Oil.length < 1152921504606846976) : (sumS B s t).Oil.length < 1152921504606846976 := by
  unfold sumS
  split
  · show (List.zipWith _ _ _).length < _
    rw [List.length_zipWith]; omega
  · simp
theorem rsum_any (v sv tv : Value) (B : Bay) (s t : Slk) (w : World) (hv : BayAt w v B) (hs : SlkAt w sv s) (ht : SlkAt w tv t) :
    Calls Try.prog 41 #[v, sv, tv] w (Aft3 w (sumS B s t) (sumE B s t)) := by
  obtain ⟨la, lc, sa, sc, rfl, hl, hsh, hll, hsl⟩ := hv
  obtain ⟨ao, c, rfl, hi, hn⟩ := hs
  obtain ⟨bo, d, rfl, hj, hm⟩ := ht
  let ρ : Env := fun l => match l with | 0 => (la, lc) | 1 => (sa, sc) | 2 => (ao, c) | _ => (bo, d)
  have hp : Hp w.heap.size ρ w [⟨0, .ro 0, B.Land.map C.bool⟩, ⟨1, .ro 0, shareC B.Share⟩, ⟨2, .ro 0, s.Oil.map C.i⟩, ⟨3, .ro 0, t.Oil.map C.i⟩] 4 := by
    refine Hp.ros (fun e he => ?_) rfl
    simp only [List.mem_cons, List.not_mem_nil, or_false] at he
    rcases he with rfl | rfl | rfl | rfl
    · exact ⟨rfl, by simp, wf_bools _ _, by rw [den_bools]; exact hl⟩
    · exact ⟨rfl, by simp, wf_shares _ _, by rw [den_shares]; exact hsh⟩
    · exact ⟨rfl, by simp, wf_ints _ _, by rw [den_ints]; exact hi⟩
    · exact ⟨rfl, by simp, wf_ints _ _, by rw [den_ints]; exact hj⟩
  have h := rsum_spec B s t hll hsl hn hm ρ w hp (by
    intro v hv
    simp only [List.mem_cons, List.not_mem_nil, or_false] at hv
    rcases hv with rfl | rfl | rfl <;> simp [V.wf, A.wf, C.wf, C.i])
  refine (show Calls Try.prog 41 #[.agg #[.int .i64 B.W, .int .i64 B.H, .slice la B.Land.length lc, .slice sa B.Share.length sc], .agg #[.int .i64 s.K, .slice ao s.Oil.length c, .int .i64 s.Away], .agg #[.int .i64 t.K, .slice bo t.Oil.length d, .int .i64 t.Away]] w _ from h).mono ?_
  rintro e w' ⟨v, ρ', L', nx', rfl, h1, h2, h3, h4, h5, hq⟩
  exact Aft3_of hq h5 (Nat.le_refl _) (sumS_len hn) h4
end Go.Proofs.Ytnafllhgjidbkaa
