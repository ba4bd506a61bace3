/- The reference's move of a slick: each cell gathers what comes to it; all loops and regions of ref.move. -/
import Derived.Test.YtnafllhgjidbkaaSB
import Derived.Test.YtnafllhgjidbkaaTab
import Derived.Test.YtnafllhgjidbkaaT16
import Derived.Test.YtnafllhgjidbkaaT10
namespace Go.Proofs.Ytnafllhgjidbkaa
open Go.RowKit
set_option linter.unusedVariables false
set_option linter.unusedSimpArgs false
def outL (B : Bay) (oil : List Int) (n c : Nat) : List Int := (List.range n).map (fun i => if i < c then gath B oil i else 0)
def allS (B : Bay) (oil : List Int) (c : Nat) : Int := sumR c (fun i => 16 * oil.getD i 0 - gath B oil i)
theorem outL_len (B : Bay) (oil : List Int) (n c : Nat) : (outL B oil n c).length = n := by simp [outL]
theorem outL_zero (B : Bay) (oil : List Int) (n : Nat) : outL B oil n 0 = List.replicate n 0 := by
  unfold outL; simp only [Nat.not_lt_zero, if_false]; rw [List.map_const']; simp
theorem outL_get (B : Bay) (oil : List Int) {n c i : Nat} (h : i < n) : (outL B oil n c).getD i 0 = if i < c then gath B oil i else 0 := by
  unfold outL; simp [List.getD_eq_getElem?_getD, h]
theorem outL_set (B : Bay) (oil : List Int) (n c : Nat) : (outL B oil n c).set c (gath B oil c) = outL B oil n (c + 1) := by
  apply List.ext_getElem?
  intro i
  unfold outL
  rw [List.getElem?_set]
  by_cases h : i < n
  · by_cases e : c = i
    · subst e; simp [h]
    · rw [if_neg e]; simp [h]
      by_cases hi : i < c
      · rw [if_pos hi, if_pos (by omega)]
      · rw [if_neg hi, if_neg (by omega)]
  · have : ¬ (c = i ∧ i < n) := fun h' => h h'.2
    by_cases e : c = i
    · subst e; simp [h]
    · rw [if_neg e]; simp [h]
theorem allS_succ (B : Bay) (oil : List Int) (c : Nat) : allS B oil (c + 1) = allS B oil c + (16 * oil.getD c 0 - gath B oil c) := sumR_succ _ _
theorem shV_bd {B : Bay} (hval : validP B) (x y : Int) {k : Nat} (hk : k < 5) : (0 ≤ (shV B x y k).1 ∧ (shV B x y k).1 ≤ 16) ∧ (shV B x y k).2 < B.Share.length := by
  have hp := mul36 hval.1.1 hval.1.2 hval.2.1.1 hval.2.1.2
  have hS := hval.2.2.2.1
  unfold shV
  by_cases h : inBay B x y
  · rw [if_pos h]
    obtain ⟨_, _, hlt, _⟩ := cell_in hval h
    exact ⟨(ok_iff_at _).1 (hval.2.2.2.2 _ hlt).1 k hk, hlt⟩
  · rw [if_neg h]; exact ⟨⟨by simp, by simp⟩, by show 0 < _; omega⟩
theorem mul_bd {a b M : Int} (h0 : 0 ≤ a) (h1 : a ≤ 16) (h2 : 0 ≤ b) (h3 : b ≤ M) : 0 ≤ a * b ∧ a * b ≤ 16 * M :=
  ⟨Int.mul_nonneg h0 h2, Int.le_trans (Int.mul_le_mul_of_nonneg_right h1 h2) (Int.mul_le_mul_of_nonneg_left h3 (by omega))⟩
def fiveC (x : Five) : List C := [C.i x.1, C.i x.2.1, C.i x.2.2.1, C.i x.2.2.2.1, C.i x.2.2.2.2]
def shareC (l : List Five) : List C := l.flatMap fiveC
theorem wf_shares (n : Nat) (l : List Five) : ∀ c ∈ shareC l, c.wf n := by
  intro c hc
  obtain ⟨j, _, hc⟩ := List.mem_flatMap.1 hc
  simp only [fiveC, List.mem_cons, List.not_mem_nil, or_false] at hc
  rcases hc with rfl | rfl | rfl | rfl | rfl <;> trivial
theorem den_shares (ρ : Env) (l : List Five) : (shareC l).map (C.den ρ) = l.flatMap Five.cells := by
  induction l with
  | nil => rfl
  | cons x r ih => simp only [shareC, List.flatMap_cons, List.map_append] at *; rw [ih]; rfl
theorem bay_of {n0 : Nat} {ρ : Env} {w : World} {L : List E} {nx a b : Nat} {ka kb : Kd} {B : Bay} (hp : Hp n0 ρ w L nx) (ha : find L a = some ⟨a, ka, B.Land.map C.bool⟩) (hb : find L b = some ⟨b, kb, shareC B.Share⟩) (hll : B.Land.length ≤ 100) (hsl : B.Share.length ≤ 100) :
    BayAt w ((V.agg [C.i B.W, C.i B.H, C.sl a B.Land.length, C.sl b B.Share.length]).den ρ) B := by
  have h1 := (hp.row ha).1
  have h2 := (hp.row hb).1
  rw [den_bools] at h1
  rw [den_shares] at h2
  exact ⟨_, _, _, _, rfl, h1, h2, hll, hsl⟩
theorem share_k {n0 nx a b : Nat} {ka kb : Kd} {L : List E} {K : V → List E → Nat → Prop} {B : Bay} {x y : Int} {k : Nat} (hval : validP B) (hll : B.Land.length ≤ 100) (hsl : B.Share.length ≤ 100) (hx : -1 ≤ x ∧ x ≤ 6) (hy : -1 ≤ y ∧ y ≤ 6) (hk : k < 5)
    (ha : find L a = some ⟨a, ka, B.Land.map C.bool⟩) (hb : find L b = some ⟨b, kb, shareC B.Share⟩) (hK : K (V.tup [A.c (C.i (shV B x y k).1), A.c (C.i ((shV B x y k).2 : Int))]) [] nx) :
    CallK Try.prog n0 96 [V.agg [C.i B.W, C.i B.H, C.sl a B.Land.length, C.sl b B.Share.length], V.i x, V.i y, V.i (k : Int)] L nx K := by
  refine ⟨by kernel_rfl, fun ρ w hp _ => (share_any _ B x y k w (bay_of hp ha hb hll hsl) hval hx hy hk).mono ?_⟩
  rintro e w' ⟨rfl, hbw⟩
  exact ⟨_, [], nx, ρ, rfl, Nat.le_refl _, (by simp [V.wf, A.wf, C.wf, C.i]), Agr.refl _ _, hbw, News.nil, hK⟩

theorem out_zero (B : Bay) (oil : List Int) (n : Nat) : repC n [C.i 0] = (outL B oil n 0).map C.i := by rw [outL_zero]; simp [repC]
theorem out_set {B : Bay} {oil : List Int} {n i : Nat} {z g : Int} (hz : z = ((i : Nat) : Int)) (hg : g = gath B oil i) : setL ((outL B oil n i).map C.i) (mulS z.toNat 1) [C.i g] = (outL B oil n (i + 1)).map C.i := by
  subst hz hg
  rw [mulS_eq]
  simp only [setL, Int.toNat_natCast, Nat.mul_one]
  rw [← outL_set, List.map_set]
theorem out_set2 {B : Bay} {oil : List Int} {n i : Nat} {z g : Int} {c : C} (hz : z = ((i : Nat) : Int)) (hg : g = gath B oil i) : setL (setL ((outL B oil n i).map C.i) (mulS z.toNat 1) [c]) (mulS z.toNat 1) [C.i g] = (outL B oil n (i + 1)).map C.i := by
  rw [← out_set hz hg]
  simp [setL]
theorem out_at {B : Bay} {oil : List Int} {n i : Nat} {z : Int} (hz : z = ((i : Nat) : Int)) (hi : i < n) : ((outL B oil n i).map C.i)[mulS z.toNat 1]? = some (C.i 0) := by
  rw [intLz hz (by rw [outL_len]; exact hi), outL_get B oil hi]; simp
theorem set_at {cs : List C} {z : Int} {i : Nat} {v : C} (hz : z = ((i : Nat) : Int)) (hi : i < cs.length) : (setL cs (mulS z.toNat 1) [v])[mulS z.toNat 1]? = some v := by
  subst hz; exact setL_same (by rw [mulS_eq]; simpa using hi)
theorem set_at1 {B : Bay} {oil : List Int} {n i : Nat} {z : Int} {v : C} (hz : z = ((i : Nat) : Int)) (hi : i < n) : (setL ((outL B oil n i).map C.i) (mulS z.toNat 1) [v])[mulS z.toNat 1]? = some v :=
  set_at hz (by rw [List.length_map, outL_len]; exact hi)
theorem set_at2 {B : Bay} {oil : List Int} {n i : Nat} {z : Int} {u v : C} (hz : z = ((i : Nat) : Int)) (hi : i < n) : (setL (setL ((outL B oil n i).map C.i) (mulS z.toNat 1) [u]) (mulS z.toNat 1) [v])[mulS z.toNat 1]? = some v :=
  set_at hz (by rw [setL_length, List.length_map, outL_len]; exact hi)
theorem mv_out {B : Bay} {s : Slk} (hval : validP B) (hlen : s.Oil.length = B.Share.length) : (mv B s).Oil = outL B s.Oil s.Oil.length s.Oil.length := by
  apply List.ext_getElem
  · rw [mv_len, outL_len]
  · intro j hj hj'
    have h1 : j < s.Oil.length := by rw [mv_len] at hj; exact hj
    have h2 := gath_eq hval hlen h1
    have h3 := outL_get B s.Oil (c := s.Oil.length) h1
    rw [if_pos h1] at h3
    simp only [List.getD_eq_getElem?_getD, List.getElem?_eq_getElem hj, List.getElem?_eq_getElem hj', Option.getD_some] at h2 h3
    rw [h2, h3]
theorem sumR_sub (n : Nat) (f g : Nat → Int) : sumR n (fun i => f i - g i) = sumR n f - sumR n g := by
  induction n with
  | zero => rfl
  | succ n ih => simp only [sumR_succ, ih]; omega
theorem sumR_getD (l : List Int) : sumR l.length (fun i => l.getD i 0) = l.sum := by
  unfold sumR
  congr 1
  apply List.ext_getElem
  · simp
  · intro i h1 h2; simp [List.getD_eq_getElem?_getD, h2]
theorem mv_away {B : Bay} {s : Slk} (hval : validP B) (hlen : s.Oil.length = B.Share.length) : 16 * s.Away + allS B s.Oil s.Oil.length = (mv B s).Away := by
  have h1 := mv_tot hval hlen (s := s)
  have h2 : allS B s.Oil s.Oil.length = 16 * s.Oil.sum - (mv B s).Oil.sum := by
    unfold allS
    rw [sumR_sub, ← sumR_getD s.Oil, ← sumR_getD (mv B s).Oil, mv_len]
    congr 1
    · induction s.Oil.length with
      | zero => rfl
      | succ n ih => simp only [sumR_succ, ih, Int.mul_add]
    · exact sumR_congr fun i hi => (gath_eq hval hlen hi).symm
  omega
set_option maxRecDepth 100000 in
set_option maxHeartbeats 2000000 in
theorem rmove_spec (B : Bay) (s : Slk) (hll : B.Land.length ≤ 100) (hsl : B.Share.length ≤ 100) (hval : validP B) (hlen : s.Oil.length = B.Share.length) (hK : 0 ≤ s.K ∧ s.K ≤ 4)
    (hO : ∀ k, k < s.Oil.length → 0 ≤ s.Oil.getD k 0 ∧ s.Oil.getD k 0 ≤ 2359296000) (hA : 0 ≤ s.Away ∧ s.Away ≤ 2359296000) :
    Spec Try.prog 87 [V.agg [C.i B.W, C.i B.H, C.sl 0 B.Land.length, C.sl 1 B.Share.length], V.agg [C.i s.K, C.sl 2 s.Oil.length, C.i s.Away]] [⟨0, .ro 0, B.Land.map C.bool⟩, ⟨1, .ro 0, shareC B.Share⟩, ⟨2, .ro 0, s.Oil.map C.i⟩] 3
      (fun v L' _ => ∃ l, v = V.agg [C.i (mv B s).K, C.sl l s.Oil.length, C.i (mv B s).Away] ∧ find L' l = some ⟨l, .vec 3 1, (mv B s).Oil.map C.i⟩) := by
  have hBW := hval.1
  have hBH := hval.2.1
  have hp36 := mul36 hval.1.1 hval.1.2 hval.2.1.1 hval.2.1.2
  have hSS := hval.2.2.2.1
  have hLL := hval.2.2.1
  obtain ⟨WN, hWN⟩ : ∃ WN : Nat, B.W = WN := ⟨B.W.toNat, by omega⟩
  obtain ⟨HN, hHN⟩ : ∃ HN : Nat, B.H = HN := ⟨B.H.toNat, by omega⟩
  have hWH : ((WN * HN : Nat) : Int) = B.W * B.H := by rw [hWN, hHN]; exact Int.natCast_mul _ _
  have hnWH : s.Oil.length = WN * HN := by omega
  refine Spec.of tok Try.func87 rfl rfl rfl fun n0 => vc_ok tok ?_
  repeat ((conv => whnf); first
      | (refine And.intro (by first | omega | exact Nat.le_of_ble_eq_true rfl | (dsimp only [inK]; omega) | (simp only [mulS_eq]; omega) | (simp only [mulS_eq, setL_length]; omega) | (simp only [setL_length, List.length_map]; omega) | exact ⟨by omega, by omega, by first | exact Nat.le_of_ble_eq_true rfl | (dsimp only; omega) | (simp only [setL_length]; omega) | (simp only [setL_length, List.length_map]; omega)⟩ | exact ⟨by omega, by first | rfl | omega, by omega, Nat.le_of_ble_eq_true rfl, Nat.le_of_ble_eq_true rfl⟩ | exact ⟨rfl, rfl, rfl, Nat.le_of_ble_eq_true rfl, by first | rfl | omega | (simp; done) | (simp; omega), by first | rfl | omega | (simp; done) | (simp; omega), by omega, Nat.le_of_ble_eq_true rfl⟩) ?_)
      | (refine Exists.intro _ (And.intro rfl ?_))
      | (refine br_t (by omega) ?_)
      | (refine br_f (by omega) ?_)
      | (refine bs_t (by omega) ?_)
      | (refine bs_f (by omega) ?_)
      | (refine fun (K' : K3) hK' => ?_)
      | (refine hK' _ _ _ ?_; clear hK' K')
      | (refine draw_auto tok mixed (by kernel_rfl) ?_)
      | (refine And.intro (And.intro rfl rfl) ?_))
  have hLc : (B.Land.map C.bool).length = B.Land.length := List.length_map ..
  have hOc : (s.Oil.map C.i).length = s.Oil.length := List.length_map ..
  have hol : ∀ m, ((outL B s.Oil s.Oil.length m).map C.i).length = s.Oil.length := fun m => by rw [List.length_map, outL_len]
  refine Tri.loop (γ := Nat × Nat) (fun g => g.1 ≤ HN ∧ g.2 = g.1 * WN ∧ -(300000000000 * (g.2 : Int)) ≤ allS B s.Oil g.2 ∧ allS B s.Oil g.2 ≤ 300000000000 * (g.2 : Int))
    (fun g => [(2, V.c (.ptr 3 0)), (3, V.c (.ptr 4 0)), (4, V.c (.ptr 5 0)), (5, V.c (.ptr 7 0)), (6, V.i (allS B s.Oil g.2)), (7, V.i ((g.1 : Nat) : Int))])
    (fun g => [⟨0, .ro 0, B.Land.map C.bool⟩, ⟨1, .ro 0, shareC B.Share⟩, ⟨2, .ro 0, s.Oil.map C.i⟩, ⟨3, .own 25, [C.i B.W, C.i B.H, C.sl 0 B.Land.length, C.sl 1 B.Share.length]⟩, ⟨4, .own 28, [C.i s.K, C.sl 2 s.Oil.length, C.i s.Away]⟩, ⟨5, .own 28, [C.i 0, C.nil, C.i 0]⟩,
      ⟨6, .vec 3 1, (outL B s.Oil s.Oil.length g.2).map C.i⟩, ⟨7, .own 28, [C.i (s.K + 1), C.sl 6 s.Oil.length, C.i (16 * s.Away)]⟩]) 8 (fun g => HN - g.1) (0, 0) (R0 := []) ?_ ?_ ?_
  · exact ⟨Nat.zero_le _, by simp, by simp [allS, sumR], by simp [allS, sumR]⟩
  · skip
    refine ⟨?_, ?_, rfl, rfl, Nat.le_of_ble_eq_true rfl⟩
    · repeat (first | exact trivial | refine And.intro (And.intro (by first | rfl) (And.intro rfl (by first | exact trivial | exact Nat.le_of_ble_eq_true rfl))) ?_)
    · repeat (first | exact trivial | refine And.intro (covE_id (Nat.le_of_ble_eq_true rfl) (by first | exact wf_ints _ _ | exact wf_bools _ _ | exact wf_shares _ _ | simp [C.wf]) rfl (by first | rfl | (exact out_zero ..))) ?_)
  · rintro ⟨y, m⟩ ⟨hy, hm, hb0, hb1⟩
    simp only at hy hm hb0 hb1 ⊢
    refine vc_ok tok ?_
    by_cases hlt : y < HN
    · have hlt' : (y : Int) < B.H := by omega
      have hmy : m + WN ≤ s.Oil.length := by
        have h1 : (y + 1) * WN ≤ HN * WN := Nat.mul_le_mul_right _ hlt
        rw [Nat.add_mul] at h1; rw [Nat.mul_comm HN] at h1; omega
      repeat ((conv => whnf); first
          | (refine And.intro (by first | omega | exact Nat.le_of_ble_eq_true rfl | (dsimp only [inK]; omega) | (simp only [mulS_eq]; omega) | (simp only [mulS_eq, setL_length]; omega) | (simp only [setL_length, List.length_map]; omega) | exact ⟨by omega, by omega, by first | exact Nat.le_of_ble_eq_true rfl | (dsimp only; omega) | (simp only [setL_length]; omega) | (simp only [setL_length, List.length_map]; omega)⟩ | exact ⟨by omega, by first | rfl | omega, by omega, Nat.le_of_ble_eq_true rfl, Nat.le_of_ble_eq_true rfl⟩ | exact ⟨rfl, rfl, rfl, Nat.le_of_ble_eq_true rfl, by first | rfl | omega | (simp; done) | (simp; omega), by first | rfl | omega | (simp; done) | (simp; omega), by omega, Nat.le_of_ble_eq_true rfl⟩) ?_)
          | (refine Exists.intro _ (And.intro rfl ?_))
          | (refine br_t (by omega) ?_)
          | (refine br_f (by omega) ?_)
          | (refine bs_t (by omega) ?_)
          | (refine bs_f (by omega) ?_)
          | (refine fun (K' : K3) hK' => ?_)
          | (refine hK' _ _ _ ?_; clear hK' K')
          | (refine draw_auto tok mixed (by kernel_rfl) ?_)
          | (refine And.intro (And.intro rfl rfl) ?_))
      refine Tri.loop (γ := Nat) (fun x => x ≤ WN ∧ -(300000000000 * ((m + x : Nat) : Int)) ≤ allS B s.Oil (m + x) ∧ allS B s.Oil (m + x) ≤ 300000000000 * ((m + x : Nat) : Int))
        (fun x => [(2, V.c (.ptr 3 0)), (3, V.c (.ptr 4 0)), (4, V.c (.ptr 5 0)), (5, V.c (.ptr 7 0)), (6, V.i (allS B s.Oil (m + x))), (7, V.i ((y : Nat) : Int)), (8, V.i ((x : Nat) : Int))])
        (fun x => [⟨0, .ro 0, B.Land.map C.bool⟩, ⟨1, .ro 0, shareC B.Share⟩, ⟨2, .ro 0, s.Oil.map C.i⟩, ⟨3, .own 25, [C.i B.W, C.i B.H, C.sl 0 B.Land.length, C.sl 1 B.Share.length]⟩, ⟨4, .own 28, [C.i s.K, C.sl 2 s.Oil.length, C.i s.Away]⟩, ⟨5, .own 28, [C.i 0, C.nil, C.i 0]⟩,
          ⟨6, .vec 3 1, (outL B s.Oil s.Oil.length (m + x)).map C.i⟩, ⟨7, .own 28, [C.i (s.K + 1), C.sl 6 s.Oil.length, C.i (16 * s.Away)]⟩]) 8 (fun x => WN - x) 0 (R0 := []) ?_ ?_ ?_
      · exact ⟨Nat.zero_le _, hb0, hb1⟩
      · skip
        refine ⟨?_, ?_, rfl, rfl, Nat.le_of_ble_eq_true rfl⟩
        · repeat (first | exact trivial | refine And.intro (And.intro (by first | rfl) (And.intro rfl (by first | exact trivial | exact Nat.le_of_ble_eq_true rfl))) ?_)
        · repeat (first | exact trivial | refine And.intro (covE_id (Nat.le_of_ble_eq_true rfl) (by first | exact wf_ints _ _ | exact wf_bools _ _ | exact wf_shares _ _ | simp [C.wf]) rfl (by first | rfl | (fail))) ?_)
      · rintro x ⟨hx, hc0, hc1⟩
        refine vc_ok tok ?_
        by_cases hxl : x < WN
        · have hxl' : (x : Int) < B.W := by omega
          have hyW : (y : Int) * B.W = (m : Int) := by rw [hWN, hm]; simp
          have hyx : (y : Int) * B.W + x = ((m + x : Nat) : Int) := by rw [hyW]; simp
          have hin : m + x < s.Oil.length := by omega
          have hgx : gx (m + x) B = x ∧ gy (m + x) B = y := divmod (by omega) (by omega) (by rw [hyx])
          have b0 := shV_bd hval x y (k := 0) (by omega)
          have b1 := shV_bd hval x (y + 1) (k := 1) (by omega)
          have b2 := shV_bd hval (x - 1) y (k := 2) (by omega)
          have b3 := shV_bd hval x (y - 1) (k := 3) (by omega)
          have b4 := shV_bd hval (x + 1) y (k := 4) (by omega)
          rw [← hlen] at b0 b1 b2 b3 b4
          have ri := hO _ hin
          have r0 := hO _ b0.2
          have r1 := hO _ b1.2
          have r2 := hO _ b2.2
          have r3 := hO _ b3.2
          have r4 := hO _ b4.2
          have u0 := mul_bd b0.1.1 b0.1.2 r0.1 r0.2
          have u1 := mul_bd b1.1.1 b1.1.2 r1.1 r1.2
          have u2 := mul_bd b2.1.1 b2.1.2 r2.1 r2.2
          have u3 := mul_bd b3.1.1 b3.1.2 r3.1 r3.2
          have u4 := mul_bd b4.1.1 b4.1.2 r4.1 r4.2
          have hgath : gath B s.Oil (m + x) = landPart B s.Oil (m + x) + (shV B x y 0).1 * s.Oil.getD (shV B x y 0).2 0 + (shV B x (y + 1) 1).1 * s.Oil.getD (shV B x (y + 1) 1).2 0 + (shV B (x - 1) y 2).1 * s.Oil.getD (shV B (x - 1) y 2).2 0 +
              (shV B x (y - 1) 3).1 * s.Oil.getD (shV B x (y - 1) 3).2 0 + (shV B (x + 1) y 4).1 * s.Oil.getD (shV B (x + 1) y 4).2 0 := by
            unfold gath term
            rw [hgx.1, hgx.2]
            simp only [dxs, dys, List.getD_cons_zero, List.getD_cons_succ, Int.sub_zero, Int.sub_neg]
          have hs0 : (shV B x y 0).2 = m + x := by
            unfold shV
            rw [if_pos ⟨⟨by omega, hxl'⟩, by omega, hlt'⟩]
            simp only; omega
          rw [hs0] at hgath u0
          have hall := allS_succ B s.Oil (m + x)
          have hlpb : 0 ≤ landPart B s.Oil (m + x) ∧ landPart B s.Oil (m + x) ≤ 16 * 2359296000 := by unfold landPart; split <;> omega
          have hol' := hol (m + x)
          cases hland : B.Land.getD (m + x) false
          · have hlp : landPart B s.Oil (m + x) = 0 := by unfold landPart; rw [hland]; rfl
            repeat ((conv => whnf); first
                | (refine And.intro (by first | omega | exact Nat.le_of_ble_eq_true rfl | (dsimp only [inK]; omega) | (simp only [mulS_eq]; omega) | (simp only [mulS_eq, setL_length]; omega) | (simp only [setL_length, List.length_map]; omega) | exact ⟨by omega, by omega, by first | exact Nat.le_of_ble_eq_true rfl | (dsimp only; omega) | (simp only [setL_length]; omega) | (simp only [setL_length, List.length_map]; omega)⟩ | exact ⟨by omega, by first | rfl | omega, by omega, Nat.le_of_ble_eq_true rfl, Nat.le_of_ble_eq_true rfl⟩ | exact ⟨rfl, rfl, rfl, Nat.le_of_ble_eq_true rfl, by first | rfl | omega | (simp; done) | (simp; omega), by first | rfl | omega | (simp; done) | (simp; omega), by omega, Nat.le_of_ble_eq_true rfl⟩) ?_)
                | (with_reducible refine ld (boolLz hyx (by omega)) ?_)
                | (with_reducible refine ld (out_at hyx hin) ?_)
                | (with_reducible refine ld (intLz hyx hin) ?_)
                | (with_reducible refine ld (set_at1 hyx hin) ?_)
                | (with_reducible refine ld (set_at2 hyx hin) ?_)
                | (with_reducible refine ld (intL b0.2) ?_)
                | (with_reducible refine ld (intL b1.2) ?_)
                | (with_reducible refine ld (intL b2.2) ?_)
                | (with_reducible refine ld (intL b3.2) ?_)
                | (with_reducible refine ld (intL b4.2) ?_)
                | (refine Exists.intro _ (And.intro rfl ?_))
                | (refine br_t (by omega) ?_)
                | (refine br_f (by omega) ?_)
                | (refine bs_t (by omega) ?_)
                | (refine bs_f (by omega) ?_)
                | (refine fun (K' : K3) hK' => ?_)
                | (refine hK' _ _ _ ?_; clear hK' K')
                | (refine draw_auto tok mixed (by kernel_rfl) ?_)
                | (refine br_bf hland ?_)
                | (refine share_k (k := 0) hval hll hsl (by omega) (by omega) (by omega) rfl rfl ?_)
                | (refine share_k (k := 1) hval hll hsl (by omega) (by omega) (by omega) rfl rfl ?_)
                | (refine share_k (k := 2) hval hll hsl (by omega) (by omega) (by omega) rfl rfl ?_)
                | (refine share_k (k := 3) hval hll hsl (by omega) (by omega) (by omega) rfl rfl ?_)
                | (refine share_k (k := 4) hval hll hsl (by omega) (by omega) (by omega) rfl rfl ?_)
                | (refine And.intro (And.intro rfl rfl) ?_))
            refine ⟨x + 1, [], ⟨by omega, by rw [← Nat.add_assoc, hall]; omega, by rw [← Nat.add_assoc, hall]; omega⟩, by omega, ?_⟩
            refine ⟨?_, ?_, rfl, rfl, Nat.le_of_ble_eq_true rfl⟩
            · repeat (first | exact trivial | refine And.intro (And.intro (by first | rfl | (refine congrArg some (congrArg V.i ?_); (rw [← Nat.add_assoc, hall]; omega))) (And.intro rfl (by first | exact trivial | exact Nat.le_of_ble_eq_true rfl))) ?_)
            · repeat (first | exact trivial | refine And.intro (covE_id (Nat.le_of_ble_eq_true rfl) (by first | exact wf_ints _ _ | exact wf_bools _ _ | exact wf_shares _ _ | simp [C.wf]) rfl (by first | rfl | (exact out_set hyx (by omega)))) ?_)
          · have hlp : landPart B s.Oil (m + x) = 16 * s.Oil.getD (m + x) 0 := by unfold landPart; rw [hland]; rfl
            repeat ((conv => whnf); first
                | (refine And.intro (by first | omega | exact Nat.le_of_ble_eq_true rfl | (dsimp only [inK]; omega) | (simp only [mulS_eq]; omega) | (simp only [mulS_eq, setL_length]; omega) | (simp only [setL_length, List.length_map]; omega) | exact ⟨by omega, by omega, by first | exact Nat.le_of_ble_eq_true rfl | (dsimp only; omega) | (simp only [setL_length]; omega) | (simp only [setL_length, List.length_map]; omega)⟩ | exact ⟨by omega, by first | rfl | omega, by omega, Nat.le_of_ble_eq_true rfl, Nat.le_of_ble_eq_true rfl⟩ | exact ⟨rfl, rfl, rfl, Nat.le_of_ble_eq_true rfl, by first | rfl | omega | (simp; done) | (simp; omega), by first | rfl | omega | (simp; done) | (simp; omega), by omega, Nat.le_of_ble_eq_true rfl⟩) ?_)
                | (with_reducible refine ld (boolLz hyx (by omega)) ?_)
                | (with_reducible refine ld (out_at hyx hin) ?_)
                | (with_reducible refine ld (intLz hyx hin) ?_)
                | (with_reducible refine ld (set_at1 hyx hin) ?_)
                | (with_reducible refine ld (set_at2 hyx hin) ?_)
                | (with_reducible refine ld (intL b0.2) ?_)
                | (with_reducible refine ld (intL b1.2) ?_)
                | (with_reducible refine ld (intL b2.2) ?_)
                | (with_reducible refine ld (intL b3.2) ?_)
                | (with_reducible refine ld (intL b4.2) ?_)
                | (refine Exists.intro _ (And.intro rfl ?_))
                | (refine br_t (by omega) ?_)
                | (refine br_f (by omega) ?_)
                | (refine bs_t (by omega) ?_)
                | (refine bs_f (by omega) ?_)
                | (refine fun (K' : K3) hK' => ?_)
                | (refine hK' _ _ _ ?_; clear hK' K')
                | (refine draw_auto tok mixed (by kernel_rfl) ?_)
                | (refine br_bt hland ?_)
                | (refine share_k (k := 0) hval hll hsl (by omega) (by omega) (by omega) rfl rfl ?_)
                | (refine share_k (k := 1) hval hll hsl (by omega) (by omega) (by omega) rfl rfl ?_)
                | (refine share_k (k := 2) hval hll hsl (by omega) (by omega) (by omega) rfl rfl ?_)
                | (refine share_k (k := 3) hval hll hsl (by omega) (by omega) (by omega) rfl rfl ?_)
                | (refine share_k (k := 4) hval hll hsl (by omega) (by omega) (by omega) rfl rfl ?_)
                | (refine And.intro (And.intro rfl rfl) ?_))
            refine ⟨x + 1, [], ⟨by omega, by rw [← Nat.add_assoc, hall]; omega, by rw [← Nat.add_assoc, hall]; omega⟩, by omega, ?_⟩
            refine ⟨?_, ?_, rfl, rfl, Nat.le_of_ble_eq_true rfl⟩
            · repeat (first | exact trivial | refine And.intro (And.intro (by first | rfl | (refine congrArg some (congrArg V.i ?_); (rw [← Nat.add_assoc, hall]; omega))) (And.intro rfl (by first | exact trivial | exact Nat.le_of_ble_eq_true rfl))) ?_)
            · repeat (first | exact trivial | refine And.intro (covE_id (Nat.le_of_ble_eq_true rfl) (by first | exact wf_ints _ _ | exact wf_bools _ _ | exact wf_shares _ _ | simp [C.wf]) rfl (by first | rfl | (exact out_set2 hyx (by omega)))) ?_)
        · have hxe : x = WN := by omega
          subst hxe
          repeat ((conv => whnf); first
              | (refine And.intro (by first | omega | exact Nat.le_of_ble_eq_true rfl | (dsimp only [inK]; omega) | (simp only [mulS_eq]; omega) | (simp only [mulS_eq, setL_length]; omega) | (simp only [setL_length, List.length_map]; omega) | exact ⟨by omega, by omega, by first | exact Nat.le_of_ble_eq_true rfl | (dsimp only; omega) | (simp only [setL_length]; omega) | (simp only [setL_length, List.length_map]; omega)⟩ | exact ⟨by omega, by first | rfl | omega, by omega, Nat.le_of_ble_eq_true rfl, Nat.le_of_ble_eq_true rfl⟩ | exact ⟨rfl, rfl, rfl, Nat.le_of_ble_eq_true rfl, by first | rfl | omega | (simp; done) | (simp; omega), by first | rfl | omega | (simp; done) | (simp; omega), by omega, Nat.le_of_ble_eq_true rfl⟩) ?_)
              | (refine Exists.intro _ (And.intro rfl ?_))
              | (refine br_t (by omega) ?_)
              | (refine br_f (by omega) ?_)
              | (refine bs_t (by omega) ?_)
              | (refine bs_f (by omega) ?_)
              | (refine fun (K' : K3) hK' => ?_)
              | (refine hK' _ _ _ ?_; clear hK' K')
              | (refine draw_auto tok mixed (by kernel_rfl) ?_)
              | (refine And.intro (And.intro rfl rfl) ?_))
          refine ⟨(y + 1, m + x), [], ⟨by omega, by simp only; rw [hm, Nat.succ_mul], hc0, hc1⟩, by simp only; omega, ?_⟩
          refine ⟨?_, ?_, rfl, rfl, Nat.le_of_ble_eq_true rfl⟩
          · repeat (first | exact trivial | refine And.intro (And.intro (by first | rfl) (And.intro rfl (by first | exact trivial | exact Nat.le_of_ble_eq_true rfl))) ?_)
          · repeat (first | exact trivial | refine And.intro (covE_id (Nat.le_of_ble_eq_true rfl) (by first | exact wf_ints _ _ | exact wf_bools _ _ | exact wf_shares _ _ | simp [C.wf]) rfl (by first | rfl | (fail))) ?_)
    · have hye : y = HN := by omega
      have hmn : m = s.Oil.length := by rw [hm, hye, hnWH, Nat.mul_comm]
      have hmA := mv_away hval hlen
      subst hmn
      repeat ((conv => whnf); first
          | (refine And.intro (by first | omega | exact Nat.le_of_ble_eq_true rfl | (dsimp only [inK]; omega) | (simp only [mulS_eq]; omega) | (simp only [mulS_eq, setL_length]; omega) | (simp only [setL_length, List.length_map]; omega) | exact ⟨by omega, by omega, by first | exact Nat.le_of_ble_eq_true rfl | (dsimp only; omega) | (simp only [setL_length]; omega) | (simp only [setL_length, List.length_map]; omega)⟩ | exact ⟨by omega, by first | rfl | omega, by omega, Nat.le_of_ble_eq_true rfl, Nat.le_of_ble_eq_true rfl⟩ | exact ⟨rfl, rfl, rfl, Nat.le_of_ble_eq_true rfl, by first | rfl | omega | (simp; done) | (simp; omega), by first | rfl | omega | (simp; done) | (simp; omega), by omega, Nat.le_of_ble_eq_true rfl⟩) ?_)
          | (refine Exists.intro _ (And.intro rfl ?_))
          | (refine br_t (by omega) ?_)
          | (refine br_f (by omega) ?_)
          | (refine bs_t (by omega) ?_)
          | (refine bs_f (by omega) ?_)
          | (refine fun (K' : K3) hK' => ?_)
          | (refine hK' _ _ _ ?_; clear hK' K')
          | (refine draw_auto tok mixed (by kernel_rfl) ?_)
          | (refine And.intro (And.intro rfl rfl) ?_))
      refine ⟨6, ?_, ?_⟩
      · rw [← hmA]; rfl
      · rw [mv_out hval hlen]; rfl
theorem rmove_any (v sv : Value) (B : Bay) (s : Slk) (w : World) (hv : BayAt w v B) (hs : SlkAt w sv s) (hval : validP B) (hlen : s.Oil.length = B.Share.length) (hK : 0 ≤ s.K ∧ s.K ≤ 4)
    (hO : ∀ k, k < s.Oil.length → 0 ≤ s.Oil.getD k 0 ∧ s.Oil.getD k 0 ≤ 2359296000) (hA : 0 ≤ s.Away ∧ s.Away ≤ 2359296000) :
    Calls Try.prog 87 #[v, sv] w fun e w' => ∃ rv, e = .returned rv ∧ SlkNew w.heap.size w' rv (mv B s) ∧ Below w.heap.size w w' := by
  obtain ⟨la, lc, sa, sc, rfl, hl, hsh, hll, hsl⟩ := hv
  obtain ⟨ao, c, rfl, hi, hn⟩ := hs
  let ρ : Env := fun l => match l with | 0 => (la, lc) | 1 => (sa, sc) | _ => (ao, c)
  have hp : Hp w.heap.size ρ w [⟨0, .ro 0, B.Land.map C.bool⟩, ⟨1, .ro 0, shareC B.Share⟩, ⟨2, .ro 0, s.Oil.map C.i⟩] 3 := by
    refine Hp.ros (fun e he => ?_) rfl
    simp only [List.mem_cons, List.not_mem_nil, or_false] at he
    rcases he with rfl | rfl | rfl
    · exact ⟨rfl, by simp, wf_bools _ _, by rw [den_bools]; exact hl⟩
    · exact ⟨rfl, by simp, wf_shares _ _, by rw [den_shares]; exact hsh⟩
    · exact ⟨rfl, by simp, wf_ints _ _, by rw [den_ints]; exact hi⟩
  have h := rmove_spec B s hll hsl hval hlen hK hO hA ρ w hp (by
    intro v hv
    simp only [List.mem_cons, List.not_mem_nil, or_false] at hv
    rcases hv with rfl | rfl <;> simp [V.wf, A.wf, C.wf, C.i])
  refine (show Calls Try.prog 87 #[.agg #[.int .i64 B.W, .int .i64 B.H, .slice la B.Land.length lc, .slice sa B.Share.length sc], .agg #[.int .i64 s.K, .slice ao s.Oil.length c, .int .i64 s.Away]] w _ from h).mono ?_
  rintro e w' ⟨v, ρ', L', nx', rfl, h1, h2, h3, h4, h5, l, rfl, hf⟩
  obtain ⟨g1, g2⟩ := h5.row hf
  rw [den_ints] at g1
  refine ⟨_, rfl, ⟨(ρ' l).1, (ρ' l).2, ?_, g1, by rw [mv_len]; exact hn, g2 rfl⟩, h4⟩
  rw [mv_len]; rfl
end Go.Proofs.Ytnafllhgjidbkaa
