import Derived.Test.YtnafllhgjidbkaaT20
namespace Go.Proofs.Ytnafllhgjidbkaa
open Go.RowKit Go.Shelf
set_option linter.unusedVariables false
set_option linter.unusedSimpArgs false

/-- The bounds of a slick that fits. -/
theorem fits_bd {B : Bay} {s : Slk} (hval : validP B) (h : fitsP B s) : s.Oil.length ≤ 36 ∧ s.Oil.length = B.Land.length ∧ (∀ k, k < s.Oil.length → 0 ≤ s.Oil.getD k 0 ∧ s.Oil.getD k 0 ≤ 37748736000) ∧ (0 ≤ s.Away ∧ s.Away ≤ 37748736000) ∧ (0 ≤ s.Oil.sum ∧ s.Oil.sum ≤ 37748736000) := by
  have hp := mul36 hval.1.1 hval.1.2 hval.2.1.1 hval.2.1.2
  have h1 := hval.2.2.1
  have h2 := h.2.1
  obtain ⟨q1, q2⟩ := pow_bd s.K h.1.1 h.1.2
  have hl : lim s.K = 36000 * 16 ^ s.K.toNat := rfl
  have hr : ∀ k, k < s.Oil.length → 0 ≤ s.Oil.getD k 0 ∧ s.Oil.getD k 0 ≤ lim s.K := fun k hk => okB_iff.1 (amtB_iff.1 h.2.2.1 k hk)
  have hs := sum_bd100 s.Oil (by omega) (by omega) hr
  have h4 := h.2.2.2
  refine ⟨by omega, by omega, fun k hk => ?_, by omega, by omega⟩
  have := hr k hk
  omega

noncomputable def totV (B : Bay) (s : Slk) : Int := if okE B s = 0 then s.Away + s.Oil.sum else 0

set_option maxHeartbeats 1000000 in
theorem Total_any (v sv : Value) (B : Bay) (s : Slk) (w : World) (hv : BayAt w v B) (hs : SlkAt w sv s) :
    Calls Try.prog 30 #[v, sv] w fun e w' => e = .returned (.tuple #[.int .i64 (totV B s), .int .i64 (okE B s)]) ∧ Below w.heap.size w w' := by
  have hv0 := hv
  obtain ⟨la, lc, sa, sc, rfl, hl, hsh, hll, hsl⟩ := hv
  obtain ⟨ao, c, rfl, hi, hn⟩ := hs
  have HV := Lib.hid hv0
  have HI := Lib.hid hi
  clear hv0 hl hsh hi
  have HF : Hid (totV B s = if okE B s = 0 then s.Away + s.Oil.sum else 0) := rfl
  generalize totV B s = F at *
  have hcs := okE_cases B s
  obtain ⟨E, hE⟩ : ∃ E, E = okE B s := ⟨_, rfl⟩
  rw [← hE] at hcs HF ⊢
  have HE := Lib.hid hE
  clear hE
  go_enter Try.func30, Try.ntmps30
  go_wp2_with fail
  refine (asked_one _ B s _ _ _ w _ HV.out HI.out hn (((Below.refl _ _).alloc (Nat.le_refl _) _).alloc (by simp) _) (by simp)).mono ?_
  rintro e w1 ⟨rfl, hb1⟩
  have HB : Hid (Below w.heap.size w w1) := ((((Below.refl _ _).alloc (Nat.le_refl _) _).alloc (by simp) _).alloc (by simp <;> omega) _).trans (hb1.mono (by simp <;> omega))
  obtain ⟨hc1, hf1⟩ := bcell hb1
  have hsz : w.heap.size + 3 ≤ w1.heap.size := by have := hb1.size; simp at this; omega
  clear hb1
  rw [← HE.out]
  clear HE
  rcases hcs with ⟨rfl, hval, hfit⟩ | rfl | rfl
  · obtain ⟨b1, -, b3, b4, b5⟩ := fits_bd hval hfit
    have HS : Hid (∀ x : Aft w1, Calls Try.prog 69 #[.slice ao s.Oil.length c] x.val fun e w' => e = .returned (.int .i64 s.Oil.sum) ∧ x.val = w') := fun x => sum_any ao c s.Oil 37748736000 x.val (HI.out.below (Nat.le_refl _) (HB.out.trans (x.bel.mono HB.out.size))) (by omega) (by omega) b3
    have d1 : ∀ x : Aft w1, x.val.cell? ⟨w.heap.size + 1, 1, none⟩ = some (.slice ao s.Oil.length c) := fun x => (x.bel.cell (p := ⟨w.heap.size + 1, 1, none⟩) (by show w.heap.size + 1 < _; omega)).trans (by rw [hc1 _ _ (by simp <;> omega)]; simp [go_sem])
    have d2 : ∀ x : Aft w1, x.val.cell? ⟨w.heap.size + 1, 2, none⟩ = some (.int .i64 s.Away) := fun x => (x.bel.cell (p := ⟨w.heap.size + 1, 2, none⟩) (by show w.heap.size + 1 < _; omega)).trans (by rw [hc1 _ _ (by simp <;> omega)]; simp [go_sem])
    clear hval hfit b3
    generalize s.Oil.sum = S at *
    go_wp2
    refine wp_region_aft (by kernel_rfl) (by kernel_rfl) ?_
    repeat (go_big_quiet_step ((go_at_call 69; rename_i x; exact Calls.aft_same (HS.out x))))
    refine wpQuiet_nil ?_
    rintro _ ⟨x, rfl⟩
    go_wp2
    go_ret2
    exact ⟨by rw [HF.out, Int.add_comm s.Away]; rfl, HB.out.trans (x.bel.mono HB.out.size)⟩
  all_goals
    go_wp2
    go_ret2
    exact ⟨by rw [HF.out]; rfl, HB.out⟩

set_option maxHeartbeats 1000000 in
theorem rTotal_any (v sv : Value) (B : Bay) (s : Slk) (w : World) (hv : BayAt w v B) (hs : SlkAt w sv s) :
    Calls Try.prog 36 #[v, sv] w fun e w' => e = .returned (.tuple #[.int .i64 (totV B s), .int .i64 (okE B s)]) ∧ Below w.heap.size w w' := by
  have hv0 := hv
  have hs0 := hs
  obtain ⟨la, lc, sa, sc, rfl, hl, hsh, hll, hsl⟩ := hv
  obtain ⟨ao, c, rfl, hi, hn⟩ := hs
  have HV := Lib.hid hv0
  have HS := Lib.hid hs0
  clear hv0 hs0 hl hsh hi
  have HF : Hid (totV B s = if okE B s = 0 then s.Away + s.Oil.sum else 0) := rfl
  generalize totV B s = F at *
  have hcs := okE_cases B s
  obtain ⟨E, hE⟩ : ∃ E, E = okE B s := ⟨_, rfl⟩
  rw [← hE] at hcs HF ⊢
  have HE := Lib.hid hE
  clear hE
  go_enter Try.func36, Try.ntmps36
  go_wp2_with fail
  refine (rasked_any _ _ B s _ (HV.out.below (Nat.le_refl _) (((Below.refl _ _).alloc (Nat.le_refl _) _).alloc (by simp) _)) (HS.out.below (Nat.le_refl _) (((Below.refl _ _).alloc (Nat.le_refl _) _).alloc (by simp) _))).mono ?_
  rintro e w1 ⟨rfl, hb1⟩
  have HB : Hid (Below w.heap.size w w1) := ((((Below.refl _ _).alloc (Nat.le_refl _) _).alloc (by simp) _)).trans (hb1.mono (by simp <;> omega))
  obtain ⟨hc1, hf1⟩ := bcell hb1
  clear hb1
  rw [← HE.out]
  clear HE
  rcases hcs with ⟨rfl, hval, hfit⟩ | rfl | rfl
  · obtain ⟨b1, -, b3, b4, b5⟩ := fits_bd hval hfit
    have HT := Lib.hid (totZ_yes ((fits_tot hfit.2.1).1 hfit))
    have HC := Lib.hid (total_any _ s w1 (HS.out.below (Nat.le_refl _) HB.out) (by omega))
    clear hval hfit b3
    go_wp2_with fail
    refine (HC.out).mono ?_
    rintro e w2 ⟨rfl, hb2⟩
    rw [HT.out]
    have HB2 : Hid (Below w.heap.size w w2) := HB.out.trans (hb2.mono HB.out.size)
    clear hb2 hc1 hf1
    go_wp2
    go_ret2
    exact ⟨by rw [HF.out]; rfl, HB2.out⟩
  all_goals
    go_wp2
    go_ret2
    exact ⟨by rw [HF.out]; rfl, HB.out⟩

def chosenL (B : Bay) (oil : List Int) (land : Bool) (n c : Nat) : List Int := (List.range n).map (fun i => if i < c ∧ B.Land.getD i false = land then oil.getD i 0 else 0)
theorem chosenL_len (B : Bay) (oil : List Int) (land : Bool) (n c : Nat) : (chosenL B oil land n c).length = n := by simp [chosenL]
theorem chosenL_zero (B : Bay) (oil : List Int) (land : Bool) (n : Nat) : chosenL B oil land n 0 = List.replicate n 0 := by
  unfold chosenL; simp only [Nat.not_lt_zero, false_and, if_false]; rw [List.map_const']; simp
theorem chosenL_get (B : Bay) (oil : List Int) (land : Bool) {n c i : Nat} (h : i < n) : (chosenL B oil land n c).getD i 0 = if i < c ∧ B.Land.getD i false = land then oil.getD i 0 else 0 := by
  unfold chosenL; simp [List.getD_eq_getElem?_getD, h]
theorem chosenL_skip {B : Bay} {oil : List Int} {land : Bool} {n c : Nat} (h : B.Land.getD c false ≠ land) : chosenL B oil land n (c + 1) = chosenL B oil land n c := by
  unfold chosenL
  apply List.map_congr_left
  intro i hi
  by_cases e : i = c
  · subst e; rw [if_neg (fun h' => h h'.2), if_neg (fun h' => h h'.2)]
  · by_cases hc : i < c
    · by_cases hl : B.Land.getD i false = land
      · rw [if_pos ⟨by omega, hl⟩, if_pos ⟨hc, hl⟩]
      · rw [if_neg (fun h' => hl h'.2), if_neg (fun h' => hl h'.2)]
    · rw [if_neg (fun h' => by omega), if_neg (fun h' => by omega)]
theorem chosenL_set {B : Bay} {oil : List Int} {land : Bool} {n c : Nat} (h : B.Land.getD c false = land) : (chosenL B oil land n c).set c (oil.getD c 0) = chosenL B oil land n (c + 1) := by
  apply List.ext_getElem?
  intro i
  unfold chosenL
  rw [List.getElem?_set]
  by_cases hn : i < n
  · by_cases e : c = i
    · subst e; simp [hn]; intro h'; exact absurd (by simpa [List.getD_eq_getElem?_getD] using h) h'
    · rw [if_neg e]
      have : (i < c + 1 ↔ i < c) := by omega
      simp [hn, this]
  · by_cases e : c = i
    · subst e; simp [hn]
    · rw [if_neg e]; simp [hn]
def landsL (B : Bay) (oil : List Int) (land : Bool) : List Int := chosenL B oil land oil.length oil.length

/-- What chosen's blocks hold. -/
def ChoW (w : World) (bv sv : Array Value) (out : List Int) (wr : World) : Prop :=
  Below w.heap.size w wr ∧ wr.heap[w.heap.size]? = some (.cells bv 25 (0, 0)) ∧ wr.heap[w.heap.size + 1]? = some (.cells sv 28 (0, 0)) ∧ wr.heap[w.heap.size + 1 + 1]? = some (.cells (out.map (Value.int .i64)).toArray 3 (0, 0))

def IntsNew (base : Nat) (w : World) (v : Value) (l : List Int) : Prop := ∃ ao c, v = .slice ao l.length c ∧ IntsAt w ao l ∧ ∀ a, ao = some a → base ≤ a.block

set_option maxHeartbeats 1000000 in
theorem chosen_any (v sv : Value) (B : Bay) (s : Slk) (land : Bool) (w : World) (hv : BayAt w v B) (hs : SlkAt w sv s) (hn : s.Oil.length ≤ B.Land.length) (h100 : s.Oil.length ≤ 1000) :
    Calls Try.prog 70 #[v, sv, .bool land] w fun e w' => ∃ rv, e = .returned rv ∧ IntsNew w.heap.size w' rv (landsL B s.Oil land) ∧ Below w.heap.size w w' := by
  obtain ⟨la, lc, sa, sc, rfl, hl, hsh, hll, hsl⟩ := hv
  obtain ⟨ao, c, rfl, hi, _⟩ := hs
  have HL := Lib.hid hl
  have HI := Lib.hid hi
  clear hl hsh hi
  have hmk := make26 s.Oil.length (by omega)
  go_enter Try.func70, Try.ntmps70
  go_wp2
  generalize hW : (((w.alloc _).alloc _).alloc _) = W
  have HW : Hid (ChoW w #[.int .i64 B.W, .int .i64 B.H, .slice la B.Land.length lc, .slice sa B.Share.length sc] #[.int .i64 s.K, .slice ao s.Oil.length c, .int .i64 s.Away] (chosenL B s.Oil land s.Oil.length 0) W) := by
    obtain ⟨f0, f1, f2, f3, f4⟩ := three_new (w := w) #[.int .i64 B.W, .int .i64 B.H, .slice la B.Land.length lc, .slice sa B.Share.length sc] #[.int .i64 s.K, .slice ao s.Oil.length c, .int .i64 s.Away] (zeros s.Oil.length) 25 28 3
    rw [← hW]
    refine ⟨f0, f2, f3, ?_⟩
    rw [chosenL_zero]; simpa [zeros] using f4
  clear hW hmk
  go_loopw [17] (fun i wr => ∃ k : Nat, k ≤ s.Oil.length ∧ i = .int .i64 k ∧ ChoW w #[.int .i64 B.W, .int .i64 B.H, .slice la B.Land.length lc, .slice sa B.Share.length sc] #[.int .i64 s.K, .slice ao s.Oil.length c, .int .i64 s.Away] (chosenL B s.Oil land s.Oil.length k) wr) (fun i _ => s.Oil.length - (intOf i).toNat)
  case atStart => exact ⟨0, Nat.zero_le _, rfl, HW.out⟩
  case round =>
    obtain ⟨k, hk, rfl, hb, g0, g1, g2⟩ := hrel
    have d2 := cell_of_heap g0 2
    have d3 := cell_of_heap g0 3
    simp at d2 d3
    have l0 := heap_lt g0
    have l2 := heap_lt g2
    have HB := Lib.hid hb
    have G0 := Lib.hid g0
    have G1 := Lib.hid g1
    have G2 := Lib.hid g2
    clear g0 g1
    by_cases hlt : k < s.Oil.length
    · obtain ⟨bl, ol, rfl, hbl, hcl⟩ := (HL.out.below (Nat.le_refl _) HB.out).get (k := k) (by omega)
      obtain ⟨bi, oi, rfl, hbi, hci⟩ := (HI.out.below (Nat.le_refl _) HB.out).get hlt
      have hkl : (k : Int) < B.Land.length := by omega
      have hg : wr.cell? ⟨w.heap.size + 1 + 1, k, none⟩ = some (.int .i64 0) := by
        rw [cell_of_heap g2 k]; simp [chosenL, hlt]
      have hfz := free_of_heap g2 k
      clear g2
      have hskip := Lib.hid (fun h => chosenL_skip (B := B) (oil := s.Oil) (land := land) (n := s.Oil.length) (c := k) h)
      have hset := Lib.hid (fun h => chosenL_set (B := B) (oil := s.Oil) (land := land) (n := s.Oil.length) (c := k) h)
      generalize B.Land.getD k false = ld at *
      generalize s.Oil.getD k 0 = x at *
      by_cases he : ld = land
      · have hbq : (ld == land) = true := by simp [he]
        have HQ := Lib.hid (hset.out he)
        clear hskip hset he
        go_wp2
        go_roundw
        case rel =>
          refine ⟨k + 1, by omega, by go_num, HB.out.setCell (by simp; omega) _, (heap_setCell_other (by simp; omega) _).trans G0.out, (heap_setCell_other (by simp) _).trans G1.out, (heap_setCell_same G2.out _).trans ?_⟩
          rw [← HQ.out]; simp [List.map_set]
        case measure => simp [intOf]; omega
      · have hbq : (ld == land) = false := by simp [he]
        have HQ := Lib.hid (hskip.out he)
        clear hskip hset he
        go_wp2
        go_roundw
        case rel => exact ⟨k + 1, by omega, by go_num, HB.out, G0.out, G1.out, by rw [HQ.out]; exact G2.out⟩
        case measure => simp [intOf]; omega
    · obtain rfl : k = s.Oil.length := by omega
      clear g2
      go_wp2
      go_ret
      exact ⟨_, rfl, ⟨some ⟨w.heap.size + 1 + 1, 0, none⟩, s.Oil.length, by rw [landsL, chosenL_len]; rfl, ints_of_heap G2.out, fun a ha => by cases ha; show w.heap.size ≤ w.heap.size + 1 + 1; omega⟩, HB.out⟩
end Go.Proofs.Ytnafllhgjidbkaa
