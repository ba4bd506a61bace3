import Derived.Test.YtnafllhgjidbkaaT24
namespace Go.Proofs.Ytnafllhgjidbkaa
open Go.RowKit Go.Shelf
set_option linter.unusedVariables false
set_option linter.unusedSimpArgs false

theorem beach_len {B : Bay} {s : Slk} (h : s.Oil.length ≤ 100) : (beachL B s).length ≤ 100 := by
  unfold beachL; split
  · rw [lands_len]; exact h
  · simp

set_option maxHeartbeats 2000000 in
theorem bays_any (B : Bay) (s : Slk) (la sa ao : Option Addr) (lc sc c : Nat) (w : World) (hl : BoolsAt w la B.Land) (hsh : FivesAt w sa B.Share) (hi : IntsAt w ao s.Oil) :
    Calls Try.prog 7 #[.agg #[.int .i64 B.W, .int .i64 B.H, .slice la B.Land.length lc, .slice sa B.Share.length sc], .agg #[.int .i64 s.K, .slice ao s.Oil.length c, .int .i64 s.Away]] w fun e w' => e = .returned (.bool true) ∧ Below w.heap.size w w' := by
  have HLo := fun W => Long_any B W la sa lc sc
  have Hlo := fun W => long_any s W ao c
  by_cases hL : 100 < B.Land.length ∨ 100 < B.Share.length
  · rw [decide_eq_true hL] at HLo
    clear Hlo hL
    go_enter Try.func7, Try.ntmps7
    go_wp2_with fail
    refine (HLo _).mono ?_
    rintro e w1 ⟨rfl, hb1⟩
    have HB : Hid (Below w.heap.size w w1) := (((Below.refl _ _).alloc (Nat.le_refl _) _).alloc (by simp) _).trans (hb1.mono (by simp <;> omega))
    clear HLo hb1
    go_wp2_with fail
    refine (Sane_any _).mono ?_
    rintro e w2 ⟨rfl, hb2⟩
    have HB2 : Hid (Below w.heap.size w w2) := HB.out.trans (hb2.mono HB.out.size)
    clear hb2
    go_wp2
    go_ret
    exact ⟨rfl, HB2.out⟩
  rw [decide_eq_false hL] at HLo
  by_cases hS : 100 < s.Oil.length
  · rw [decide_eq_true hS] at Hlo
    clear hL hS
    go_enter Try.func7, Try.ntmps7
    go_wp2_with fail
    refine (HLo _).mono ?_
    rintro e w1 ⟨rfl, hb1⟩
    have HB : Hid (Below w.heap.size w w1) := (((Below.refl _ _).alloc (Nat.le_refl _) _).alloc (by simp) _).trans (hb1.mono (by simp <;> omega))
    obtain ⟨hc1, hf1⟩ := bcell hb1
    clear HLo hb1
    go_wp2_with fail
    refine (Hlo _).mono ?_
    rintro e w2 ⟨rfl, hb2⟩
    have HB2 : Hid (Below w.heap.size w w2) := HB.out.trans (hb2.mono HB.out.size)
    clear hb2 hc1 hf1
    go_wp2_with fail
    refine (Sane_any _).mono ?_
    rintro e w3 ⟨rfl, hb3⟩
    have HB3 : Hid (Below w.heap.size w w3) := HB2.out.trans (hb3.mono HB2.out.size)
    clear hb3
    go_wp2
    go_ret
    exact ⟨rfl, HB3.out⟩
  rw [decide_eq_false hS] at Hlo
  have hB : BayAt w (.agg #[.int .i64 B.W, .int .i64 B.H, .slice la B.Land.length lc, .slice sa B.Share.length sc]) B := ⟨la, lc, sa, sc, rfl, hl, hsh, by omega, by omega⟩
  have hK : SlkAt w (.agg #[.int .i64 s.K, .slice ao s.Oil.length c, .int .i64 s.Away]) s := ⟨ao, c, rfl, hi, by omega⟩
  have HB : Hid (∀ W, Below w.heap.size w W → BayAt W _ B) := fun W h => hB.below (Nat.le_refl _) h
  have HK : Hid (∀ W, Below w.heap.size w W → SlkAt W _ s) := fun W h => hK.below (Nat.le_refl _) h
  have F1 := Lib.hid (fun W h => Fits_any _ _ B s W (HB.out W h) (HK.out W h))
  have F2 := Lib.hid (fun W h => rFits_any _ _ B s W (HB.out W h) (HK.out W h))
  have F3 := Lib.hid (fun W h => valid_any _ B W (HB.out W h))
  have F4 := Lib.hid (fun W h => rvalid_any _ B W (HB.out W h))
  have F5 := Lib.hid (fun W h => Total_any _ _ B s W (HB.out W h) (HK.out W h))
  have F6 := Lib.hid (fun W h => rTotal_any _ _ B s W (HB.out W h) (HK.out W h))
  have F7 := Lib.hid (fun W h => Afloat_any _ _ B s W (HB.out W h) (HK.out W h))
  have F8 := Lib.hid (fun W h => rAfloat_any _ _ B s W (HB.out W h) (HK.out W h))
  have F9 := Lib.hid (fun W h => Beached_any _ _ B s W (HB.out W h) (HK.out W h))
  have F10 := Lib.hid (fun W h => rBeached_any _ _ B s W (HB.out W h) (HK.out W h))
  have hbl := Lib.hid (beach_len (B := B) (s := s) (by omega))
  clear HB HK hB hK hl hsh hi hL hS
  generalize decide (okE B s = 0) = x1 at *
  generalize fitE B s = x2 at *
  generalize validB B = x3 at *
  generalize totV B s = x4 at *
  generalize okE B s = x5 at *
  generalize floatV B s = x6 at *
  generalize beachL B s = x7 at *
  go_enter Try.func7, Try.ntmps7
  go_wp2_with fail
  refine (HLo _).mono ?_
  rintro e w1 ⟨rfl, hb1⟩
  have HB1 : Hid (Below w.heap.size w w1) := (((Below.refl _ _).alloc (Nat.le_refl _) _).alloc (by simp) _).trans (hb1.mono (by simp <;> omega))
  clear HLo
  obtain ⟨hc1, hf1⟩ := bcell hb1
  go_wp2_with fail
  refine (Hlo _).mono ?_
  rintro e w2 ⟨rfl, hb2⟩
  clear Hlo hc1 hf1
  have hb := hb1.trans (hb2.mono hb1.size)
  have HB2 : Hid (Below w.heap.size w w2) := HB1.out.trans (hb2.mono HB1.out.size)
  clear hb1 hb2 HB1
  obtain ⟨hc1, hf1⟩ := bcell hb
  go_wp2_with fail
  refine (F1.out _ HB2.out).mono ?_
  rintro e w3 ⟨rfl, hb3⟩
  clear hc1 hf1
  have HB3 : Hid (Below w.heap.size w w3) := HB2.out.trans (hb3.mono HB2.out.size)
  have hb' := hb.trans (hb3.mono hb.size)
  clear hb hb3 HB2 F1
  obtain ⟨hc1, hf1⟩ := bcell hb'
  go_wp2_with fail
  refine (F2.out _ HB3.out).mono ?_
  rintro e w4 ⟨rfl, hb4⟩
  clear hc1 hf1
  have HB4 : Hid (Below w.heap.size w w4) := HB3.out.trans (hb4.mono HB3.out.size)
  have hb := hb'.trans (hb4.mono hb'.size)
  have hsz4 : w.heap.size + 2 ≤ w4.heap.size := by have := hb.size; simp at this; omega
  clear hb' hb4 HB3 F2
  obtain ⟨hc1, hf1⟩ := bcell hb
  have d0 : ∀ x : Aft w4, x.val.cell? ⟨w.heap.size, 0, none⟩ = some (.int .i64 B.W) := fun x => (x.bel.cell (p := ⟨w.heap.size, 0, none⟩) (by show w.heap.size < _; omega)).trans (by rw [hc1 _ _ (by simp <;> omega)]; simp [go_sem])
  have d1 : ∀ x : Aft w4, x.val.cell? ⟨w.heap.size, 1, none⟩ = some (.int .i64 B.H) := fun x => (x.bel.cell (p := ⟨w.heap.size, 1, none⟩) (by show w.heap.size < _; omega)).trans (by rw [hc1 _ _ (by simp <;> omega)]; simp [go_sem])
  have d2 : ∀ x : Aft w4, x.val.cell? ⟨w.heap.size, 2, none⟩ = some (.slice la B.Land.length lc) := fun x => (x.bel.cell (p := ⟨w.heap.size, 2, none⟩) (by show w.heap.size < _; omega)).trans (by rw [hc1 _ _ (by simp <;> omega)]; simp [go_sem])
  have d3 : ∀ x : Aft w4, x.val.cell? ⟨w.heap.size, 3, none⟩ = some (.slice sa B.Share.length sc) := fun x => (x.bel.cell (p := ⟨w.heap.size, 3, none⟩) (by show w.heap.size < _; omega)).trans (by rw [hc1 _ _ (by simp <;> omega)]; simp [go_sem])
  go_wp2_with fail
  refine wp_region_aft (by kernel_rfl) (by kernel_rfl) ?_
  repeat (go_big_quiet_step (first | (go_at_call 35; rename_i x; exact Calls.aft (F3.out x.val (HB4.out.trans (x.bel.mono HB4.out.size)))) | (go_at_call 26; rename_i x; exact Calls.aft (F4.out x.val (HB4.out.trans (x.bel.mono HB4.out.size))))))
  refine wpQuiet_nil ?_
  rintro w5 ⟨x5', hx5⟩
  have hb5 : Below w4.heap.size w4 w5 := by rw [hx5]; exact x5'.bel
  clear hx5 x5'
  clear hc1 hf1 d0 d1 d2 d3 F3 F4
  have HB5 : Hid (Below w.heap.size w w5) := HB4.out.trans (hb5.mono HB4.out.size)
  have hb' := hb.trans (hb5.mono hb.size)
  clear hb hb5 HB4 hsz4
  obtain ⟨hc1, hf1⟩ := bcell hb'
  go_wp2_with fail
  refine (F5.out _ HB5.out).mono ?_
  rintro e w6 ⟨rfl, hb6⟩
  clear hc1 hf1
  have HB6 : Hid (Below w.heap.size w w6) := HB5.out.trans (hb6.mono HB5.out.size)
  have hb := hb'.trans (hb6.mono hb'.size)
  clear hb' hb6 HB5 F5
  obtain ⟨hc1, hf1⟩ := bcell hb
  go_wp2_with fail
  refine (F6.out _ HB6.out).mono ?_
  rintro e w7 ⟨rfl, hb7⟩
  clear hc1 hf1
  have HB7 : Hid (Below w.heap.size w w7) := HB6.out.trans (hb7.mono HB6.out.size)
  have hb' := hb.trans (hb7.mono hb.size)
  clear hb hb7 HB6 F6
  obtain ⟨hc1, hf1⟩ := bcell hb'
  go_wp2_with fail
  refine (F7.out _ HB7.out).mono ?_
  rintro e w8 ⟨rfl, hb8⟩
  clear hc1 hf1
  have HB8 : Hid (Below w.heap.size w w8) := HB7.out.trans (hb8.mono HB7.out.size)
  have hb := hb'.trans (hb8.mono hb'.size)
  clear hb' hb8 HB7 F7
  obtain ⟨hc1, hf1⟩ := bcell hb
  go_wp2_with fail
  refine (F8.out _ HB8.out).mono ?_
  rintro e w9 ⟨rfl, hb9⟩
  clear hc1 hf1
  have HB9 : Hid (Below w.heap.size w w9) := HB8.out.trans (hb9.mono HB8.out.size)
  have hb' := hb.trans (hb9.mono hb.size)
  clear hb hb9 HB8 F8
  obtain ⟨hc1, hf1⟩ := bcell hb'
  go_wp2_with fail
  refine (F9.out _ HB9.out).mono ?_
  rintro e w10 ⟨rv, rfl, ⟨ax, cx, rfl, hix, _⟩, hb10⟩
  clear hc1 hf1
  have HX := Lib.hid hix
  have HB10 : Hid (Below w.heap.size w w10) := HB9.out.trans (hb10.mono HB9.out.size)
  have hb := hb'.trans (hb10.mono hb'.size)
  clear hb' hb10 HB9 F9 hix
  obtain ⟨hc1, hf1⟩ := bcell hb
  go_wp2_with fail
  refine (F10.out _ HB10.out).mono ?_
  rintro e w11 ⟨rv, rfl, ⟨ay, cy, rfl, hiy, _⟩, hb11⟩
  clear hc1 hf1
  have HB11 : Hid (Below w.heap.size w w11) := HB10.out.trans (hb11.mono HB10.out.size)
  have hS := sameInts_any ax ay cx cy x7 x7 w11 (HX.out.below (Nat.le_refl _) hb11) hiy (by have := hbl.out; omega) (by have := hbl.out; omega)
  rw [show sameB x7 x7 = true from by simp [sameB]] at hS
  have HS := Lib.hid hS
  clear hb hb11 HB10 F10 HX hS hiy
  go_wp2_with fail
  refine HS.out.mono ?_
  rintro e w12 ⟨rfl, hb12⟩
  have HB12 : Hid (Below w.heap.size w w12) := HB11.out.trans (hb12.mono HB11.out.size)
  clear hb12 HB11 HS
  go_wp2_with fail
  refine (Sane_any _).mono ?_
  rintro e w13 ⟨rfl, hb13⟩
  have HB13 : Hid (Below w.heap.size w w13) := HB12.out.trans (hb13.mono HB12.out.size)
  clear hb13 HB12
  go_wp2
  go_ret
  exact ⟨rfl, HB13.out⟩
end Go.Proofs.Ytnafllhgjidbkaa
