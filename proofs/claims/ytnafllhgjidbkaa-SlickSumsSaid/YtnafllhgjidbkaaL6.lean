import Derived.Test.YtnafllhgjidbkaaT25
import Derived.Test.YtnafllhgjidbkaaM1
namespace Go.Proofs.Ytnafllhgjidbkaa
open Go.RowKit Go.Shelf
set_option linter.unusedVariables false
set_option linter.unusedSimpArgs false

theorem cells3 {W : World} {b : Nat} {x y z : Value} {t : TypeId} {f : Nat × Nat} (h : W.heap[b]? = some (.cells #[x, y, z] t f)) : W.cell? ⟨b, 0, none⟩ = some x ∧ W.cell? ⟨b, 1, none⟩ = some y ∧ W.cell? ⟨b, 2, none⟩ = some z :=
  ⟨cell_of_heap h 0, cell_of_heap h 1, cell_of_heap h 2⟩
theorem cells4 {W : World} {b : Nat} {x y z u : Value} {t : TypeId} {f : Nat × Nat} (h : W.heap[b]? = some (.cells #[x, y, z, u] t f)) : W.cell? ⟨b, 0, none⟩ = some x ∧ W.cell? ⟨b, 1, none⟩ = some y ∧ W.cell? ⟨b, 2, none⟩ = some z ∧ W.cell? ⟨b, 3, none⟩ = some u :=
  ⟨cell_of_heap h 0, cell_of_heap h 1, cell_of_heap h 2, cell_of_heap h 3⟩
theorem drewN_below (B : Nat) (w : World) (n : Nat) : Below B w (w.drewN n) := ⟨rfl, rfl, rfl, Nat.le_refl _, fun _ _ => rfl⟩

theorem is_any2 (B : Bay) (s : Slk) (la sa ao : Option Addr) (lc sc c : Nat) (w : World) (hv : BayAt w (.agg #[.int .i64 B.W, .int .i64 B.H, .slice la B.Land.length lc, .slice sa B.Share.length sc]) B) (hi : IntsAt w ao s.Oil) (hval : validP B) :
    Calls Try.prog 27 #[.agg #[.int .i64 B.W, .int .i64 B.H, .slice la B.Land.length lc, .slice sa B.Share.length sc], .agg #[.int .i64 s.K, .slice ao s.Oil.length c, .int .i64 s.Away]] w fun e w' => e = .returned (.bool (fitsB B s)) ∧ Below w.heap.size w w' := by
  by_cases hn : s.Oil.length < 1152921504606846976
  · exact is_any _ _ B s w hv ⟨ao, c, rfl, hi, hn⟩ hval
  · obtain ⟨hp1, hp2⟩ := mul36 hval.1.1 hval.1.2 hval.2.1.1 hval.2.1.2
    have hlen : ¬ (s.Oil.length : Int) = B.W * B.H := by omega
    have hb : ((s.Oil.length : Int) == B.W * B.H) = false := by simp [hlen]
    have hf := Lib.hid (fitsB_false (B := B) (s := s) (fun h => hlen h.2.1))
    clear hi hlen hval hv hn
    go_enter Try.func27, Try.ntmps27
    go_wp2
    go_ret
    exact ⟨ret_bool hf.out.symm, ((Below.refl _ _).alloc (Nat.le_refl _) _).alloc (by simp) _⟩

theorem tmod_bd {n K : Int} (hn : 0 ≤ n) (hK : 0 ≤ K ∧ K ≤ 5) : ∃ i : Nat, Int.tmod n (5 - K + 1) = i ∧ K + i ≤ 5 := by
  have h1 : 0 ≤ Int.tmod n (5 - K + 1) := Int.tmod_nonneg _ hn
  have h2 : Int.tmod n (5 - K + 1) < 5 - K + 1 := Int.tmod_lt_of_pos _ (by omega)
  exact ⟨(Int.tmod n (5 - K + 1)).toNat, by omega, by omega⟩

set_option maxRecDepth 100000 in
set_option maxHeartbeats 2000000 in
theorem mass_any (B : Bay) (s : Slk) (la sa ao : Option Addr) (lc sc c : Nat) (n m : Int) (w : World) (hl : BoolsAt w la B.Land) (hsh : FivesAt w sa B.Share) (hi : IntsAt w ao s.Oil) (hn : 0 ≤ n ∧ n ≤ 255) (hm : 0 ≤ m ∧ m ≤ 255) :
    Calls Try.prog 6 #[.agg #[.int .i64 B.W, .int .i64 B.H, .slice la B.Land.length lc, .slice sa B.Share.length sc], .agg #[.int .i64 s.K, .slice ao s.Oil.length c, .int .i64 s.Away], .agg #[.int .u8 n, .int .u8 m]] w fun e w' => e = .returned (.bool true) ∧ Below w.heap.size w w' := by
  have HLo := Lib.hid (fun W => Long_any B W la sa lc sc)
  obtain ⟨f0, f1, f2, f3, f4⟩ := three_new (w := w) #[.int .i64 B.W, .int .i64 B.H, .slice la B.Land.length lc, .slice sa B.Share.length sc] #[.int .i64 s.K, .slice ao s.Oil.length c, .int .i64 s.Away] #[.int .u8 n, .int .u8 m] 25 28 45
  have HI := Lib.hid hi
  have HL := Lib.hid hl
  have HSH := Lib.hid hsh
  have F := Lib.hid (And.intro f0 (And.intro f1 (And.intro f2 (And.intro f3 f4))))
  clear hi hl hsh f0 f1 f2 f3 f4
  go_enter Try.func6, Try.ntmps6
  go_wp2_with fail
  generalize hW : (((w.alloc _).alloc _).alloc _) = W at *
  clear hW
  obtain ⟨f0, f1, f2, f3, f4⟩ := F.out
  clear F
  obtain ⟨d0, d1, d2, d3⟩ := cells4 f2
  have m0 := cell_of_heap f4 0
  have m1 := cell_of_heap f4 1
  simp at m0 m1
  have l0 := heap_lt f2
  have l1 := heap_lt f3
  have l2 := heap_lt f4
  have G0 := Lib.hid f2
  have G1 := Lib.hid f3
  have HB : Hid (Below w.heap.size w W) := f0
  clear f0 f1 f2 f3 f4
  go_quiet (fail)
  go_wp2_with fail
  refine (HLo.out _).mono ?_
  rintro e w1 ⟨rfl, hb1⟩
  have HB1 : Hid (Below w.heap.size w w1) := HB.out.trans ((drewN_below _ _ _).trans (hb1.mono HB.out.size))
  have G0' := Lib.hid ((hb1.block _ l0).trans G0.out)
  have G1' := Lib.hid ((hb1.block _ l1).trans G1.out)
  obtain ⟨e0, e1, e2, e3⟩ := cells4 G0'.out
  obtain ⟨s0, s1, s2⟩ := cells3 G1'.out
  clear d0 d1 d2 d3 m0 m1 l0 l1 l2 G0 G1 HB hb1 HLo
  have sane : Hid (∀ w2, Below w.heap.size w w2 → Calls Try.prog 17 #[] w2 fun e w' => e = .returned (.bool true) ∧ Below w.heap.size w w') := fun w2 h => (Sane_any w2).mono fun e w' h' => ⟨h'.1, h.trans (h'.2.mono h.size)⟩
  by_cases hL : 100 < B.Land.length ∨ 100 < B.Share.length
  · rw [decide_eq_true hL]
    clear hL
    go_wp2_with fail
    refine (sane.out _ HB1.out).mono ?_
    rintro e w2 ⟨rfl, hb2⟩
    go_wp2
    go_ret
    exact ⟨rfl, hb2⟩
  rw [decide_eq_false hL]
  have hB : Hid (∀ W, Below w.heap.size w W → BayAt W (.agg #[.int .i64 B.W, .int .i64 B.H, .slice la B.Land.length lc, .slice sa B.Share.length sc]) B) := fun W h => ⟨la, lc, sa, sc, rfl, HL.out.below (Nat.le_refl _) h, HSH.out.below (Nat.le_refl _) h, by omega, by omega⟩
  clear hL
  go_wp2_with fail
  refine (rvalid_any _ B _ (hB.out _ HB1.out)).mono ?_
  rintro e w2 ⟨rfl, hb2⟩
  have HB2 : Hid (Below w.heap.size w w2) := HB1.out.trans (hb2.mono HB1.out.size)
  have H0 := Lib.hid ((hb2.block _ (heap_lt G0'.out)).trans G0'.out)
  have H1 := Lib.hid ((hb2.block _ (heap_lt G1'.out)).trans G1'.out)
  clear e0 e1 e2 e3 s0 s1 s2 G0' G1' hb2 HB1
  obtain ⟨e0, e1, e2, e3⟩ := cells4 H0.out
  obtain ⟨s0, s1, s2⟩ := cells3 H1.out
  by_cases hval : validP B
  rotate_left
  · rw [validB_false hval]
    clear hval
    go_wp2_with fail
    refine (sane.out _ HB2.out).mono ?_
    rintro e w3 ⟨rfl, hb3⟩
    go_wp2
    go_ret
    exact ⟨rfl, hb3⟩
  rw [validB_true hval]
  have HVAL := Lib.hid hval
  clear hval
  go_wp2_with fail
  refine (is_any2 B s la sa ao lc sc c _ (hB.out _ HB2.out) (HI.out.below (Nat.le_refl _) HB2.out) HVAL.out).mono ?_
  rintro e w3 ⟨rfl, hb3⟩
  have HB3 : Hid (Below w.heap.size w w3) := HB2.out.trans (hb3.mono HB2.out.size)
  have G0 := Lib.hid ((hb3.block _ (heap_lt H0.out)).trans H0.out)
  have G1 := Lib.hid ((hb3.block _ (heap_lt H1.out)).trans H1.out)
  clear e0 e1 e2 e3 s0 s1 s2 H0 H1 hb3 HB2
  obtain ⟨e0, e1, e2, e3⟩ := cells4 G0.out
  obtain ⟨s0, s1, s2⟩ := cells3 G1.out
  by_cases hfit : fitsP B s
  rotate_left
  · rw [fitsB_false hfit]
    clear hfit
    go_wp2_with fail
    refine (sane.out _ HB3.out).mono ?_
    rintro e w4 ⟨rfl, hb4⟩
    go_wp2
    go_ret
    exact ⟨rfl, hb4⟩
  rw [fitsB_true hfit]
  obtain ⟨i, hi, hKi⟩ := tmod_bd hn.1 hfit.1
  obtain ⟨k, hk, hKk⟩ := tmod_bd (K := s.K + i) hm.1 ⟨by have := hfit.1; omega, by omega⟩
  have hk' : Int.tmod m (5 - s.K - i + 1) = k := by rw [← hk]; congr 1; omega
  have hK := hfit.1
  have hval := HVAL.out
  obtain ⟨b36, -, bO, bA, bS⟩ := fits_bd hval hfit
  have hxf := mvN_fits hval hfit i (by omega)
  obtain ⟨x36, -, xO, xA, xS⟩ := fits_bd hval hxf
  have hxl : (mvN B s i).Oil.length = s.Oil.length := mvN_len B s i
  have hxK : (mvN B s i).K = s.K + i := mvN_K B s i
  have hpb := pow_bd (i : Int) (by omega) (by omega)
  rw [Int.toNat_natCast] at hpb
  have C1 := Lib.hid (fun W (h : Below w.heap.size w W) => After_any _ _ B s i W (hB.out W h) ⟨ao, c, rfl, HI.out.below (Nat.le_refl _) h, by omega⟩ (by omega))
  have C2 := Lib.hid (fun W a' c' (h : Below w.heap.size w W) (hi' : IntsAt W a' (mvN B s i).Oil) => After_any _ (.agg #[.int .i64 (mvN B s i).K, .slice a' (mvN B s i).Oil.length c', .int .i64 (mvN B s i).Away]) B (mvN B s i) k W (hB.out W h) ⟨a', c', rfl, hi', by omega⟩ (by omega))
  have C3 := Lib.hid (fun W (h : Below w.heap.size w W) => After_any _ _ B s ((i + k : Nat) : Int) W (hB.out W h) ⟨ao, c, rfl, HI.out.below (Nat.le_refl _) h, by omega⟩ (by omega))
  rw [(aft_ok hval hfit (n := i) (by omega)).1, (aft_ok hval hfit (n := i) (by omega)).2] at C1
  rw [(aft_ok hval hxf (n := k) (by omega)).1, (aft_ok hval hxf (n := k) (by omega)).2] at C2
  rw [(aft_ok hval hfit (n := i + k) (by omega)).1, (aft_ok hval hfit (n := i + k) (by omega)).2, ← mvN_add] at C3
  have hcast : ((i + k : Nat) : Int) = (i : Int) + k := Int.natCast_add _ _
  rw [hcast] at C3
  have T1 := Lib.hid (fun W (h : Below w.heap.size w W) => Total_any _ _ B s W (hB.out W h) ⟨ao, c, rfl, HI.out.below (Nat.le_refl _) h, by omega⟩)
  have T2 := Lib.hid (fun W a' c' (h : Below w.heap.size w W) (hi' : IntsAt W a' (mvN B s i).Oil) => Total_any _ (.agg #[.int .i64 (mvN B s i).K, .slice a' (mvN B s i).Oil.length c', .int .i64 (mvN B s i).Away]) B (mvN B s i) W (hB.out W h) ⟨a', c', rfl, hi', by omega⟩)
  have E1 := Lib.hid (fun W (h : Below w.heap.size w W) => Beached_any _ _ B s W (hB.out W h) ⟨ao, c, rfl, HI.out.below (Nat.le_refl _) h, by omega⟩)
  have E2 := Lib.hid (fun W a' c' (h : Below w.heap.size w W) (hi' : IntsAt W a' (mvN B s i).Oil) => Beached_any _ (.agg #[.int .i64 (mvN B s i).K, .slice a' (mvN B s i).Oil.length c', .int .i64 (mvN B s i).Away]) B (mvN B s i) W (hB.out W h) ⟨a', c', rfl, hi', by omega⟩)
  have ht1 : totV B s = s.Away + s.Oil.sum := by unfold totV; rw [if_pos (okE_ok hval hfit)]
  have ht2 : totV B (mvN B s i) = (s.Away + s.Oil.sum) * 16 ^ i := by unfold totV; rw [if_pos (okE_ok hval hxf), mvN_tot hval hfit]
  have hb1 : beachL B s = landsL B s.Oil true := by unfold beachL; rw [if_pos (okE_ok hval hfit)]
  have hb2 : beachL B (mvN B s i) = landsL B (mvN B s i).Oil true := by unfold beachL; rw [if_pos (okE_ok hval hxf)]
  rw [ht1, okE_ok hval hfit] at T1
  rw [ht2, okE_ok hval hxf] at T2
  rw [hb1, okE_ok hval hfit] at E1
  rw [hb2, okE_ok hval hxf] at E2
  have hTb : 0 ≤ (s.Away + s.Oil.sum) * 16 ^ i ∧ (s.Away + s.Oil.sum) * 16 ^ i ≤ 80000000000 := by
    rw [← mvN_tot hval hfit]; omega
  have hAb := mvN_away hval hfit i (by omega)
  have hA0 : 0 ≤ s.Away * 16 ^ i := Int.mul_nonneg bA.1 (by omega)
  have hlen1 : (landsL B s.Oil true).length = s.Oil.length := lands_len ..
  have hlen2 : (landsL B (mvN B s i).Oil true).length = s.Oil.length := by rw [lands_len, hxl]
  have hle : ∀ j, j < s.Oil.length → 0 ≤ (landsL B s.Oil true).getD j 0 ∧ 0 ≤ (landsL B s.Oil true).getD j 0 * 16 ^ i ∧ (landsL B s.Oil true).getD j 0 * 16 ^ i ≤ (landsL B (mvN B s i).Oil true).getD j 0 ∧ (landsL B (mvN B s i).Oil true).getD j 0 ≤ 37748736000 := fun j hj => by
    have h1 := lands_bd (B := B) (land := true) (by omega) bO j (by rw [hlen1]; exact hj)
    have h2 := lands_bd (B := B) (land := true) (by omega) xO j (by rw [hlen2]; exact hj)
    exact ⟨h1.1, Int.mul_nonneg h1.1 (by omega), lands_le hval hfit (by omega) hj, h2.2⟩
  have S16 := Lib.hid (fun W => sixteen_any i W (by omega))
  have hyl : (mvN B (mvN B s i) k).Oil.length = s.Oil.length := by rw [mvN_len, mvN_len]
  have HLE := Lib.hid hle
  have HL1 := Lib.hid hlen1
  have HL2 := Lib.hid hlen2
  have HXL := Lib.hid hxl
  have HYL := Lib.hid hyl
  have HNUM := Lib.hid (And.intro b36 (And.intro bA (And.intro x36 (And.intro xA (And.intro hpb (And.intro hTb (And.intro hAb hA0)))))))
  clear b36 bA bS x36 xA xS hpb hTb hAb hA0
  clear hfit hk hval hxf hxl hxK ht1 ht2 hb1 hb2 hlen1 hlen2 hle hcast bO xO hyl HVAL
  generalize mvN B (mvN B s i) k = y at *
  generalize mvN B s i = x at *
  generalize (16 : Int) ^ i = p at *
  generalize s.Away + s.Oil.sum = T at *
  generalize landsL B s.Oil true = bs at *
  generalize landsL B x.Oil true = bx at *
  go_wp2_with fail
  refine (C1.out _ HB3.out).mono ?_
  rintro e w4 ⟨rv, rfl, ⟨ax, cx, rfl, hix, -, hfx⟩, hb4⟩
  have HB4 : Hid (Below w.heap.size w w4) := HB3.out.trans (hb4.mono HB3.out.size)
  have H0 := Lib.hid ((hb4.block _ (heap_lt G0.out)).trans G0.out)
  have H1 := Lib.hid ((hb4.block _ (heap_lt G1.out)).trans G1.out)
  clear e0 e1 e2 e3 s0 s1 s2 G0 G1 hb4 HB3 C1
  obtain ⟨e0, e1, e2, e3⟩ := cells4 H0.out
  obtain ⟨s0, s1, s2⟩ := cells3 H1.out
  have l0 := heap_lt H0.out
  have l1 := heap_lt H1.out
  have HIX := Lib.hid hix
  clear hix
  go_wp2_with fail
  have K0 := Lib.hid (heap_alloc_old H0.out (.cells #[.int .i64 x.K, .slice ax x.Oil.length cx, .int .i64 x.Away] 28))
  have K1 := Lib.hid (heap_alloc_old H1.out (.cells #[.int .i64 x.K, .slice ax x.Oil.length cx, .int .i64 x.Away] 28))
  have K2 := Lib.hid (World.alloc_heap_new w4 (.cells #[.int .i64 x.K, .slice ax x.Oil.length cx, .int .i64 x.Away] 28))
  have HX1 := Lib.hid (HIX.out.below (Nat.le_refl _) ((Below.refl _ _).alloc (Nat.le_refl _) (.cells #[.int .i64 x.K, .slice ax x.Oil.length cx, .int .i64 x.Away] 28)))
  have HB5 : Hid (Below w.heap.size w (w4.alloc (.cells #[.int .i64 x.K, .slice ax x.Oil.length cx, .int .i64 x.Away] 28))) := HB4.out.alloc HB4.out.size _
  refine (C2.out _ ax cx HB5.out HX1.out).mono ?_
  rintro e w5 ⟨rv, rfl, ⟨ay, cy, rfl, hiy, -, hfy⟩, hb5⟩
  have HB6 : Hid (Below w.heap.size w w5) := HB5.out.trans (hb5.mono HB5.out.size)
  have G0 := Lib.hid ((hb5.block _ (heap_lt K0.out)).trans K0.out)
  have G1 := Lib.hid ((hb5.block _ (heap_lt K1.out)).trans K1.out)
  have G2 := Lib.hid ((hb5.block _ (heap_lt K2.out)).trans K2.out)
  have HX2 := Lib.hid (HX1.out.below (Nat.le_refl _) hb5)
  have HIY := Lib.hid hiy
  generalize w4.heap.size = bx' at *
  clear e0 e1 e2 e3 s0 s1 s2 H0 H1 K0 K1 K2 HX1 hb5 HB5 C2 HB4 hiy HIX l0 l1 hfx hfy
  obtain ⟨e0, e1, e2, e3⟩ := cells4 G0.out
  obtain ⟨s0, s1, s2⟩ := cells3 G1.out
  obtain ⟨x0, x1, x2⟩ := cells3 G2.out
  have l0 := heap_lt G0.out
  have l1 := heap_lt G1.out
  have l2 := heap_lt G2.out
  go_wp2_with fail
  have K0 := Lib.hid (heap_alloc_old G0.out (.cells #[.int .i64 y.K, .slice ay y.Oil.length cy, .int .i64 y.Away] 28))
  have K1 := Lib.hid (heap_alloc_old G1.out (.cells #[.int .i64 y.K, .slice ay y.Oil.length cy, .int .i64 y.Away] 28))
  have K2 := Lib.hid (heap_alloc_old G2.out (.cells #[.int .i64 y.K, .slice ay y.Oil.length cy, .int .i64 y.Away] 28))
  have K3 := Lib.hid (World.alloc_heap_new w5 (.cells #[.int .i64 y.K, .slice ay y.Oil.length cy, .int .i64 y.Away] 28))
  have hal := (Below.refl w5.heap.size w5).alloc (Nat.le_refl _) (.cells #[.int .i64 y.K, .slice ay y.Oil.length cy, .int .i64 y.Away] 28)
  have HX1 := Lib.hid (HX2.out.below (Nat.le_refl _) hal)
  have HY1 := Lib.hid (HIY.out.below (Nat.le_refl _) hal)
  have HB5 : Hid (Below w.heap.size w (w5.alloc (.cells #[.int .i64 y.K, .slice ay y.Oil.length cy, .int .i64 y.Away] 28))) := HB6.out.alloc HB6.out.size _
  refine (C3.out _ HB5.out).mono ?_
  rintro e w6 ⟨rv, rfl, ⟨az, cz, rfl, hiz, -, hfz⟩, hb6⟩
  have HB7 : Hid (Below w.heap.size w w6) := HB5.out.trans (hb6.mono HB5.out.size)
  have H0 := Lib.hid ((hb6.block _ (heap_lt K0.out)).trans K0.out)
  have H1 := Lib.hid ((hb6.block _ (heap_lt K1.out)).trans K1.out)
  have H2 := Lib.hid ((hb6.block _ (heap_lt K2.out)).trans K2.out)
  have H3 := Lib.hid ((hb6.block _ (heap_lt K3.out)).trans K3.out)
  have HXX := Lib.hid (HX1.out.below (Nat.le_refl _) hb6)
  have HYY := Lib.hid (HY1.out.below (Nat.le_refl _) hb6)
  have HZZ := Lib.hid hiz
  generalize w5.heap.size = by' at *
  clear e0 e1 e2 e3 s0 s1 s2 x0 x1 x2 G0 G1 G2 K0 K1 K2 K3 HX1 HY1 hb6 HB5 C3 HB6 hiz HIY HX2 l0 l1 l2 hal hfz
  obtain ⟨e0, e1, e2, e3⟩ := cells4 H0.out
  obtain ⟨s0, s1, s2⟩ := cells3 H1.out
  obtain ⟨x0, x1, x2⟩ := cells3 H2.out
  obtain ⟨y0, y1, y2⟩ := cells3 H3.out
  have l0 := heap_lt H0.out
  have l1 := heap_lt H1.out
  have l2 := heap_lt H2.out
  have l3 := heap_lt H3.out
  go_wp2_with fail
  have hal := (Below.refl w6.heap.size w6).alloc (Nat.le_refl _) (.cells #[.int .i64 y.K, .slice az y.Oil.length cz, .int .i64 y.Away] 28)
  have hQ := equal_any ay az cy cz y y _ (HYY.out.below (Nat.le_refl _) hal) (HZZ.out.below (Nat.le_refl _) hal) (by have := HYL.out; have := HNUM.out.1; omega) (by have := HYL.out; have := HNUM.out.1; omega)
  rw [eqSlk_refl] at hQ
  refine hQ.mono ?_
  rintro e w7 ⟨rfl, hb7⟩
  have hb8 : Below w6.heap.size w6 w7 := hal.trans (hb7.mono hal.size)
  have HB8 : Hid (Below w.heap.size w w7) := HB7.out.trans (hb8.mono HB7.out.size)
  have G0 := Lib.hid ((hb8.block _ l0).trans H0.out)
  have G1 := Lib.hid ((hb8.block _ l1).trans H1.out)
  have G2 := Lib.hid ((hb8.block _ l2).trans H2.out)
  have HX := Lib.hid (HXX.out.below (Nat.le_refl _) hb8)
  clear e0 e1 e2 e3 s0 s1 s2 x0 x1 x2 y0 y1 y2 H0 H1 H2 H3 HB7 HYY HZZ HXX l0 l1 l2 l3 hal hQ hb7 hb8
  obtain ⟨e0, e1, e2, e3⟩ := cells4 G0.out
  obtain ⟨s0, s1, s2⟩ := cells3 G1.out
  obtain ⟨x0, x1, x2⟩ := cells3 G2.out
  go_wp2_with fail
  refine (T1.out _ HB8.out).mono ?_
  rintro e w8 ⟨rfl, hb8⟩
  have HB9 : Hid (Below w.heap.size w w8) := HB8.out.trans (hb8.mono HB8.out.size)
  have H0 := Lib.hid ((hb8.block _ (heap_lt G0.out)).trans G0.out)
  have H1 := Lib.hid ((hb8.block _ (heap_lt G1.out)).trans G1.out)
  have H2 := Lib.hid ((hb8.block _ (heap_lt G2.out)).trans G2.out)
  have HX1 := Lib.hid (HX.out.below (Nat.le_refl _) hb8)
  clear e0 e1 e2 e3 s0 s1 s2 x0 x1 x2 G0 G1 G2 HB8 HX hb8 T1
  obtain ⟨e0, e1, e2, e3⟩ := cells4 H0.out
  obtain ⟨s0, s1, s2⟩ := cells3 H1.out
  obtain ⟨x0, x1, x2⟩ := cells3 H2.out
  go_wp2_with fail
  refine (T2.out _ ax cx HB9.out HX1.out).mono ?_
  rintro e w9 ⟨rfl, hb8⟩
  have HB8 : Hid (Below w.heap.size w w9) := HB9.out.trans (hb8.mono HB9.out.size)
  have G0 := Lib.hid ((hb8.block _ (heap_lt H0.out)).trans H0.out)
  have G1 := Lib.hid ((hb8.block _ (heap_lt H1.out)).trans H1.out)
  have G2 := Lib.hid ((hb8.block _ (heap_lt H2.out)).trans H2.out)
  have HX := Lib.hid (HX1.out.below (Nat.le_refl _) hb8)
  clear e0 e1 e2 e3 s0 s1 s2 x0 x1 x2 H0 H1 H2 HB9 HX1 hb8 T2
  obtain ⟨e0, e1, e2, e3⟩ := cells4 G0.out
  obtain ⟨s0, s1, s2⟩ := cells3 G1.out
  obtain ⟨x0, x1, x2⟩ := cells3 G2.out
  go_wp2_with fail
  refine (E1.out _ HB8.out).mono ?_
  rintro e w10 ⟨rv, rfl, ⟨a1, c1, rfl, hi1, hf1⟩, hb8⟩
  have HB9 : Hid (Below w.heap.size w w10) := HB8.out.trans (hb8.mono HB8.out.size)
  have H0 := Lib.hid ((hb8.block _ (heap_lt G0.out)).trans G0.out)
  have H1 := Lib.hid ((hb8.block _ (heap_lt G1.out)).trans G1.out)
  have H2 := Lib.hid ((hb8.block _ (heap_lt G2.out)).trans G2.out)
  have HX1 := Lib.hid (HX.out.below (Nat.le_refl _) hb8)
  have HA1 := Lib.hid hi1
  clear e0 e1 e2 e3 s0 s1 s2 x0 x1 x2 G0 G1 G2 HB8 HX hb8 E1 hi1 hf1
  obtain ⟨e0, e1, e2, e3⟩ := cells4 H0.out
  obtain ⟨s0, s1, s2⟩ := cells3 H1.out
  obtain ⟨x0, x1, x2⟩ := cells3 H2.out
  go_wp2_with fail
  refine (E2.out _ ax cx HB9.out HX1.out).mono ?_
  rintro e w11 ⟨rv, rfl, ⟨a2, c2, rfl, hi2, hf2⟩, hb8⟩
  have HB8 : Hid (Below w.heap.size w w11) := HB9.out.trans (hb8.mono HB9.out.size)
  have G1 := Lib.hid ((hb8.block _ (heap_lt H1.out)).trans H1.out)
  have G2 := Lib.hid ((hb8.block _ (heap_lt H2.out)).trans H2.out)
  have HA2 := Lib.hid (HA1.out.below (Nat.le_refl _) hb8)
  have HA3 := Lib.hid hi2
  have l1 := heap_lt G1.out
  have l2 := heap_lt G2.out
  clear e0 e1 e2 e3 s0 s1 s2 x0 x1 x2 H0 H1 H2 HB9 HX1 hb8 E2 hi2 hf2 HA1
  obtain ⟨s0, s1, s2⟩ := cells3 G1.out
  obtain ⟨x0, x1, x2⟩ := cells3 G2.out
  have SS : ∀ x : Aft w11, Calls Try.prog 32 #[.int .i64 i] x.val fun e w' => e = .returned (.int .i64 p) ∧ x.val = w' := fun x => S16.out x.val
  have HSS := Lib.hid SS
  rw [HL1.out, HL2.out]
  obtain ⟨b36, bA, x36, xA, hpb, hTb, hAb, hA0⟩ := HNUM.out
  have hlt : (x.Away < s.Away * p) = False := by simp; omega
  clear SS
  go_wp2_with fail
  refine wp_region_aft (by kernel_rfl) (by kernel_rfl) ?_
  repeat (go_big_quiet_step ((go_at_call 32; rename_i x; exact Calls.aft_same (HSS.out x))))
  refine wpQuiet_nil ?_
  rintro w12 ⟨x5', hx5⟩
  have hb5 : Below w11.heap.size w11 w12 := by rw [hx5]; exact x5'.bel
  clear hx5 x5'
  have HB9 : Hid (Below w.heap.size w w12) := HB8.out.trans (hb5.mono HB8.out.size)
  have HA4 := Lib.hid (HA2.out.below (Nat.le_refl _) hb5)
  have HA5 := Lib.hid (HA3.out.below (Nat.le_refl _) hb5)
  clear s0 s1 s2 x0 x1 x2 l1 l2 hlt hAb hA0 hTb bA xA HA2 HA3 G1 G2 hb5 HB8 HSS
  go_wp2_with fail
  go_loopw [22] (fun iv wr => ∃ j : Nat, j ≤ s.Oil.length ∧ iv = .int .i64 j ∧ Below w12.heap.size w12 wr) (fun iv _ => s.Oil.length - (intOf iv).toNat)
  case atStart => exact ⟨0, Nat.zero_le _, rfl, Below.refl _ _⟩
  case round =>
    obtain ⟨j, hj, rfl, hb⟩ := hrel
    by_cases hlt : j < s.Oil.length
    · obtain ⟨bp, op, rfl, hp1, hp2⟩ := (HA4.out.below (Nat.le_refl _) hb).get (k := j) (by rw [HL1.out]; exact hlt)
      obtain ⟨bq, oq, rfl, hq1, hq2⟩ := (HA5.out.below (Nat.le_refl _) hb).get (k := j) (by rw [HL2.out]; exact hlt)
      obtain ⟨z0, z1, z2, z3⟩ := HLE.out j hlt
      generalize bs.getD j 0 = u at *
      generalize bx.getD j 0 = v at *
      have hlt2 : (v < u * p) = False := by simp; omega
      have hltj : (j : Int) < s.Oil.length := by omega
      have HSS : Hid (∀ x : Aft wr, Calls Try.prog 32 #[.int .i64 i] x.val fun e w' => e = .returned (.int .i64 p) ∧ x.val = w') := fun x => S16.out x.val
      have HBR := Lib.hid hb
      clear hb
      go_wp2_with fail
      refine wp_region_aft (by kernel_rfl) (by kernel_rfl) ?_
      repeat (go_big_quiet_step ((go_at_call 32; rename_i x; exact Calls.aft_same (HSS.out x))))
      refine wpQuiet_nil ?_
      rintro w13 ⟨x5', hx5⟩
      have hb5 : Hid (Below wr.heap.size wr w13) := by rw [hx5]; exact x5'.bel
      clear hx5 x5'
      go_wp2
      go_roundw
      case rel => exact ⟨j + 1, by omega, by go_num, HBR.out.trans (hb5.out.mono HBR.out.size)⟩
      case measure => simp [intOf]; omega
    · obtain rfl : j = s.Oil.length := by omega
      have HBR : Hid (Below w.heap.size w wr) := HB9.out.trans (hb.mono HB9.out.size)
      clear hb
      go_wp2_with fail
      refine (sane.out _ HBR.out).mono ?_
      rintro e w14 ⟨rfl, hb14⟩
      go_wp2
      go_ret
      exact ⟨rfl, hb14⟩
end Go.Proofs.Ytnafllhgjidbkaa
