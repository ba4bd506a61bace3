import Derived.Test.YtnafllhgjidbkaaT22
namespace Go.Proofs.Ytnafllhgjidbkaa
open Go.RowKit Go.Shelf
set_option linter.unusedVariables false
set_option linter.unusedSimpArgs false

/-- What the reference's Beached holds. -/
def BeaW (w : World) (bo : Nat) (bv sv : Array Value) (out : List Int) (wr : World) : Prop :=
  Below w.heap.size w wr ∧ wr.heap[w.heap.size]? = some (.cells bv 25 (0, 0)) ∧ wr.heap[w.heap.size + 1]? = some (.cells sv 28 (0, 0)) ∧ wr.heap[bo]? = some (.cells (out.map (Value.int .i64)).toArray 3 (0, 0))

set_option maxHeartbeats 1000000 in
theorem rBeached_any (v sv : Value) (B : Bay) (s : Slk) (w : World) (hv : BayAt w v B) (hs : SlkAt w sv s) :
    Calls Try.prog 39 #[v, sv] w fun e w' => ∃ rv, e = .returned (.tuple #[rv, .int .i64 (okE B s)]) ∧ IntsNew w.heap.size w' rv (beachL B s) ∧ Below w.heap.size w w' := by
  have hv0 := hv
  have hs0 := hs
  obtain ⟨la, lc, sa, sc, rfl, hl, hsh, hll, hsl⟩ := hv
  obtain ⟨ao, c, rfl, hi, hn⟩ := hs
  have HV := Lib.hid hv0
  have HS := Lib.hid hs0
  have HI := Lib.hid hi
  have HL := Lib.hid hl
  clear hv0 hs0 hl hsh hi
  have HF : Hid (beachL B s = if okE B s = 0 then landsL B s.Oil true else []) := rfl
  generalize beachL B s = F at *
  have hcs := okE_cases B s
  obtain ⟨E, hE⟩ : ∃ E, E = okE B s := ⟨_, rfl⟩
  rw [← hE] at hcs HF ⊢
  have HE := Lib.hid hE
  clear hE
  go_enter Try.func39, Try.ntmps39
  go_wp2_with fail
  refine (rasked_any _ _ B s _ (HV.out.below (Nat.le_refl _) (((Below.refl _ _).alloc (Nat.le_refl _) _).alloc (by simp) _)) (HS.out.below (Nat.le_refl _) (((Below.refl _ _).alloc (Nat.le_refl _) _).alloc (by simp) _))).mono ?_
  rintro e w1 ⟨rfl, hb1⟩
  have HB : Hid (Below w.heap.size w w1) := ((((Below.refl _ _).alloc (Nat.le_refl _) _).alloc (by simp) _)).trans (hb1.mono (by simp <;> omega))
  have hG0 : w1.heap[w.heap.size]? = some (.cells #[.int .i64 B.W, .int .i64 B.H, .slice la B.Land.length lc, .slice sa B.Share.length sc] 25 (0, 0)) :=
    (hb1.block _ (by simp <;> omega)).trans (heap_alloc_old (World.alloc_heap_new _ _) _)
  have hG1 : w1.heap[w.heap.size + 1]? = some (.cells #[.int .i64 s.K, .slice ao s.Oil.length c, .int .i64 s.Away] 28 (0, 0)) := by
    refine (hb1.block _ (by simp <;> omega)).trans ?_
    have := World.alloc_heap_new (w.alloc (.cells #[.int .i64 B.W, .int .i64 B.H, .slice la B.Land.length lc, .slice sa B.Share.length sc] 25)) (.cells #[.int .i64 s.K, .slice ao s.Oil.length c, .int .i64 s.Away] 28)
    rwa [World.size_alloc] at this
  clear hb1
  rw [← HE.out]
  clear HE
  rcases hcs with ⟨rfl, hval, hfit⟩ | rfl | rfl
  · obtain ⟨b1, b2, b3, b4, b5⟩ := fits_bd hval hfit
    have B2 := Lib.hid b2
    have HFF := Lib.hid (show F = landsL B s.Oil true from by have := HF.out; simpa using this)
    have hmk := make26 s.Oil.length (by omega)
    have e0 := cell_of_heap hG1 1
    simp at e0
    have le0 := heap_lt hG1
    clear hval hfit b2 b3
    have HW : Hid (BeaW w w1.heap.size #[.int .i64 B.W, .int .i64 B.H, .slice la B.Land.length lc, .slice sa B.Share.length sc] #[.int .i64 s.K, .slice ao s.Oil.length c, .int .i64 s.Away] (chosenL B s.Oil true s.Oil.length 0) (w1.alloc (.cells (zeros s.Oil.length) 3))) := by
      refine ⟨HB.out.alloc HB.out.size _, heap_alloc_old hG0 _, heap_alloc_old hG1 _, (World.alloc_heap_new _ _).trans ?_⟩
      rw [chosenL_zero]; simp [zeros]
    clear hG0 hG1
    go_wp2
    have hbo := HB.out.size
    clear e0 hmk
    go_loopw [8] (fun i wr => ∃ k : Nat, k ≤ s.Oil.length ∧ i = .int .i64 k ∧ BeaW w w1.heap.size #[.int .i64 B.W, .int .i64 B.H, .slice la B.Land.length lc, .slice sa B.Share.length sc] #[.int .i64 s.K, .slice ao s.Oil.length c, .int .i64 s.Away] (chosenL B s.Oil true s.Oil.length k) wr) (fun i _ => s.Oil.length - (intOf i).toNat)
    case atStart => exact ⟨0, Nat.zero_le _, rfl, HW.out⟩
    case round =>
      obtain ⟨k, hk, rfl, hb, g0, g1, g2⟩ := hrel
      have d2 := cell_of_heap g0 2
      have s1 := cell_of_heap g1 1
      simp at d2 s1
      have l0 := heap_lt g0
      have l1 := heap_lt g1
      have l2 := heap_lt g2
      have HBb := Lib.hid hb
      have G0 := Lib.hid g0
      have G1 := Lib.hid g1
      have G2 := Lib.hid g2
      clear g0 g1 hb
      by_cases hlt : k < s.Oil.length
      · have hlb := B2.out
        obtain ⟨bl, ol, rfl, hbl, hcl⟩ := (HL.out.below (Nat.le_refl _) HBb.out).get (k := k) (by omega)
        obtain ⟨bi, oi, rfl, hbi, hci⟩ := (HI.out.below (Nat.le_refl _) HBb.out).get hlt
        have hkl : (k : Int) < B.Land.length := by omega
        have hg : wr.cell? ⟨w1.heap.size, k, none⟩ = some (.int .i64 0) := by
          rw [cell_of_heap g2 k]; simp [chosenL, hlt]
        have hfz := free_of_heap g2 k
        clear g2 hlb
        have hskip := Lib.hid (fun h => chosenL_skip (B := B) (oil := s.Oil) (land := true) (n := s.Oil.length) (c := k) h)
        have hset := Lib.hid (fun h => chosenL_set (B := B) (oil := s.Oil) (land := true) (n := s.Oil.length) (c := k) h)
        generalize B.Land.getD k false = ld at *
        generalize s.Oil.getD k 0 = x at *
        cases ld
        · have HQ := Lib.hid (hskip.out (by simp))
          clear hskip hset
          go_wp2
          go_roundw
          case rel => exact ⟨k + 1, by omega, by go_num, HBb.out, G0.out, G1.out, by rw [HQ.out]; exact G2.out⟩
          case measure => simp [intOf]; omega
        · have HQ := Lib.hid (hset.out rfl)
          clear hskip hset
          go_wp2
          go_roundw
          case rel =>
            refine ⟨k + 1, by omega, by go_num, HBb.out.setCell (by simp; omega) _, (heap_setCell_other (by simp; omega) _).trans G0.out, (heap_setCell_other (by simp; omega) _).trans G1.out, (heap_setCell_same G2.out _).trans ?_⟩
            rw [← HQ.out]; simp [List.map_set]
          case measure => simp [intOf]; omega
      · obtain rfl : k = s.Oil.length := by omega
        clear g2
        go_wp2
        go_ret2
        exact ⟨_, rfl, ⟨some ⟨w1.heap.size, 0, none⟩, s.Oil.length, by rw [HFF.out, lands_len]; rfl, by rw [HFF.out]; exact ints_of_heap G2.out, fun a ha => by cases ha; exact hbo⟩, HBb.out⟩
  all_goals
    have HFF := Lib.hid (show F = [] from by have := HF.out; simpa using this)
    go_wp2
    go_ret2
    exact ⟨_, rfl, by rw [HFF.out]; exact new_nil _ _, HB.out⟩

theorem Long_any (B : Bay) (w : World) (la sa : Option Addr) (lc sc : Nat) :
    Calls Try.prog 15 #[.agg #[.int .i64 B.W, .int .i64 B.H, .slice la B.Land.length lc, .slice sa B.Share.length sc]] w fun e w' => e = .returned (.bool (decide (100 < B.Land.length ∨ 100 < B.Share.length))) ∧ Below w.heap.size w w' := by
  by_cases h1 : 100 < B.Land.length
  · have hr : decide (100 < B.Land.length ∨ 100 < B.Share.length) = true := by simp [h1]
    have HR := Lib.hid hr
    have h1' : (100 : Int) < B.Land.length := by omega
    clear hr
    go_enter Try.func15, Try.ntmps15
    go_wp2
    go_ret
    exact ⟨ret_bool (by first | exact HR.out.symm | rfl), (Below.refl _ _).alloc (Nat.le_refl _) _⟩
  · by_cases h2 : 100 < B.Share.length
    · have hr : decide (100 < B.Land.length ∨ 100 < B.Share.length) = true := by simp [h2]
      have HR := Lib.hid hr
      have h1' : ¬ (100 : Int) < B.Land.length := by omega
      have h2' : (100 : Int) < B.Share.length := by omega
      clear hr
      go_enter Try.func15, Try.ntmps15
      go_wp2
      go_ret
      exact ⟨ret_bool (by first | exact HR.out.symm | rfl), (Below.refl _ _).alloc (Nat.le_refl _) _⟩
    · have hr : decide (100 < B.Land.length ∨ 100 < B.Share.length) = false := by simp [h2, h1]
      have HR := Lib.hid hr
      have h1' : ¬ (100 : Int) < B.Land.length := by omega
      have h2' : ¬ (100 : Int) < B.Share.length := by omega
      clear hr
      go_enter Try.func15, Try.ntmps15
      go_wp2
      go_ret
      exact ⟨ret_bool (by first | exact HR.out.symm | rfl), (Below.refl _ _).alloc (Nat.le_refl _) _⟩
theorem long_any (s : Slk) (w : World) (ao : Option Addr) (c : Nat) :
    Calls Try.prog 16 #[.agg #[.int .i64 s.K, .slice ao s.Oil.length c, .int .i64 s.Away]] w fun e w' => e = .returned (.bool (decide (100 < s.Oil.length))) ∧ Below w.heap.size w w' := by
  by_cases h1 : 100 < s.Oil.length
  · have HR := Lib.hid (show decide (100 < s.Oil.length) = true by simp [h1])
    have h1' : (100 : Int) < s.Oil.length := by omega
    go_enter Try.func16, Try.ntmps16
    go_wp2
    go_ret
    exact ⟨ret_bool (by first | exact HR.out.symm | rfl), (Below.refl _ _).alloc (Nat.le_refl _) _⟩
  · have HR := Lib.hid (show decide (100 < s.Oil.length) = false by simp [h1])
    have h1' : ¬ (100 : Int) < s.Oil.length := by omega
    go_enter Try.func16, Try.ntmps16
    go_wp2
    go_ret
    exact ⟨ret_bool (by first | exact HR.out.symm | rfl), (Below.refl _ _).alloc (Nat.le_refl _) _⟩

def sameB (a b : List Int) : Bool := decide (a = b)

set_option maxHeartbeats 1000000 in
theorem sameInts_any (ao bo : Option Addr) (ca cb : Nat) (la lb : List Int) (w : World) (ha : IntsAt w ao la) (hb : IntsAt w bo lb) (hla : la.length ≤ 1000000) (hlb : lb.length ≤ 1000000):
    Calls Try.prog 29 #[.slice ao la.length ca, .slice bo lb.length cb] w fun e w' => e = .returned (.bool (sameB la lb)) ∧ Below w.heap.size w w' := by
  by_cases hn : la.length = lb.length
  · have hn0 : (((la.length : Int)) != (lb.length : Int)) = false := by simp [hn]
    have HN := Lib.hid hn
    clear hn
    go_enter Try.func29, Try.ntmps29
    go_wp2
    go_loopw [5] (fun i wr => ∃ k : Nat, k ≤ la.length ∧ i = .int .i64 k ∧ la.take k = lb.take k ∧ Below w.heap.size w wr) (fun i _ => la.length - (intOf i).toNat)
    case atStart => exact ⟨0, Nat.zero_le _, rfl, rfl, Below.refl _ _⟩
    case round =>
      obtain ⟨k, hk, rfl, ht, hbel⟩ := hrel
      have HT := Lib.hid ht
      clear ht
      by_cases hlt : k < la.length
      · have hlt2 : k < lb.length := by have := HN.out; omega
        obtain ⟨b, off, rfl, hb1, hx1⟩ := (ha.below (Nat.le_refl _) hbel).get hlt
        obtain ⟨b', off', rfl, hb2, hx2⟩ := (hb.below (Nat.le_refl _) hbel).get hlt2
        generalize hA : la.getD k 0 = A at *
        generalize hB : lb.getD k 0 = B at *
        have HA := Lib.hid hA
        have HB := Lib.hid hB
        have hlt3 : (k : Int) < lb.length := by omega
        clear hA hB ha hb
        by_cases he : A = B
        · have hq : (A != B) = false := by simp [he]
          have HE := Lib.hid he
          clear he
          go_wp2
          go_quiet (fail)
          go_wp2
          go_roundw
          case rel =>
            refine ⟨k + 1, by omega, by go_num, ?_, hbel.trans ⟨rfl, rfl, rfl, Nat.le_refl _, fun _ _ => rfl⟩⟩
            rw [List.take_succ_eq_append_getElem hlt, List.take_succ_eq_append_getElem hlt2, HT.out]
            have e1 := HA.out
            have e2 := HB.out
            simp only [List.getD_eq_getElem?_getD, List.getElem?_eq_getElem hlt, List.getElem?_eq_getElem hlt2, Option.getD_some] at e1 e2
            rw [e1, e2, HE.out]
          case measure => simp [intOf]; omega
        · have hq : (A != B) = true := by simp [he]
          have HE := Lib.hid he
          clear he
          have HR := Lib.hid (show sameB la lb = false from by
            unfold sameB; refine decide_eq_false (fun h => HE.out ?_); rw [← HA.out, ← HB.out, h])
          go_wp2
          go_quiet (fail)
          go_wp2
          go_ret
          exact ⟨ret_bool HR.out.symm, hbel.trans ⟨rfl, rfl, rfl, Nat.le_refl _, fun _ _ => rfl⟩⟩
      · obtain rfl : k = la.length := by omega
        have HR := Lib.hid (show sameB la lb = true from by
          have h := HT.out
          rw [List.take_of_length_le (Nat.le_refl _), List.take_of_length_le (by rw [HN.out]; exact Nat.le_refl _)] at h
          unfold sameB; exact decide_eq_true h)
        clear ha hb
        go_wp2
        go_ret
        exact ⟨ret_bool HR.out.symm, hbel⟩
  · have hn0 : (((la.length : Int)) != (lb.length : Int)) = true := by simp; omega
    have HR := Lib.hid (show sameB la lb = false from by unfold sameB; exact decide_eq_false (fun h => hn (by rw [h])))
    clear hn ha hb
    go_enter Try.func29, Try.ntmps29
    go_wp2
    go_ret
    exact ⟨ret_bool HR.out.symm, Below.refl _ _⟩
end Go.Proofs.Ytnafllhgjidbkaa
