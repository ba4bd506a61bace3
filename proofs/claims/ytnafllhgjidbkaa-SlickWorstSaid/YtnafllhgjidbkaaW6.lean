/- Texts of the proof, part 6: T42, T52, T53, T54, T55, L13. -/
import Derived.Test.YtnafllhgjidbkaaW5
import Derived.Test.YtnafllhgjidbkaaRows
import Derived.WalkKit
import Derived.WalkSpells
import Derived.WalkLawsBesides
import Derived.Deep.QuietTactic
import Derived.BigQuiet
import Derived.Lib.Hide
import Derived.OwnWalk
import Derived.ProofKit
import Derived.OpenShut
import Derived.Lib.SmallJoins
import Derived.Deep.Slices
import Derived.Below
import Derived.Laws.OwnMore
import Derived.Maps.AppendAt
import Derived.Laws.IdiomCopy
import Derived.Laws.CopyRow
import Derived.IntWalk
import Derived.StillTail
import Derived.Scope
import Derived.KernelRfl
import Derived.RangeFuncNested
import Derived.RangeFuncBound
import Derived.RangeFuncCalls
import Derived.RangeFuncLeaves
import Derived.RangeFuncBox
import Derived.Shelf.Abstract
import Derived.Shelf.RegionOpen
import Derived.OwnWalkIn
import Derived.TacticsInMore
import Derived.LoopNIn
import Derived.LoopIn
import Derived.Sort.QuietIn
import Derived.StillTailTactics
import Derived.OrdersIn
import Derived.Deep.RegionHeld3
import Derived.Deep.Cut
import Derived.Deep.AppendLies
/- The reference's Worst. -/
namespace Go.Proofs.Ytnafllhgjidbkaa
open Go.RowKit Go.Shelf
set_option linter.unusedVariables false
set_option linter.unusedSimpArgs false
theorem bestU_nonneg {l : List Int} {k : Nat} (h : ∀ j, j < k → 0 ≤ l.getD j 0) : 0 ≤ (bestU l k).2 := (bestU_spec l k h).1
theorem bestU_up {l : List Int} {k : Nat} (h : (bestU l k).2 < l.getD k 0) : bestU l (k + 1) = (k, l.getD k 0) := by show (if _ then _ else _) = _; rw [if_pos h]
theorem bestU_same {l : List Int} {k : Nat} (h : ¬ (bestU l k).2 < l.getD k 0) : bestU l (k + 1) = bestU l k := by show (if _ then _ else _) = _; rw [if_neg h]
set_option maxRecDepth 100000 in
set_option maxHeartbeats 8000000 in
theorem rWorst_any (v : Value) (B : Bay) (i n : Int) (w : World) (hv : BayAt w v B) (hii : -9223372036854775808 ≤ i ∧ i ≤ 9223372036854775807) (hnn : -9223372036854775808 ≤ n ∧ n ≤ 9223372036854775807) :
    Calls Try.prog 52 #[v, .int .i64 i, .int .i64 n] w fun e w' => e = .returned (.tuple #[.int .i64 (worstI B i n), .int .i64 (worstE B i n)]) ∧ Below w.heap.size w w' := by
  have HV := Lib.hid (fun W (h : Below w.heap.size w W) => hv.below (Nat.le_refl _) h)
  obtain ⟨la, lc, sa, sc, rfl, hl, hsh, hll, hsl⟩ := hv
  have HLD := Lib.hid (fun W (h : Below w.heap.size w W) => hl.below (Nat.le_refl _) h)
  have F1 := fun W h => moved_any _ B i false n W (HV.out W h) hii hnn
  clear hl hsh
  have FF := Lib.hid (one_new (w := w) #[.int .i64 B.W, .int .i64 B.H, .slice la B.Land.length lc, .slice sa B.Share.length sc] 25)
  rcases placE_cases B i false n with ⟨h0, hval, ⟨hc0, hc1, hc2⟩, hn0, hn5⟩ | h0 | h0
  · obtain ⟨m, rfl⟩ : ∃ m : Nat, i = m := ⟨i.toNat, by omega⟩
    obtain ⟨k, rfl⟩ : ∃ k : Nat, n = k := ⟨n.toNat, by omega⟩
    have hm : m < B.Share.length := by omega
    obtain ⟨p1, p2, p3, p4, p5, p6, p7⟩ := worst_pre (k := k) hval hm (by omega)
    have hE : worstE B m k = gE (bestU (landsL B (mvN B (oneS B m) k).Oil true) B.Share.length).2 := by unfold worstE worstL; rw [if_pos h0]; rfl
    have hI : worstI B m k = (bestU (landsL B (mvN B (oneS B m) k).Oil true) B.Share.length).1 := by unfold worstI worstL; rw [if_pos h0]; rfl
    have hLg : ∀ j, j < B.Share.length → (landsL B (mvN B (oneS B m) k).Oil true).getD j 0 = if B.Land.getD j false = true then (mvN B (oneS B m) k).Oil.getD j 0 else 0 := fun j hj => lands_get B _ true (by omega)
    have hOb : ∀ j, j < B.Share.length → 0 ≤ (mvN B (oneS B m) k).Oil.getD j 0 := fun j hj => (amt_range p3.2.2.1 j (by omega)).1
    have hnn' : ∀ j, j < B.Share.length → 0 ≤ (landsL B (mvN B (oneS B m) k).Oil true).getD j 0 := fun j hj => by
      rw [hLg j hj]; split
      · exact hOb j hj
      · omega
    rw [h0] at F1
    have H1 := Lib.hid F1
    have HVAL := Lib.hid hval
    have P1 := Lib.hid p1
    have P2 := Lib.hid p2
    have P3 := Lib.hid p3
    have P4 := Lib.hid p4
    have P7 := Lib.hid p7
    have HE := Lib.hid hE
    have HI := Lib.hid hI
    have HLG := Lib.hid hLg
    have HOB := Lib.hid hOb
    have HNN := Lib.hid hnn'
    clear F1 hval p1 p2 p3 p4 p7 hE hI hLg hOb hnn'
    clear h0 hc0 hc1 hc2
    generalize hS : mvN B (oneS B m) k = S at *
    have HS := Lib.hid hS
    clear hS
    generalize landsL B S.Oil true = L at *
    go_enter Try.func52, Try.ntmps52
    go_wp2_with fail
    generalize hW : (w.alloc _) = W at *
    clear hW
    obtain ⟨f0, f1, f2⟩ := FF.out
    clear FF
    obtain ⟨x0, hx0⟩ : ∃ x : Aft W, x.val = W := ⟨⟨W, Below.refl _ W⟩, rfl⟩
    have F0 : Hid (Below w.heap.size w W) := f0
    have FZ : Hid (W.heap.size = w.heap.size + 1) := f1
    have FZ0 := Lib.hid (show x0.val.heap.size = w.heap.size + 1 by rw [hx0]; exact f1)
    have G0 : Hid (W.heap[w.heap.size]? = some (.cells #[.int .i64 B.W, .int .i64 B.H, .slice la B.Land.length lc, .slice sa B.Share.length sc] 25 (0, 0))) := f2
    have d0_0 : ∀ x : Aft W, x.val.cell? ⟨w.heap.size, 0, none⟩ = some (.int .i64 B.W) := fun x => cell_of_heap (x.heapH f2) 0
    have d0_1 : ∀ x : Aft W, x.val.cell? ⟨w.heap.size, 1, none⟩ = some (.int .i64 B.H) := fun x => cell_of_heap (x.heapH f2) 1
    have d0_2 : ∀ x : Aft W, x.val.cell? ⟨w.heap.size, 2, none⟩ = some (.slice la B.Land.length lc) := fun x => cell_of_heap (x.heapH f2) 2
    have d0_3 : ∀ x : Aft W, x.val.cell? ⟨w.heap.size, 3, none⟩ = some (.slice sa B.Share.length sc) := fun x => cell_of_heap (x.heapH f2) 3
    have e0_0 : ∀ (x : Aft W) (o : Obj), (x.val.alloc o).cell? ⟨w.heap.size, 0, none⟩ = some (.int .i64 B.W) := fun x o => cell_of_heap (heap_alloc_old (x.heapH f2) o) 0
    have e0_1 : ∀ (x : Aft W) (o : Obj), (x.val.alloc o).cell? ⟨w.heap.size, 1, none⟩ = some (.int .i64 B.H) := fun x o => cell_of_heap (heap_alloc_old (x.heapH f2) o) 1
    have e0_2 : ∀ (x : Aft W) (o : Obj), (x.val.alloc o).cell? ⟨w.heap.size, 2, none⟩ = some (.slice la B.Land.length lc) := fun x o => cell_of_heap (heap_alloc_old (x.heapH f2) o) 2
    have e0_3 : ∀ (x : Aft W) (o : Obj), (x.val.alloc o).cell? ⟨w.heap.size, 3, none⟩ = some (.slice sa B.Share.length sc) := fun x o => cell_of_heap (heap_alloc_old (x.heapH f2) o) 3
    rw [← hx0]
    clear hx0 f0 f1 f2
    refine (H1.out _ (Aft.off F0.out x0)).mono ?_
    rintro e w1 ⟨rfl, hb⟩
    obtain ⟨x1, rfl, lk0'⟩ := x0.step (hb)
    have lk0 := Lib.hid lk0'
    clear hb lk0'
    go_wp2_with fail
    rename_i KK hKK
    have key : Hid (∀ (b9 : Nat) (x : Aft W) (a6 : Option Addr) (c6 : Nat) (u0 u1 u2 u4 u5 u6 u7 u8 u10 u11 u12 u13 u14 u15 u16 u17 u18 u19 u20 u21 u22 u23 u24 u25 u26 u27 u28 u29 u30 u31 u32 u33 u34 u35 u36 u37 u38 u39 u40 u41 u42 u43 u44 u45 u46 u47 u48 u49 u50 u51 u52 u53 u54 u55 : Value), w.heap.size + 1 ≤ b9 → x.val.heap[b9]? = some (.cells #[.int .i64 S.K, .slice a6 S.Oil.length c6, .int .i64 S.Away] 28 (0, 0)) → IntsAt x.val a6 S.Oil → KK { tmps := List.toArray (u0 :: u1 :: u2 :: (.pointer (some ⟨w.heap.size, 0, none⟩)) :: u4 :: u5 :: u6 :: u7 :: u8 :: (.pointer (some ⟨b9, 0, none⟩)) :: u10 :: u11 :: u12 :: u13 :: u14 :: u15 :: u16 :: u17 :: u18 :: u19 :: u20 :: u21 :: u22 :: u23 :: u24 :: u25 :: u26 :: u27 :: u28 :: u29 :: u30 :: u31 :: u32 :: u33 :: u34 :: u35 :: u36 :: u37 :: u38 :: u39 :: u40 :: u41 :: u42 :: u43 :: u44 :: u45 :: u46 :: u47 :: u48 :: u49 :: u50 :: u51 :: u52 :: u53 :: u54 :: u55 :: []), defers := [] } x.val) := by
      intro b9 x a6 c6 u0 u1 u2 u4 u5 u6 u7 u8 u10 u11 u12 u13 u14 u15 u16 u17 u18 u19 u20 u21 u22 u23 u24 u25 u26 u27 u28 u29 u30 u31 u32 u33 u34 u35 u36 u37 u38 u39 u40 u41 u42 u43 u44 u45 u46 u47 u48 u49 u50 u51 u52 u53 u54 u55 hb9 h9 hi6
      apply hKK
      obtain ⟨V, hV⟩ : ∃ V, V = x.val := ⟨_, rfl⟩
      have FV : Hid (Below w.heap.size w V) := by rw [hV]; exact Aft.off F0.out x
      have g0 : V.heap[w.heap.size]? = some (.cells #[.int .i64 B.W, .int .i64 B.H, .slice la B.Land.length lc, .slice sa B.Share.length sc] 25 (0, 0)) := by rw [hV]; exact x.heapH G0.out
      have g9 : V.heap[b9]? = some (.cells #[.int .i64 S.K, .slice a6 S.Oil.length c6, .int .i64 S.Away] 28 (0, 0)) := by rw [hV]; exact h9
      have IS : Hid (∀ x : Aft V, IntsAt x.val a6 S.Oil) := fun y => hi6.below (Nat.le_refl _) (by rw [← hV]; exact y.bel)
      have b2 : ∀ x : Aft V, x.val.cell? ⟨w.heap.size, 2, none⟩ = some (.slice la B.Land.length lc) := fun x => cell_of_heap (x.heapH g0) 2
      have s0 : ∀ x : Aft V, x.val.cell? ⟨b9, 0, none⟩ = some (.int .i64 S.K) := fun x => cell_of_heap (x.heapH g9) 0
      have s1 : ∀ x : Aft V, x.val.cell? ⟨b9, 1, none⟩ = some (.slice a6 S.Oil.length c6) := fun x => cell_of_heap (x.heapH g9) 1
      have s2 : ∀ x : Aft V, x.val.cell? ⟨b9, 2, none⟩ = some (.int .i64 S.Away) := fun x => cell_of_heap (x.heapH g9) 2
      rw [← hV]
      obtain ⟨x0, hx0⟩ : ∃ y : Aft V, y.val = V := ⟨⟨V, Below.refl _ V⟩, rfl⟩
      rw [← hx0]
      clear hV hx0 F0 h9 hi6 g0 g9 hKK d0_0 d0_1 d0_2 d0_3 e0_0 e0_1 e0_2 e0_3 lk0 x1
      have F0 := FV
      clear FV
      go_wp2_with fail
      go_loopw [10, 11, 12] (fun a b i wr => ∃ (k : Nat) (x : Aft V), wr = x.val ∧ k ≤ B.Share.length ∧ i = .int .i64 k ∧ a = .int .i64 (bestU L k).1 ∧ b = .int .i64 (bestU L k).2) (fun _ _ i _ => B.Share.length - (intOf i).toNat)
      case atStart => exact ⟨0, x0, rfl, Nat.zero_le _, rfl, rfl, rfl⟩
      case round =>
        obtain ⟨q, x1, rfl, hq, rfl, rfl, rfl⟩ := hrel
        by_cases hlt : q < B.Share.length
        · have hqS : (q : Int) < S.Oil.length := by have := P4.out; omega
          have hqL : (q : Int) < B.Land.length := by have := P7.out; omega
          obtain ⟨bi, oi, rfl, -, -⟩ := (IS.out x1).get (k := q) (by omega)
          obtain ⟨bl, ol, rfl, -, -⟩ := (HLD.out _ (Aft.off F0.out x1)).get (k := q) (by omega)
          have ci : ∀ x : Aft V, x.val.cell? ⟨bi, oi + q, none⟩ = some (.int .i64 (S.Oil.getD q 0)) := fun x => by
            obtain ⟨b', o', e, _, hc⟩ := (IS.out x).get (k := q) (by omega); cases e; exact hc
          have cl : ∀ x : Aft V, x.val.cell? ⟨bl, ol + q, none⟩ = some (.bool (B.Land.getD q false)) := fun x => by
            obtain ⟨b', o', e, _, hc⟩ := (HLD.out _ (Aft.off F0.out x)).get (k := q) (by omega); cases e; exact hc
          have hg := HLG.out q hlt
          have hob := HOB.out q hlt
          have hmn := bestU_nonneg (l := L) (k := q) (fun j hj => HNN.out j (by omega))
          have hup := bestU_up (l := L) (k := q)
          have hsm := bestU_same (l := L) (k := q)
          have HUP := Lib.hid hup
          have HSM := Lib.hid hsm
          have HG := Lib.hid hg
          clear hup hsm hg
          cases hland : B.Land.getD q false
          · have hsame : Hid (bestU L (q + 1) = bestU L q) := HSM.out (by rw [HG.out, hland]; simp; omega)
            simp only [hland] at cl
            clear hland
            generalize bestU L q = bq at *
            go_wp2_with fail
            go_roundw
            case rel => exact ⟨q + 1, x1, rfl, by omega, by go_num, by rw [hsame.out], by rw [hsame.out]⟩
            case measure => simp [intOf]; omega
          · have hLq : Hid (L.getD q 0 = S.Oil.getD q 0) := by unfold Hid; rw [HG.out, hland]; simp
            simp only [hland] at cl
            clear hland
            by_cases hgt : (bestU L q).2 < S.Oil.getD q 0
            · have hnew : Hid (bestU L (q + 1) = (q, S.Oil.getD q 0)) := by have := HUP.out (by rw [hLq.out]; exact hgt); rw [hLq.out] at this; exact this
              generalize bestU L q = bq at *
              generalize S.Oil.getD q 0 = oq at *
              go_wp2_with fail
              refine wp_region_aftW x1 (by kernel_rfl) (by kernel_rfl) ?_
              repeat (go_big_quiet_step (fail))
              refine wpQuiet_nil ?_
              rintro _ ⟨x2, rfl⟩
              go_wp2_with fail
              go_roundw
              case rel => exact ⟨q + 1, x2, rfl, by omega, by go_num, by rw [hnew.out], by rw [hnew.out]⟩
              case measure => simp [intOf]; omega
            · have hsame : Hid (bestU L (q + 1) = bestU L q) := HSM.out (by rw [hLq.out]; exact hgt)
              generalize bestU L q = bq at *
              generalize S.Oil.getD q 0 = oq at *
              go_wp2_with fail
              go_roundw
              case rel => exact ⟨q + 1, x1, rfl, by omega, by go_num, by rw [hsame.out], by rw [hsame.out]⟩
              case measure => simp [intOf]; omega
        · have hqe : q = B.Share.length := by omega
          have hqS : ¬ ((q : Int) < S.Oil.length) := by have := P4.out; omega
          have HE' := HE.out
          have HI' := HI.out
          rw [← hqe] at HE' HI'
          have HE2 := Lib.hid HE'
          have HI2 := Lib.hid HI'
          clear HE' HI' hqe
          have HZ1 : Hid ((bestU L q).2 = 0 → (bestU L q).1 = 0) := fun h => by
            rcases (bestU_spec L q (fun j hj => HNN.out j (by omega))).2.2 with h' | h'
            · exact h'.2
            · omega
          generalize bestU L q = bq at *
          by_cases hz : bq.2 = 0
          · have hzb : (bq.2 == 0) = true := by simp [hz]
            have HZ2 := Lib.hid hz
            clear hz
            go_wp2
            go_ret2
            exact ⟨ret_ii (by rw [HI2.out, HZ1.out HZ2.out]; rfl) (by rw [HE2.out, HZ2.out]; rfl), Aft.off F0.out x1⟩
          · have hzb : (bq.2 == 0) = false := by simpa using hz
            go_wp2
            go_ret2
            exact ⟨ret_ii (by rw [HI2.out]) (by rw [HE2.out]; exact (if_neg hz).symm), Aft.off F0.out x1⟩
    clear hKK
    have hx1 := Lib.hid x1.bel
    have HN1 := Lib.hid (show w.heap.size ≠ x1.val.heap.size by have := x1.size_le; have := FZ.out; omega)
    go_region_held3 (fun w' => w'.cell? ⟨w.heap.size, 0, none⟩ = some (.int .i64 B.W) ∧ w'.cell? ⟨w.heap.size, 1, none⟩ = some (.int .i64 B.H) ∧ w'.cell? ⟨w.heap.size, 2, none⟩ = some (.slice la B.Land.length lc) ∧ w'.cell? ⟨w.heap.size, 3, none⟩ = some (.slice sa B.Share.length sc)) (first | (with_reducible exact ⟨d0_0 y2, d0_1 y2, d0_2 y2, d0_3 y2⟩) | (with_reducible exact ⟨d0_0 y1, d0_1 y1, d0_2 y1, d0_3 y1⟩) | (with_reducible exact ⟨e0_0 y1 _, e0_1 y1 _, e0_2 y1 _, e0_3 y1 _⟩) | (with_reducible exact ⟨e0_0 y2 _, e0_1 y2 _, e0_2 y2 _, e0_3 y2 _⟩) | (with_reducible exact ⟨(cell3 HN1.out).trans (d0_0 y2), (cell3 HN1.out).trans (d0_1 y2), (cell3 HN1.out).trans (d0_2 y2), (cell3 HN1.out).trans (d0_3 y2)⟩) | (have HN2 : w.heap.size ≠ y1.val.heap.size := (by have := y1.size_le; have := FZ.out; omega); exact ⟨(cell3 HN2).trans (d0_0 y2), (cell3 HN2).trans (d0_1 y2), (cell3 HN2).trans (d0_2 y2), (cell3 HN2).trans (d0_3 y2)⟩) | go_keep) (first | (go_at_call 58; refine (One_any _ B m _ (HV.out _ (by first | exact (Aft.off F0.out x1).drew | exact ((Aft.off F0.out x1).alloc (Aft.off F0.out x1).size _).drew)) HVAL.out (Nat.le_of_lt hm)).mono ?_; rintro e w5 ⟨rv, rfl, ⟨a5, c5, rfl, hi5, hn5', hf5⟩, hb5⟩; have hbW : Below W.heap.size W w5 := (by first | exact hx1.out.drew.trans (hb5.mono hx1.out.size) | exact ((hx1.out.alloc hx1.out.size _).drew).trans (hb5.mono (by have := hx1.out.size; simp; omega))); obtain ⟨y1, rfl⟩ : ∃ y : Aft W, y.val = w5 := ⟨⟨w5, hbW⟩, rfl⟩; have I5 := Lib.hid hi5; have HX2 : Hid (x1.val.heap.size ≤ y1.val.heap.size) := (by have := hb5.size; first | exact this | (simp at this; exact Nat.le_of_succ_le this)); have HF5 : Hid (∀ a, a5 = some a → x1.val.heap.size ≤ a.block ∧ a.block < y1.val.heap.size) := (fun a ha => ⟨by have := hf5 a ha; first | exact this | (simp at this; exact Nat.le_of_succ_le this), by obtain ⟨b', o', e, hl', _⟩ := hi5.get (k := 0) (by rw [oneS_len]; omega); rw [e] at ha; cases ha; exact hl'⟩); clear hbW hi5; first | (have k : y1.val.heap[x1.val.heap.size]? = some (.cells #[.int .i64 0, .slice none 0 0, .int .i64 0] 28 (0, 0)) := (hb5.block x1.val.heap.size (by simp)).trans (World.alloc_heap_new _ _); have KB1 := Lib.hid k; have HX2' : Hid (x1.val.heap.size + 1 ≤ y1.val.heap.size) := heap_lt k; have HF5' : Hid (∀ a, a5 = some a → x1.val.heap.size + 1 ≤ a.block) := (fun a ha => by have := hf5 a ha; simpa using this); clear hb5 k hf5) | clear hb5 hf5) | (go_at_call 63; refine (rafter_own _ B (oneS B m) a5 c5 k _ (HV.out _ (by first | exact (Aft.off F0.out y1) | exact ((Aft.off F0.out y1).alloc (Aft.off F0.out y1).size _))) (by first | exact I5.out | exact I5.out.below (Nat.le_refl _) ((Below.refl _ _).alloc (Nat.le_refl _) _)) hn5' HVAL.out P1.out (by rw [P2.out]; omega)).mono ?_; rintro e w6 ⟨a6, c6, rfl, hi6, hn6, hf6, hb6⟩; rw [HS.out] at hi6; rw [HS.out]; have HF6 : Hid (∀ a, a6 = some a → a5 = some a ∨ y1.val.heap.size ≤ a.block) := (fun a ha => (hf6 a ha).imp id (fun h => by first | exact h | (simp at h; exact Nat.le_of_succ_le h))); have hbW : Below W.heap.size W w6 := (by first | exact y1.bel.trans (hb6.mono y1.bel.size) | exact (y1.bel.alloc y1.bel.size _).trans (hb6.mono (by have := y1.bel.size; simp; omega))); obtain ⟨y2, rfl⟩ : ∃ y : Aft W, y.val = w6 := ⟨⟨w6, hbW⟩, rfl⟩; have I6 := Lib.hid hi6; clear hbW hi6; first | (have k : y2.val.heap[x1.val.heap.size]? = some (.cells #[.int .i64 0, .slice none 0 0, .int .i64 0] 28 (0, 0)) := (hb6.block _ (heap_lt KB1.out)).trans KB1.out; have k0 := cell_of_heap k 0; have k1 := cell_of_heap k 1; have k2 := cell_of_heap k 2; simp at k0 k1 k2; have kf : ∀ o, y2.val.frozen? ⟨x1.val.heap.size, o, none⟩ = false := fun o => free_of_heap k o; have klt := heap_lt k; have KB := Lib.hid k; clear hb6 k hf6) | (have k : y2.val.heap[y1.val.heap.size]? = some (.cells #[.int .i64 0, .slice none 0 0, .int .i64 0] 28 (0, 0)) := (hb6.block y1.val.heap.size (by simp)).trans (World.alloc_heap_new _ _); have k0 := cell_of_heap k 0; have k1 := cell_of_heap k 1; have k2 := cell_of_heap k 2; simp at k0 k1 k2; have kf : ∀ o, y2.val.frozen? ⟨y1.val.heap.size, o, none⟩ = false := fun o => free_of_heap k o; have klt := heap_lt k; have KB := Lib.hid k; have HF7 : Hid (∀ a, a6 = some a → a5 = some a ∨ y1.val.heap.size + 1 ≤ a.block) := (fun a ha => (hf6 a ha).imp id (fun h => by simpa using h)); clear hb6 k hf6) | clear hb6 hf6))
    · obtain ⟨z, hz⟩ : ∃ z : Aft W, z.val = y2.val.alloc (.cells #[.int .i64 S.K, .slice a6 S.Oil.length c6, .int .i64 S.Away] 28) := ⟨⟨_, y2.bel.alloc y2.bel.size _⟩, rfl⟩
      have h9 : z.val.heap[y2.val.heap.size]? = some (.cells #[.int .i64 S.K, .slice a6 S.Oil.length c6, .int .i64 S.Away] 28 (0, 0)) := by rw [hz]; exact World.alloc_heap_new _ _
      have hi : IntsAt z.val a6 S.Oil := by rw [hz]; exact I6.out.below (Nat.le_refl _) ((Below.refl _ _).alloc (Nat.le_refl _) _)
      rw [← hz]
      have hs1 := y2.size_le
      have hs3 := FZ.out
      show KK _ _
      exact key.out _ z a6 c6 _ _ _ _ _ _ _ _ _ _ _ _ _ _ _ _ _ _ _ _ _ _ _ _ _ _ _ _ _ _ _ _ _ _ _ _ _ _ _ _ _ _ _ _ _ _ _ _ _ _ _ _ _ _ (by omega) h9 hi
    · obtain ⟨z, hz⟩ : ∃ z : Aft W, z.val = ((y2.val.setCell ⟨y1.val.heap.size, 0, none⟩ (.int .i64 S.K)).setCell ⟨y1.val.heap.size, 1, none⟩ (.slice a6 S.Oil.length c6)).setCell ⟨y1.val.heap.size, 2, none⟩ (.int .i64 S.Away) :=
        ⟨⟨_, ((y2.bel.setCell (p := ⟨y1.val.heap.size, 0, none⟩) y1.size_le _).setCell (p := ⟨y1.val.heap.size, 1, none⟩) y1.size_le _).setCell (p := ⟨y1.val.heap.size, 2, none⟩) y1.size_le _⟩, rfl⟩
      have h9 : z.val.heap[y1.val.heap.size]? = some (.cells #[.int .i64 S.K, .slice a6 S.Oil.length c6, .int .i64 S.Away] 28 (0, 0)) := by rw [hz]; exact res3 KB.out _ _ _
      have hne : ∀ a, a6 = some a → a.block ≠ y1.val.heap.size := fun a ha => by
        rcases HF7.out a ha with h | h
        · have := HF5.out a h; omega
        · omega
      have hi : IntsAt z.val a6 S.Oil := by rw [hz]; exact IntsAt.setCell (IntsAt.setCell (IntsAt.setCell I6.out hne _) hne _) hne _
      rw [← hz]
      have hs1 := x1.size_le
      have hs2 := y1.size_le
      have hs3 := FZ.out
      show KK _ _
      exact key.out _ z a6 c6 _ _ _ _ _ _ _ _ _ _ _ _ _ _ _ _ _ _ _ _ _ _ _ _ _ _ _ _ _ _ _ _ _ _ _ _ _ _ _ _ _ _ _ _ _ _ _ _ _ _ _ _ _ _ (by omega) h9 hi
    · obtain ⟨z, hz⟩ : ∃ z : Aft W, z.val = ((y2.val.setCell ⟨x1.val.heap.size, 0, none⟩ (.int .i64 S.K)).setCell ⟨x1.val.heap.size, 1, none⟩ (.slice a6 S.Oil.length c6)).setCell ⟨x1.val.heap.size, 2, none⟩ (.int .i64 S.Away) :=
        ⟨⟨_, ((y2.bel.setCell (p := ⟨x1.val.heap.size, 0, none⟩) x1.size_le _).setCell (p := ⟨x1.val.heap.size, 1, none⟩) x1.size_le _).setCell (p := ⟨x1.val.heap.size, 2, none⟩) x1.size_le _⟩, rfl⟩
      have h9 : z.val.heap[x1.val.heap.size]? = some (.cells #[.int .i64 S.K, .slice a6 S.Oil.length c6, .int .i64 S.Away] 28 (0, 0)) := by rw [hz]; exact res3 KB.out _ _ _
      have hne : ∀ a, a6 = some a → a.block ≠ x1.val.heap.size := fun a ha => by
        rcases HF6.out a ha with h | h
        · have := HF5'.out a h; omega
        · have := HX2'.out; omega
      have hi : IntsAt z.val a6 S.Oil := by rw [hz]; exact IntsAt.setCell (IntsAt.setCell (IntsAt.setCell I6.out hne _) hne _) hne _
      rw [← hz]
      have hs1 := x1.size_le
      have hs2 := y1.size_le
      have hs3 := FZ.out
      show KK _ _
      exact key.out _ z a6 c6 _ _ _ _ _ _ _ _ _ _ _ _ _ _ _ _ _ _ _ _ _ _ _ _ _ _ _ _ _ _ _ _ _ _ _ _ _ _ _ _ _ _ _ _ _ _ _ _ _ _ _ _ _ _ (by omega) h9 hi
  all_goals
    have hE : worstE B i n = placE B i false n := by unfold worstE; rw [if_neg (by rw [h0]; decide)]
    have hI : worstI B i n = 0 := by unfold worstI; rw [if_neg (by rw [h0]; decide)]
    rw [h0] at F1 hE
    have H1 := Lib.hid F1
    have HE := Lib.hid hE
    have HI := Lib.hid hI
    clear F1 hE hI
    clear h0
    go_enter Try.func52, Try.ntmps52
    go_wp2_with fail
    generalize hW : (w.alloc _) = W at *
    clear hW
    obtain ⟨f0, f1, f2⟩ := FF.out
    clear FF
    obtain ⟨x0, hx0⟩ : ∃ x : Aft W, x.val = W := ⟨⟨W, Below.refl _ W⟩, rfl⟩
    have F0 : Hid (Below w.heap.size w W) := f0
    have FZ : Hid (W.heap.size = w.heap.size + 1) := f1
    have FZ0 := Lib.hid (show x0.val.heap.size = w.heap.size + 1 by rw [hx0]; exact f1)
    have G0 : Hid (W.heap[w.heap.size]? = some (.cells #[.int .i64 B.W, .int .i64 B.H, .slice la B.Land.length lc, .slice sa B.Share.length sc] 25 (0, 0))) := f2
    have d0_0 : ∀ x : Aft W, x.val.cell? ⟨w.heap.size, 0, none⟩ = some (.int .i64 B.W) := fun x => cell_of_heap (x.heapH f2) 0
    have d0_1 : ∀ x : Aft W, x.val.cell? ⟨w.heap.size, 1, none⟩ = some (.int .i64 B.H) := fun x => cell_of_heap (x.heapH f2) 1
    have d0_2 : ∀ x : Aft W, x.val.cell? ⟨w.heap.size, 2, none⟩ = some (.slice la B.Land.length lc) := fun x => cell_of_heap (x.heapH f2) 2
    have d0_3 : ∀ x : Aft W, x.val.cell? ⟨w.heap.size, 3, none⟩ = some (.slice sa B.Share.length sc) := fun x => cell_of_heap (x.heapH f2) 3
    rw [← hx0]
    clear hx0 f0 f1 f2
    refine (H1.out _ (Aft.off F0.out x0)).mono ?_
    rintro e w1 ⟨rfl, hb⟩
    obtain ⟨x1, rfl, lk0'⟩ := x0.step (hb)
    have lk0 := Lib.hid lk0'
    clear hb lk0'
    go_wp2
    go_ret2
    exact ⟨ret_ii (by rw [HI.out]; rfl) HE.out.symm, Aft.off F0.out x1⟩
end Go.Proofs.Ytnafllhgjidbkaa

/- Where most of a cell's oil comes from: Source and the reference's. -/
namespace Go.Proofs.Ytnafllhgjidbkaa
open Go.RowKit
set_option linter.unusedVariables false
set_option linter.unusedSimpArgs false
theorem srcE_no {B : Bay} {i n : Int} (h : ¬ placE B i true n = 0) : srcE B i n = placE B i true n := by unfold srcE; rw [if_neg h]
theorem srcI_no {B : Bay} {i n : Int} (h : ¬ placE B i true n = 0) : srcI B i n = 0 := by unfold srcI; rw [if_neg h]
theorem src_yes {B : Bay} {i n : Nat} (h : placE B i true n = 0) : srcE B i n = gE (bestU (fromL B i n) B.Share.length).2 ∧ srcI B i n = (bestU (fromL B i n) B.Share.length).1 := by
  unfold srcE srcI; rw [if_pos h, if_pos h]; exact ⟨rfl, rfl⟩
theorem place_ok {B : Bay} {i n : Int} {ld : Bool} (h : placE B i ld n = 0) : validP B ∧ ∃ k m : Nat, i = k ∧ n = m ∧ k < B.Share.length ∧ m ≤ 5 ∧ B.Land.getD k false = ld := by
  rcases placE_cases B i ld n with ⟨_, hval, hc, h1, h2⟩ | h1 | h1
  · exact ⟨hval, i.toNat, n.toNat, by have := hc.1; omega, by omega, by have := hc.1; have := hc.2.1; omega, by omega, hc.2.2⟩
  · rw [h1] at h; cases h
  · rw [h1] at h; cases h
set_option maxRecDepth 100000 in
theorem source_spec (B : Bay) (i n : Int) (hll : B.Land.length ≤ 100) (hsl : B.Share.length ≤ 100) (hii : -9223372036854775808 ≤ i ∧ i ≤ 9223372036854775807) (hnn : -9223372036854775808 ≤ n ∧ n ≤ 9223372036854775807) :
    Spec Try.prog 53 [V.agg [C.i B.W, C.i B.H, C.sl 0 B.Land.length, C.sl 1 B.Share.length], V.i i, V.i n] [⟨0, .ro 0, B.Land.map C.bool⟩, ⟨1, .ro 0, shareC B.Share⟩] 2
      (Is (V.tup [A.c (C.i (srcI B i n)), A.c (C.i (srcE B i n))])) := by
  by_cases h0 : placE B i true n = 0
  case neg =>
    rw [srcE_no h0, srcI_no h0]
    refine Spec.of tok Try.func53 rfl rfl rfl fun n0 => vc_ok tok ?_
    repeat ((conv => whnf); first
        | (refine And.intro (by first | omega | exact Nat.le_of_ble_eq_true rfl | (dsimp only [inK]; omega) | (simp only [mulS_eq]; omega) | (simp only [mulS_eq, setL_length]; omega) | (simp only [setL_length, List.length_map]; omega) | exact ⟨by omega, by omega, by first | exact Nat.le_of_ble_eq_true rfl | (dsimp only; omega) | (simp only [setL_length]; omega) | (simp only [setL_length, List.length_map]; omega)⟩ | exact ⟨by omega, by first | rfl | omega, by omega, Nat.le_of_ble_eq_true rfl, Nat.le_of_ble_eq_true rfl⟩ | exact ⟨rfl, rfl, rfl, Nat.le_of_ble_eq_true rfl, by first | rfl | omega | exact Nat.le_of_ble_eq_true rfl | (simp; done) | (simp; omega), by first | rfl | omega | exact Nat.le_of_ble_eq_true rfl | (simp; done) | (simp; omega), by omega, Nat.le_of_ble_eq_true rfl⟩ | exact Eq.refl true) ?_)
        | (refine Exists.intro _ (And.intro rfl ?_))
        | (refine br_t (by omega) ?_)
        | (refine br_f (by omega) ?_)
        | (refine bs_t (by omega) ?_)
        | (refine bs_f (by omega) ?_)
        | (refine fun (K' : K3) hK' => ?_)
        | (refine hK' _ _ _ ?_; clear hK' K')
        | (refine draw_auto tok mixed (by kernel_rfl) ?_)
        | (refine placed_kt hll hsl hii hnn rfl rfl ?_)
        | (refine And.intro (And.intro rfl rfl) ?_))
    intro ρ; rfl
  obtain ⟨hval, k, m, rfl, rfl, hk, hm, hld⟩ := place_ok h0
  obtain ⟨hE, hI⟩ := src_yes h0
  rw [hE, hI]
  have hN : B.Land.length = B.Share.length := by have := hval.2.2.1; have := hval.2.2.2.1; omega
  have hbl : (bN B (unitP B k) m).length = B.Share.length + 1 := by rw [bN_len, unitP_len]
  have htl : ((bN B (unitP B k) m).take B.Share.length).length = B.Share.length := by rw [List.length_take, hbl]; omega
  have hone : (oneS B k).Oil.length = B.Share.length := oneS_len B k
  have hfl := fromL_len B k m
  have hfn := fromL_nonneg (B := B) (i := k) (n := m) hval hm
  have hlands := fromL_lands (n := m) hval hk
  refine Spec.of tok Try.func53 rfl rfl rfl fun n0 => vc_ok tok ?_
  repeat ((conv => whnf); first
      | (refine And.intro (by first | omega | exact Nat.le_of_ble_eq_true rfl | (dsimp only [inK]; omega) | (simp only [mulS_eq]; omega) | (simp only [mulS_eq, setL_length]; omega) | (simp only [setL_length, List.length_map]; omega) | exact ⟨by omega, by omega, by first | exact Nat.le_of_ble_eq_true rfl | (dsimp only; omega) | (simp only [setL_length]; omega) | (simp only [setL_length, List.length_map]; omega)⟩ | exact ⟨by omega, by first | rfl | omega, by omega, Nat.le_of_ble_eq_true rfl, Nat.le_of_ble_eq_true rfl⟩ | exact ⟨rfl, rfl, rfl, Nat.le_of_ble_eq_true rfl, by first | rfl | omega | exact Nat.le_of_ble_eq_true rfl | (simp; done) | (simp; omega), by first | rfl | omega | exact Nat.le_of_ble_eq_true rfl | (simp; done) | (simp; omega), by omega, Nat.le_of_ble_eq_true rfl⟩ | exact Eq.refl true) ?_)
      | (refine Exists.intro _ (And.intro rfl ?_))
      | (refine br_t (by omega) ?_)
      | (refine br_f (by omega) ?_)
      | (refine bs_t (by omega) ?_)
      | (refine bs_f (by omega) ?_)
      | (refine fun (K' : K3) hK' => ?_)
      | (refine hK' _ _ _ ?_; clear hK' K')
      | (refine draw_auto tok mixed (by kernel_rfl) ?_)
      | (refine placed_kt hll hsl hii hnn rfl rfl ?_)
      | (refine one_k hval hll hsl hk rfl rfl ?_)
      | (refine before_k (l := unitP B k) hval hll hsl (by omega) (unitP_len B k) hm (unitP_bd hk) rfl rfl (find_app (s := (oneS B k).Oil) (x := 0) rfl) ?_)
      | (refine And.intro ⟨rfl, by decide, by omega, by simp only [List.length_map]; omega⟩ ?_)
      | (refine HD_mk (fun _ h => chosen_kf (l := bN B (unitP B k) m) hlands (by omega) (by omega) hll hsl rfl rfl rfl h) ?_)
      | (refine HD_mk (fun _ h => greatest_k (l := fromL B k m) rfl (by omega) (by omega) (fun j hj => (hfn j (by omega)).1) rfl h) ?_)
      | (refine And.intro (And.intro rfl rfl) ?_))
  intro ρ
  rw [hfl]
  rfl
set_option maxRecDepth 100000 in
theorem rsource_spec (B : Bay) (i n : Int) (hll : B.Land.length ≤ 100) (hsl : B.Share.length ≤ 100) (hii : -9223372036854775808 ≤ i ∧ i ≤ 9223372036854775807) (hnn : -9223372036854775808 ≤ n ∧ n ≤ 9223372036854775807) :
    Spec Try.prog 54 [V.agg [C.i B.W, C.i B.H, C.sl 0 B.Land.length, C.sl 1 B.Share.length], V.i i, V.i n] [⟨0, .ro 0, B.Land.map C.bool⟩, ⟨1, .ro 0, shareC B.Share⟩] 2
      (Is (V.tup [A.c (C.i (srcI B i n)), A.c (C.i (srcE B i n))])) := by
  by_cases h0 : placE B i true n = 0
  case neg =>
    rw [srcE_no h0, srcI_no h0]
    refine Spec.of tok Try.func54 rfl rfl rfl fun n0 => vc_ok tok ?_
    repeat ((conv => whnf); first
        | (refine And.intro (by first | omega | exact Nat.le_of_ble_eq_true rfl | (dsimp only [inK]; omega) | (simp only [mulS_eq]; omega) | (simp only [mulS_eq, setL_length]; omega) | (simp only [setL_length, List.length_map]; omega) | exact ⟨by omega, by omega, by first | exact Nat.le_of_ble_eq_true rfl | (dsimp only; omega) | (simp only [setL_length]; omega) | (simp only [setL_length, List.length_map]; omega)⟩ | exact ⟨by omega, by first | rfl | omega, by omega, Nat.le_of_ble_eq_true rfl, Nat.le_of_ble_eq_true rfl⟩ | exact ⟨rfl, rfl, rfl, Nat.le_of_ble_eq_true rfl, by first | rfl | omega | exact Nat.le_of_ble_eq_true rfl | (simp; done) | (simp; omega), by first | rfl | omega | exact Nat.le_of_ble_eq_true rfl | (simp; done) | (simp; omega), by omega, Nat.le_of_ble_eq_true rfl⟩ | exact Eq.refl true) ?_)
        | (refine Exists.intro _ (And.intro rfl ?_))
        | (refine br_t (by omega) ?_)
        | (refine br_f (by omega) ?_)
        | (refine bs_t (by omega) ?_)
        | (refine bs_f (by omega) ?_)
        | (refine fun (K' : K3) hK' => ?_)
        | (refine hK' _ _ _ ?_; clear hK' K')
        | (refine draw_auto tok mixed (by kernel_rfl) ?_)
        | (refine moved_kt hll hsl hii hnn rfl rfl ?_)
        | (refine And.intro (And.intro rfl rfl) ?_))
    intro ρ; rfl
  obtain ⟨hval, i, n, rfl, rfl, hi, hn, hld⟩ := place_ok h0
  obtain ⟨hE, hI⟩ := src_yes h0
  rw [hE, hI]
  have hN : B.Land.length = B.Share.length := by have := hval.2.2.1; have := hval.2.2.2.1; omega
  have hN36 := mul36 hval.1.1 hval.1.2 hval.2.1.1 hval.2.1.2
  have hfl := fromL_len B i n
  have hfn := fromL_nonneg (B := B) (i := i) (n := n) hval hn
  have hbu : ∀ k, k ≤ B.Share.length → 0 ≤ (bestU (fromL B i n) k).2 := fun k hk => bestU_nonneg (fun j hj => (hfn j (by omega)).1)
  refine Spec.of tok Try.func54 rfl rfl rfl fun n0 => vc_ok tok ?_
  repeat ((conv => whnf); first
      | (refine And.intro (by first | omega | exact Nat.le_of_ble_eq_true rfl | (dsimp only [inK]; omega) | (simp only [mulS_eq]; omega) | (simp only [mulS_eq, setL_length]; omega) | (simp only [setL_length, List.length_map]; omega) | exact ⟨by omega, by omega, by first | exact Nat.le_of_ble_eq_true rfl | (dsimp only; omega) | (simp only [setL_length]; omega) | (simp only [setL_length, List.length_map]; omega)⟩ | exact ⟨by omega, by first | rfl | omega, by omega, Nat.le_of_ble_eq_true rfl, Nat.le_of_ble_eq_true rfl⟩ | exact ⟨rfl, rfl, rfl, Nat.le_of_ble_eq_true rfl, by first | rfl | omega | exact Nat.le_of_ble_eq_true rfl | (simp; done) | (simp; omega), by first | rfl | omega | exact Nat.le_of_ble_eq_true rfl | (simp; done) | (simp; omega), by omega, Nat.le_of_ble_eq_true rfl⟩ | exact Eq.refl true) ?_)
      | (refine Exists.intro _ (And.intro rfl ?_))
      | (refine br_t (by omega) ?_)
      | (refine br_f (by omega) ?_)
      | (refine bs_t (by omega) ?_)
      | (refine bs_f (by omega) ?_)
      | (refine fun (K' : K3) hK' => ?_)
      | (refine hK' _ _ _ ?_; clear hK' K')
      | (refine draw_auto tok mixed (by kernel_rfl) ?_)
      | (refine moved_kt hll hsl hii hnn rfl rfl ?_)
      | (refine And.intro (And.intro rfl rfl) ?_))
  refine Tri.loop (γ := Nat) (fun k => k ≤ B.Share.length)
    (fun k => [(1, V.i (i : Int)), (2, V.i (n : Int)), (3, V.c (.ptr 2 0)), (9, V.i ((bestU (fromL B i n) k).1 : Int)), (10, V.i (bestU (fromL B i n) k).2), (11, V.i (k : Int))])
    (fun k => [⟨0, .ro 0, B.Land.map C.bool⟩, ⟨1, .ro 0, shareC B.Share⟩, ⟨2, .own 25, [C.i B.W, C.i B.H, C.sl 0 B.Land.length, C.sl 1 B.Share.length]⟩]) 3 (fun k => B.Share.length - k) 0 (R0 := []) ?_ ?_ ?_
  · exact Nat.zero_le _
  · skip
    refine ⟨?_, ?_, rfl, rfl, Nat.le_of_ble_eq_true rfl⟩
    · repeat (first | exact trivial | refine And.intro (covS_syn (by first | rfl) rfl (by first | exact trivial | exact Nat.le_of_ble_eq_true rfl)) ?_ | refine And.intro (covS_bool rfl rfl (by first | rfl)) ?_)
    · repeat (first | exact trivial | refine And.intro (covE_id (Nat.le_of_ble_eq_true rfl) (by first | exact wf_ints _ _ | exact wf_bools _ _ | exact wf_shares _ _ | simp [C.wf]) rfl (by first | rfl | (fail))) ?_)
  · rintro k hk
    refine vc_ok tok ?_
    by_cases hlt : k < B.Share.length
    · have hlt' : (k : Int) < B.Land.length := by omega
      have h1 := hbu k hk
      cases hland : B.Land.getD k false
      · have hget : (fromL B i n).getD k 0 = (mvN B (oneS B k) n).Oil.getD i 0 := by rw [fromL_get hlt, if_neg (by rw [hland]; simp)]
        have hbd := one_nonneg (B := B) (j := k) (k := n) (i := i) hval hlt hn
        obtain ⟨hf, hK0⟩ := one_mv (B := B) (j := k) (k := 0) hval hlt (by omega)
        have hml : i < (mvN B (oneS B k) n).Oil.length := by rw [mvN_len, oneS_len]; exact hi
        have hol : (oneS B k).Oil.length = B.Share.length := oneS_len B k
        by_cases hgt : (bestU (fromL B i n) k).2 < (mvN B (oneS B k) n).Oil.getD i 0
        · have hb : bestU (fromL B i n) (k + 1) = (k, (mvN B (oneS B k) n).Oil.getD i 0) := by rw [← hget]; exact bestU_up (by rw [hget]; exact hgt)
          repeat ((conv => whnf); first
              | (refine And.intro (by first | omega | exact Nat.le_of_ble_eq_true rfl | (dsimp only [inK]; omega) | (simp only [mulS_eq]; omega) | (simp only [mulS_eq, setL_length]; omega) | (simp only [setL_length, List.length_map]; omega) | exact ⟨by omega, by omega, by first | exact Nat.le_of_ble_eq_true rfl | (dsimp only; omega) | (simp only [setL_length]; omega) | (simp only [setL_length, List.length_map]; omega)⟩ | exact ⟨by omega, by first | rfl | omega, by omega, Nat.le_of_ble_eq_true rfl, Nat.le_of_ble_eq_true rfl⟩ | exact ⟨rfl, rfl, rfl, Nat.le_of_ble_eq_true rfl, by first | rfl | omega | exact Nat.le_of_ble_eq_true rfl | (simp; done) | (simp; omega), by first | rfl | omega | exact Nat.le_of_ble_eq_true rfl | (simp; done) | (simp; omega), by omega, Nat.le_of_ble_eq_true rfl⟩ | exact Eq.refl true) ?_)
              | (with_reducible refine ld (boolL (by omega)) ?_)
              | (with_reducible refine ld (intL hml) ?_)
              | (refine Exists.intro _ (And.intro rfl ?_))
              | (refine br_t (by omega) ?_)
              | (refine br_f (by omega) ?_)
              | (refine bs_t (by omega) ?_)
              | (refine bs_f (by omega) ?_)
              | (refine fun (K' : K3) hK' => ?_)
              | (refine hK' _ _ _ ?_; clear hK' K')
              | (refine draw_auto tok mixed (by kernel_rfl) ?_)
              | (refine br_bf hland ?_)
              | (refine HD_mk (fun _ h => One_k hval hll hsl (by omega) rfl rfl h) ?_)
              | (refine And.intro (And.intro rfl (chk_row _ _ _ _)) ?_)
              | (refine HD_mk (fun _ h => rafter_k (s := oneS B k) hval hll hsl hf (by rw [hK0]; omega) (by omega) rfl rfl rfl h) ?_)
              | (refine And.intro (And.intro rfl rfl) ?_))
          refine ⟨k + 1, [], by omega, by omega, ?_⟩
          refine ⟨?_, ?_, rfl, rfl, Nat.le_of_ble_eq_true rfl⟩
          · repeat (first | exact trivial | refine And.intro (covS_syn (by first | rfl | (refine congrArg some (congrArg V.i ?_); rw [hb])) rfl (by first | exact trivial | exact Nat.le_of_ble_eq_true rfl)) ?_ | refine And.intro (covS_bool rfl rfl (by first | rfl)) ?_)
          · repeat (first | exact trivial | refine And.intro (covE_id (Nat.le_of_ble_eq_true rfl) (by first | exact wf_ints _ _ | exact wf_bools _ _ | exact wf_shares _ _ | simp [C.wf]) rfl (by first | rfl | (fail))) ?_)
        · have hb : bestU (fromL B i n) (k + 1) = bestU (fromL B i n) k := bestU_same (by rw [hget]; exact hgt)
          repeat ((conv => whnf); first
              | (refine And.intro (by first | omega | exact Nat.le_of_ble_eq_true rfl | (dsimp only [inK]; omega) | (simp only [mulS_eq]; omega) | (simp only [mulS_eq, setL_length]; omega) | (simp only [setL_length, List.length_map]; omega) | exact ⟨by omega, by omega, by first | exact Nat.le_of_ble_eq_true rfl | (dsimp only; omega) | (simp only [setL_length]; omega) | (simp only [setL_length, List.length_map]; omega)⟩ | exact ⟨by omega, by first | rfl | omega, by omega, Nat.le_of_ble_eq_true rfl, Nat.le_of_ble_eq_true rfl⟩ | exact ⟨rfl, rfl, rfl, Nat.le_of_ble_eq_true rfl, by first | rfl | omega | exact Nat.le_of_ble_eq_true rfl | (simp; done) | (simp; omega), by first | rfl | omega | exact Nat.le_of_ble_eq_true rfl | (simp; done) | (simp; omega), by omega, Nat.le_of_ble_eq_true rfl⟩ | exact Eq.refl true) ?_)
              | (with_reducible refine ld (boolL (by omega)) ?_)
              | (with_reducible refine ld (intL hml) ?_)
              | (refine Exists.intro _ (And.intro rfl ?_))
              | (refine br_t (by omega) ?_)
              | (refine br_f (by omega) ?_)
              | (refine bs_t (by omega) ?_)
              | (refine bs_f (by omega) ?_)
              | (refine fun (K' : K3) hK' => ?_)
              | (refine hK' _ _ _ ?_; clear hK' K')
              | (refine draw_auto tok mixed (by kernel_rfl) ?_)
              | (refine br_bf hland ?_)
              | (refine HD_mk (fun _ h => One_k hval hll hsl (by omega) rfl rfl h) ?_)
              | (refine And.intro (And.intro rfl (chk_row _ _ _ _)) ?_)
              | (refine HD_mk (fun _ h => rafter_k (s := oneS B k) hval hll hsl hf (by rw [hK0]; omega) (by omega) rfl rfl rfl h) ?_)
              | (refine And.intro (And.intro rfl rfl) ?_))
          refine ⟨k + 1, [], by omega, by omega, ?_⟩
          refine ⟨?_, ?_, rfl, rfl, Nat.le_of_ble_eq_true rfl⟩
          · repeat (first | exact trivial | refine And.intro (covS_syn (by first | rfl | (refine congrArg some (congrArg V.i ?_); rw [hb])) rfl (by first | exact trivial | exact Nat.le_of_ble_eq_true rfl)) ?_ | refine And.intro (covS_bool rfl rfl (by first | rfl)) ?_)
          · repeat (first | exact trivial | refine And.intro (covE_id (Nat.le_of_ble_eq_true rfl) (by first | exact wf_ints _ _ | exact wf_bools _ _ | exact wf_shares _ _ | simp [C.wf]) rfl (by first | rfl | (fail))) ?_)
      · have hget : (fromL B i n).getD k 0 = 0 := by rw [fromL_get hlt, if_pos hland]
        have hb : bestU (fromL B i n) (k + 1) = bestU (fromL B i n) k := bestU_same (by rw [hget]; omega)
        repeat ((conv => whnf); first
            | (refine And.intro (by first | omega | exact Nat.le_of_ble_eq_true rfl | (dsimp only [inK]; omega) | (simp only [mulS_eq]; omega) | (simp only [mulS_eq, setL_length]; omega) | (simp only [setL_length, List.length_map]; omega) | exact ⟨by omega, by omega, by first | exact Nat.le_of_ble_eq_true rfl | (dsimp only; omega) | (simp only [setL_length]; omega) | (simp only [setL_length, List.length_map]; omega)⟩ | exact ⟨by omega, by first | rfl | omega, by omega, Nat.le_of_ble_eq_true rfl, Nat.le_of_ble_eq_true rfl⟩ | exact ⟨rfl, rfl, rfl, Nat.le_of_ble_eq_true rfl, by first | rfl | omega | exact Nat.le_of_ble_eq_true rfl | (simp; done) | (simp; omega), by first | rfl | omega | exact Nat.le_of_ble_eq_true rfl | (simp; done) | (simp; omega), by omega, Nat.le_of_ble_eq_true rfl⟩ | exact Eq.refl true) ?_)
            | (with_reducible refine ld (boolL (by omega)) ?_)
            | (refine Exists.intro _ (And.intro rfl ?_))
            | (refine br_t (by omega) ?_)
            | (refine br_f (by omega) ?_)
            | (refine bs_t (by omega) ?_)
            | (refine bs_f (by omega) ?_)
            | (refine fun (K' : K3) hK' => ?_)
            | (refine hK' _ _ _ ?_; clear hK' K')
            | (refine draw_auto tok mixed (by kernel_rfl) ?_)
            | (refine br_bt hland ?_)
            | (refine And.intro (And.intro rfl rfl) ?_))
        refine ⟨k + 1, [], by omega, by omega, ?_⟩
        refine ⟨?_, ?_, rfl, rfl, Nat.le_of_ble_eq_true rfl⟩
        · repeat (first | exact trivial | refine And.intro (covS_syn (by first | rfl | (refine congrArg some (congrArg V.i ?_); rw [hb])) rfl (by first | exact trivial | exact Nat.le_of_ble_eq_true rfl)) ?_ | refine And.intro (covS_bool rfl rfl (by first | rfl)) ?_)
        · repeat (first | exact trivial | refine And.intro (covE_id (Nat.le_of_ble_eq_true rfl) (by first | exact wf_ints _ _ | exact wf_bools _ _ | exact wf_shares _ _ | simp [C.wf]) rfl (by first | rfl | (fail))) ?_)
    · obtain rfl : k = B.Share.length := by omega
      have hlt' : ¬ ((B.Share.length : Int) < (B.Land.length : Int)) := by omega
      have hsp := bestU_spec (fromL B i n) B.Share.length (fun j hj => (hfn j hj).1)
      by_cases hz : (bestU (fromL B i n) B.Share.length).2 = 0
      · have hg : gE (bestU (fromL B i n) B.Share.length).2 = 5 := by unfold gE; rw [if_pos hz]
        have hi0 : (bestU (fromL B i n) B.Share.length).1 = 0 := by
          rcases hsp.2.2 with h | h
          · exact h.2
          · omega
        repeat ((conv => whnf); first
            | (refine And.intro (by first | omega | exact Nat.le_of_ble_eq_true rfl | (dsimp only [inK]; omega) | (simp only [mulS_eq]; omega) | (simp only [mulS_eq, setL_length]; omega) | (simp only [setL_length, List.length_map]; omega) | exact ⟨by omega, by omega, by first | exact Nat.le_of_ble_eq_true rfl | (dsimp only; omega) | (simp only [setL_length]; omega) | (simp only [setL_length, List.length_map]; omega)⟩ | exact ⟨by omega, by first | rfl | omega, by omega, Nat.le_of_ble_eq_true rfl, Nat.le_of_ble_eq_true rfl⟩ | exact ⟨rfl, rfl, rfl, Nat.le_of_ble_eq_true rfl, by first | rfl | omega | exact Nat.le_of_ble_eq_true rfl | (simp; done) | (simp; omega), by first | rfl | omega | exact Nat.le_of_ble_eq_true rfl | (simp; done) | (simp; omega), by omega, Nat.le_of_ble_eq_true rfl⟩ | exact Eq.refl true) ?_)
            | (refine Exists.intro _ (And.intro rfl ?_))
            | (refine br_t (by omega) ?_)
            | (refine br_f (by omega) ?_)
            | (refine bs_t (by omega) ?_)
            | (refine bs_f (by omega) ?_)
            | (refine fun (K' : K3) hK' => ?_)
            | (refine hK' _ _ _ ?_; clear hK' K')
            | (refine draw_auto tok mixed (by kernel_rfl) ?_)
            | (refine And.intro (And.intro rfl rfl) ?_))
        intro ρ; rw [hg, hi0]; rfl
      · have hg : gE (bestU (fromL B i n) B.Share.length).2 = 0 := by unfold gE; rw [if_neg hz]
        repeat ((conv => whnf); first
            | (refine And.intro (by first | omega | exact Nat.le_of_ble_eq_true rfl | (dsimp only [inK]; omega) | (simp only [mulS_eq]; omega) | (simp only [mulS_eq, setL_length]; omega) | (simp only [setL_length, List.length_map]; omega) | exact ⟨by omega, by omega, by first | exact Nat.le_of_ble_eq_true rfl | (dsimp only; omega) | (simp only [setL_length]; omega) | (simp only [setL_length, List.length_map]; omega)⟩ | exact ⟨by omega, by first | rfl | omega, by omega, Nat.le_of_ble_eq_true rfl, Nat.le_of_ble_eq_true rfl⟩ | exact ⟨rfl, rfl, rfl, Nat.le_of_ble_eq_true rfl, by first | rfl | omega | exact Nat.le_of_ble_eq_true rfl | (simp; done) | (simp; omega), by first | rfl | omega | exact Nat.le_of_ble_eq_true rfl | (simp; done) | (simp; omega), by omega, Nat.le_of_ble_eq_true rfl⟩ | exact Eq.refl true) ?_)
            | (refine Exists.intro _ (And.intro rfl ?_))
            | (refine br_t (by omega) ?_)
            | (refine br_f (by omega) ?_)
            | (refine bs_t (by omega) ?_)
            | (refine bs_f (by omega) ?_)
            | (refine fun (K' : K3) hK' => ?_)
            | (refine hK' _ _ _ ?_; clear hK' K')
            | (refine draw_auto tok mixed (by kernel_rfl) ?_)
            | (refine And.intro (And.intro rfl rfl) ?_))
        intro ρ; rw [hg]; rfl
end Go.Proofs.Ytnafllhgjidbkaa

/- Where a cell's oil comes: Reach and the reference's. -/
namespace Go.Proofs.Ytnafllhgjidbkaa
open Go.RowKit
set_option linter.unusedVariables false
set_option linter.unusedSimpArgs false
theorem bool_or (b : Bool) : b = false ∨ b = true := by cases b <;> simp
open Classical in
noncomputable def reachB (B : Bay) (i m j : Nat) : Bool := decide (∃ k, k ≤ m ∧ 0 < (mvN B (oneS B i) k).Oil.getD j 0)
theorem reachB_iff {B : Bay} {i m j : Nat} : reachB B i m j = true ↔ ∃ k, k ≤ m ∧ 0 < (mvN B (oneS B i) k).Oil.getD j 0 := by simp [reachB]
theorem reachB_succ {B : Bay} {i m j : Nat} : reachB B i (m + 1) j = (reachB B i m j || decide (0 < (mvN B (oneS B i) (m + 1)).Oil.getD j 0)) := by
  rw [Bool.eq_iff_iff]
  simp only [Bool.or_eq_true, reachB_iff, decide_eq_true_eq]
  constructor
  · rintro ⟨k, hk, h⟩
    by_cases he : k = m + 1
    · subst he; exact .inr h
    · exact .inl ⟨k, by omega, h⟩
  · rintro (⟨k, hk, h⟩ | h)
    · exact ⟨k, by omega, h⟩
    · exact ⟨m + 1, Nat.le_refl _, h⟩
theorem reachB_zero {B : Bay} {i j : Nat} (hi : i < B.Share.length) : reachB B i 0 j = decide (j = i) := by
  rw [Bool.eq_iff_iff, reachB_iff, decide_eq_true_eq]
  constructor
  · rintro ⟨k, hk, h⟩
    obtain rfl : k = 0 := by omega
    have h2 : 0 < (oneS B i).Oil.getD j 0 := h
    rw [oneS_get hi] at h2
    by_cases he : j = i
    · exact he
    · rw [if_neg he] at h2; omega
  · rintro rfl
    refine ⟨0, Nat.le_refl _, ?_⟩
    show 0 < (oneS B j).Oil.getD j 0
    rw [oneS_get hi, if_pos rfl]; omega
/-- The first cells, to which it comes. -/
noncomputable def reachN (B : Bay) (i m x : Nat) : List Nat := (List.range x).filter (reachB B i m)
noncomputable def reachL (B : Bay) (i m x : Nat) : List Int := (reachN B i m x).map Int.ofNat
theorem reachL_zero (B : Bay) (i m : Nat) : reachL B i m 0 = [] := rfl
theorem reachL_yes {B : Bay} {i m x : Nat} (h : reachB B i m x = true) : reachL B i m (x + 1) = reachL B i m x ++ [(x : Int)] := by
  unfold reachL reachN
  rw [List.range_succ, List.filter_append, List.map_append]
  simp [h]
theorem reachL_no {B : Bay} {i m x : Nat} (h : reachB B i m x = false) : reachL B i m (x + 1) = reachL B i m x := by
  unfold reachL reachN
  rw [List.range_succ, List.filter_append, List.map_append]
  simp [h]
theorem reachL_le (B : Bay) (i m x : Nat) : (reachL B i m x).length ≤ x := by
  unfold reachL reachN
  rw [List.length_map]
  exact Nat.le_trans (List.length_filter_le _ _) (by simp)
noncomputable def rchL (B : Bay) (i n : Int) : List Int := if placE B i false n = 0 then reachL B i.toNat n.toNat B.Share.length else []
theorem rchL_no {B : Bay} {i n : Int} (h : ¬ placE B i false n = 0) : rchL B i n = [] := by unfold rchL; rw [if_neg h]
theorem rchL_yes {B : Bay} {i n : Nat} (h : placE B i false n = 0) : rchL B i n = reachL B i n B.Share.length := by unfold rchL; rw [if_pos h]; rfl
def intsQ (l : List Int) (Er : Int) (v : V) (L' : List E) : Prop :=
  ∃ o : C, v = V.tup [A.c o, A.c (C.i Er)] ∧ ((o = C.nil ∧ l = []) ∨ ∃ lab, o = C.sl lab l.length ∧ find L' lab = some ⟨lab, .vec 3 1, l.map C.i⟩)
theorem yes_row {B : Bay} {i m x : Nat} (h : reachB B i m x = true) : (reachL B i m (x + 1)).map C.i = (reachL B i m x).map C.i ++ [C.i (x : Int)] := by rw [reachL_yes h, List.map_append]; rfl
theorem yes_len {B : Bay} {i m x : Nat} (h : reachB B i m x = true) : (reachL B i m (x + 1)).length = (reachL B i m x).length + 1 := by rw [reachL_yes h]; simp
open Classical in
/-- Whether it comes there by fewer moves. -/
noncomputable def someB (B : Bay) (i k j : Nat) : Bool := decide (∃ m, m < k ∧ 0 < (mvN B (oneS B i) m).Oil.getD j 0)
theorem someB_zero (B : Bay) (i j : Nat) : someB B i 0 j = false := by simp [someB]
theorem someB_succ {B : Bay} {i k j : Nat} : someB B i (k + 1) j = (someB B i k j || decide (0 < (mvN B (oneS B i) k).Oil.getD j 0)) := by
  rw [Bool.eq_iff_iff]
  simp only [someB, Bool.or_eq_true, decide_eq_true_eq]
  constructor
  · rintro ⟨m, hm, h⟩
    by_cases he : m = k
    · subst he; exact .inr h
    · exact .inl ⟨m, by omega, h⟩
  · rintro (⟨m, hm, h⟩ | h)
    · exact ⟨m, by omega, h⟩
    · exact ⟨k, by omega, h⟩
theorem someB_reach (B : Bay) (i n j : Nat) : someB B i (n + 1) j = reachB B i n j := by
  unfold someB reachB
  congr 1
  simp only [Nat.lt_succ_iff]
set_option maxRecDepth 100000 in
theorem rreach_spec (B : Bay) (i n : Int) (hll : B.Land.length ≤ 100) (hsl : B.Share.length ≤ 100) (hii : -9223372036854775808 ≤ i ∧ i ≤ 9223372036854775807) (hnn : -9223372036854775808 ≤ n ∧ n ≤ 9223372036854775807) :
    Spec Try.prog 56 [V.agg [C.i B.W, C.i B.H, C.sl 0 B.Land.length, C.sl 1 B.Share.length], V.i i, V.i n] [⟨0, .ro 0, B.Land.map C.bool⟩, ⟨1, .ro 0, shareC B.Share⟩] 2
      (fun v L' _ => intsQ (rchL B i n) (placE B i false n) v L') := by
  by_cases h0 : placE B i false n = 0
  case neg =>
    rw [rchL_no h0]
    refine Spec.of tok Try.func56 rfl rfl rfl fun n0 => vc_ok tok ?_
    repeat ((conv => whnf); first
        | (refine And.intro (by first | omega | exact Nat.le_of_ble_eq_true rfl | (dsimp only [inK]; omega) | (simp only [mulS_eq]; omega) | (simp only [mulS_eq, setL_length]; omega) | (simp only [setL_length, List.length_map]; omega) | exact ⟨by omega, by omega, by first | exact Nat.le_of_ble_eq_true rfl | (dsimp only; omega) | (simp only [setL_length]; omega) | (simp only [setL_length, List.length_map]; omega)⟩ | exact ⟨by omega, by first | rfl | omega, by omega, Nat.le_of_ble_eq_true rfl, Nat.le_of_ble_eq_true rfl⟩ | exact ⟨rfl, rfl, rfl, Nat.le_of_ble_eq_true rfl, by first | rfl | omega | exact Nat.le_of_ble_eq_true rfl | (simp; done) | (simp; omega), by first | rfl | omega | exact Nat.le_of_ble_eq_true rfl | (simp; done) | (simp; omega), by omega, Nat.le_of_ble_eq_true rfl⟩ | exact Eq.refl true) ?_)
        | (refine Exists.intro _ (And.intro rfl ?_))
        | (refine br_t (by omega) ?_)
        | (refine br_f (by omega) ?_)
        | (refine bs_t (by omega) ?_)
        | (refine bs_f (by omega) ?_)
        | (refine fun (K' : K3) hK' => ?_)
        | (refine hK' _ _ _ ?_; clear hK' K')
        | (refine draw_auto tok mixed (by kernel_rfl) ?_)
        | (refine moved_kf hll hsl hii hnn rfl rfl ?_)
        | (refine And.intro (And.intro rfl rfl) ?_))
    exact .inl ⟨rfl, rfl⟩
  obtain ⟨hval, i, n, rfl, rfl, hi, hn, hld⟩ := place_ok h0
  rw [rchL_yes h0, h0]
  have hN : B.Land.length = B.Share.length := by have := hval.2.2.1; have := hval.2.2.2.1; omega
  have hN36 := mul36 hval.1.1 hval.1.2 hval.2.1.1 hval.2.1.2
  have hSS := hval.2.2.2.1
  obtain ⟨hf, hK0⟩ := one_mv (B := B) (j := i) (k := 0) hval hi (by omega)
  have hol : (oneS B i).Oil.length = B.Share.length := oneS_len B i
  refine Spec.of tok Try.func56 rfl rfl rfl fun n0 => vc_ok tok ?_
  repeat ((conv => whnf); first
      | (refine And.intro (by first | omega | exact Nat.le_of_ble_eq_true rfl | (dsimp only [inK]; omega) | (simp only [mulS_eq]; omega) | (simp only [mulS_eq, setL_length]; omega) | (simp only [setL_length, List.length_map]; omega) | exact ⟨by omega, by omega, by first | exact Nat.le_of_ble_eq_true rfl | (dsimp only; omega) | (simp only [setL_length]; omega) | (simp only [setL_length, List.length_map]; omega)⟩ | exact ⟨by omega, by first | rfl | omega, by omega, Nat.le_of_ble_eq_true rfl, Nat.le_of_ble_eq_true rfl⟩ | exact ⟨rfl, rfl, rfl, Nat.le_of_ble_eq_true rfl, by first | rfl | omega | exact Nat.le_of_ble_eq_true rfl | (simp; done) | (simp; omega), by first | rfl | omega | exact Nat.le_of_ble_eq_true rfl | (simp; done) | (simp; omega), by omega, Nat.le_of_ble_eq_true rfl⟩ | exact Eq.refl true) ?_)
      | (refine Exists.intro _ (And.intro rfl ?_))
      | (refine br_t (by omega) ?_)
      | (refine br_f (by omega) ?_)
      | (refine bs_t (by omega) ?_)
      | (refine bs_f (by omega) ?_)
      | (refine fun (K' : K3) hK' => ?_)
      | (refine hK' _ _ _ ?_; clear hK' K')
      | (refine draw_auto tok mixed (by kernel_rfl) ?_)
      | (refine moved_kf hll hsl hii hnn rfl rfl ?_)
      | (refine And.intro (And.intro rfl rfl) ?_))
  refine Tri.loop (γ := Nat) (fun j => j ≤ B.Share.length)
    (fun j => [(1, V.i (i : Int)), (2, V.i (n : Int)), (3, V.c (.ptr 2 0)), (9, V.c (.sl 3 (reachL B i n j).length)), (10, V.i (j : Int))])
    (fun j => [⟨0, .ro 0, B.Land.map C.bool⟩, ⟨1, .ro 0, shareC B.Share⟩, ⟨2, .own 25, [C.i B.W, C.i B.H, C.sl 0 B.Land.length, C.sl 1 B.Share.length]⟩, ⟨3, .vec 3 1, (reachL B i n j).map C.i⟩]) 4 (fun j => B.Share.length - j) 0 (R0 := [(3, none)]) ?_ ?_ ?_
  · exact Nat.zero_le _
  · skip
    refine ⟨?_, ?_, rfl, rfl, Nat.le_of_ble_eq_true rfl⟩
    · repeat (first | exact trivial | refine And.intro (covS_syn (by first | rfl) rfl (by first | exact trivial | exact Nat.le_of_ble_eq_true rfl)) ?_ | refine And.intro (covS_bool rfl rfl (by first | rfl)) ?_)
    · repeat (first | exact trivial | refine And.intro (covE_nil rfl (Nat.le_of_ble_eq_true rfl) rfl rfl) ?_ | refine And.intro (covE_some rfl (Nat.le_of_ble_eq_true rfl) (by first | exact wf_ints _ _ | exact wf_bools _ _ | exact wf_shares _ _ | simp [C.wf]) rfl (by first | exact ren_ints _ _ | exact ren_bools _ _ | exact ren_shares _ _ | (refine (ren_ints _ _).trans (congrArg some ?_); fail) | rfl)) ?_)
  · rintro j hj
    refine vc_ok tok ?_
    by_cases hlt : j < B.Share.length
    · have hlt' : (j : Int) < B.Land.length := by omega
      have hle := reachL_le B i n j
      repeat ((conv => whnf); first
          | (refine And.intro (by first | omega | exact Nat.le_of_ble_eq_true rfl | (dsimp only [inK]; omega) | (simp only [mulS_eq]; omega) | (simp only [mulS_eq, setL_length]; omega) | (simp only [setL_length, List.length_map]; omega) | exact ⟨by omega, by omega, by first | exact Nat.le_of_ble_eq_true rfl | (dsimp only; omega) | (simp only [setL_length]; omega) | (simp only [setL_length, List.length_map]; omega)⟩ | exact ⟨by omega, by first | rfl | omega, by omega, Nat.le_of_ble_eq_true rfl, Nat.le_of_ble_eq_true rfl⟩ | exact ⟨rfl, rfl, rfl, Nat.le_of_ble_eq_true rfl, by first | rfl | omega | exact Nat.le_of_ble_eq_true rfl | (simp; done) | (simp; omega), by first | rfl | omega | exact Nat.le_of_ble_eq_true rfl | (simp; done) | (simp; omega), by omega, Nat.le_of_ble_eq_true rfl⟩ | exact Eq.refl true) ?_)
          | (refine Exists.intro _ (And.intro rfl ?_))
          | (refine br_t (by omega) ?_)
          | (refine br_f (by omega) ?_)
          | (refine bs_t (by omega) ?_)
          | (refine bs_f (by omega) ?_)
          | (refine fun (K' : K3) hK' => ?_)
          | (refine hK' _ _ _ ?_; clear hK' K')
          | (refine draw_auto tok mixed (by kernel_rfl) ?_)
          | (refine And.intro (And.intro rfl rfl) ?_))
      refine Tri.loop (γ := Nat) (fun k => k ≤ n + 1)
        (fun k => [(1, V.i (i : Int)), (2, V.i (n : Int)), (3, V.c (.ptr 2 0)), (9, V.c (.sl 3 (reachL B i n j).length)), (10, V.i (j : Int)), (11, V.c (.bool (someB B i k j))), (12, V.i (k : Int))])
        (fun k => [⟨0, .ro 0, B.Land.map C.bool⟩, ⟨1, .ro 0, shareC B.Share⟩, ⟨2, .own 25, [C.i B.W, C.i B.H, C.sl 0 B.Land.length, C.sl 1 B.Share.length]⟩, ⟨3, .vec 3 1, (reachL B i n j).map C.i⟩]) 4 (fun k => n + 1 - k) 0 (R0 := []) ?_ ?_ ?_
      · exact Nat.zero_le _
      · skip
        refine ⟨?_, ?_, rfl, rfl, Nat.le_of_ble_eq_true rfl⟩
        · repeat (first | exact trivial | refine And.intro (covS_syn (by first | rfl | (refine congrArg some (congrArg V.i ?_); fail)) rfl (by first | exact trivial | exact Nat.le_of_ble_eq_true rfl)) ?_ | refine And.intro (covS_bool rfl rfl (by first | rfl | (exact (someB_zero B i j).symm))) ?_)
        · repeat (first | exact trivial | refine And.intro (covE_id (Nat.le_of_ble_eq_true rfl) (by first | exact wf_ints _ _ | exact wf_bools _ _ | exact wf_shares _ _ | simp [C.wf]) rfl (by first | rfl | (fail))) ?_)
      · rintro k hk
        refine vc_ok tok ?_
        by_cases hkn : k < n + 1
        · have hkn' : (k : Int) ≤ n := by omega
          have hbd := one_nonneg (B := B) (j := i) (k := k) (i := j) hval hi (by omega)
          have hml : j < (mvN B (oneS B i) k).Oil.length := by rw [mvN_len, oneS_len]; exact hlt
          rcases bool_or (someB B i k j) with hs | hs
          · have hs2 : someB B i (k + 1) j = decide (0 < (mvN B (oneS B i) k).Oil.getD j 0) := by rw [someB_succ, hs]; rfl
            repeat ((conv => whnf); first
                | (refine And.intro (by first | omega | exact Nat.le_of_ble_eq_true rfl | (dsimp only [inK]; omega) | (simp only [mulS_eq]; omega) | (simp only [mulS_eq, setL_length]; omega) | (simp only [setL_length, List.length_map]; omega) | exact ⟨by omega, by omega, by first | exact Nat.le_of_ble_eq_true rfl | (dsimp only; omega) | (simp only [setL_length]; omega) | (simp only [setL_length, List.length_map]; omega)⟩ | exact ⟨by omega, by first | rfl | omega, by omega, Nat.le_of_ble_eq_true rfl, Nat.le_of_ble_eq_true rfl⟩ | exact ⟨rfl, rfl, rfl, Nat.le_of_ble_eq_true rfl, by first | rfl | omega | exact Nat.le_of_ble_eq_true rfl | (simp; done) | (simp; omega), by first | rfl | omega | exact Nat.le_of_ble_eq_true rfl | (simp; done) | (simp; omega), by omega, Nat.le_of_ble_eq_true rfl⟩ | exact Eq.refl true) ?_)
                | (with_reducible refine ld (intL hml) ?_)
                | (refine Exists.intro _ (And.intro rfl ?_))
                | (refine br_t (by omega) ?_)
                | (refine br_f (by omega) ?_)
                | (refine bs_t (by omega) ?_)
                | (refine bs_f (by omega) ?_)
                | (refine fun (K' : K3) hK' => ?_)
                | (refine hK' _ _ _ ?_; clear hK' K')
                | (refine draw_auto tok mixed (by kernel_rfl) ?_)
                | (refine br_bf hs ?_)
                | (refine bs_bf hs ?_)
                | (refine HD_mk (fun _ h => One_k hval hll hsl (by omega) rfl rfl h) ?_)
                | (refine And.intro (And.intro rfl (chk_row _ _ _ _)) ?_)
                | (refine HD_mk (fun _ h => rafter_k (s := oneS B i) hval hll hsl hf (by rw [hK0]; omega) (by omega) rfl rfl rfl h) ?_)
                | (refine And.intro (And.intro rfl rfl) ?_))
            refine ⟨k + 1, [], by omega, by omega, ?_⟩
            refine ⟨?_, ?_, rfl, rfl, Nat.le_of_ble_eq_true rfl⟩
            · repeat (first | exact trivial | refine And.intro (covS_syn (by first | rfl | (refine congrArg some (congrArg V.i ?_); fail)) rfl (by first | exact trivial | exact Nat.le_of_ble_eq_true rfl)) ?_ | refine And.intro (covS_bool rfl rfl (by first | rfl | (exact hs2.symm))) ?_)
            · repeat (first | exact trivial | refine And.intro (covE_id (Nat.le_of_ble_eq_true rfl) (by first | exact wf_ints _ _ | exact wf_bools _ _ | exact wf_shares _ _ | simp [C.wf]) rfl (by first | rfl | (fail))) ?_)
          · have hs2 : someB B i (k + 1) j = true := by rw [someB_succ, hs]; rfl
            repeat ((conv => whnf); first
                | (refine And.intro (by first | omega | exact Nat.le_of_ble_eq_true rfl | (dsimp only [inK]; omega) | (simp only [mulS_eq]; omega) | (simp only [mulS_eq, setL_length]; omega) | (simp only [setL_length, List.length_map]; omega) | exact ⟨by omega, by omega, by first | exact Nat.le_of_ble_eq_true rfl | (dsimp only; omega) | (simp only [setL_length]; omega) | (simp only [setL_length, List.length_map]; omega)⟩ | exact ⟨by omega, by first | rfl | omega, by omega, Nat.le_of_ble_eq_true rfl, Nat.le_of_ble_eq_true rfl⟩ | exact ⟨rfl, rfl, rfl, Nat.le_of_ble_eq_true rfl, by first | rfl | omega | exact Nat.le_of_ble_eq_true rfl | (simp; done) | (simp; omega), by first | rfl | omega | exact Nat.le_of_ble_eq_true rfl | (simp; done) | (simp; omega), by omega, Nat.le_of_ble_eq_true rfl⟩ | exact Eq.refl true) ?_)
                | (refine Exists.intro _ (And.intro rfl ?_))
                | (refine br_t (by omega) ?_)
                | (refine br_f (by omega) ?_)
                | (refine bs_t (by omega) ?_)
                | (refine bs_f (by omega) ?_)
                | (refine fun (K' : K3) hK' => ?_)
                | (refine hK' _ _ _ ?_; clear hK' K')
                | (refine draw_auto tok mixed (by kernel_rfl) ?_)
                | (refine br_bt hs ?_)
                | (refine bs_bt hs ?_)
                | (refine And.intro (And.intro rfl rfl) ?_))
            refine ⟨k + 1, [], by omega, by omega, ?_⟩
            refine ⟨?_, ?_, rfl, rfl, Nat.le_of_ble_eq_true rfl⟩
            · repeat (first | exact trivial | refine And.intro (covS_syn (by first | rfl | (refine congrArg some (congrArg V.i ?_); fail)) rfl (by first | exact trivial | exact Nat.le_of_ble_eq_true rfl)) ?_ | refine And.intro (covS_bool rfl rfl (by first | rfl | (exact hs2.symm))) ?_)
            · repeat (first | exact trivial | refine And.intro (covE_id (Nat.le_of_ble_eq_true rfl) (by first | exact wf_ints _ _ | exact wf_bools _ _ | exact wf_shares _ _ | simp [C.wf]) rfl (by first | rfl | (fail))) ?_)
        · obtain rfl : k = n + 1 := by omega
          have hkn' : ¬ (((n + 1 : Nat) : Int) ≤ n) := by omega
          have hsr := someB_reach B i n j
          rcases bool_or (someB B i (n + 1) j) with hs | hs
          · have hr : reachB B i n j = false := by rw [← hsr, hs]
            repeat ((conv => whnf); first
                | (refine And.intro (by first | omega | exact Nat.le_of_ble_eq_true rfl | (dsimp only [inK]; omega) | (simp only [mulS_eq]; omega) | (simp only [mulS_eq, setL_length]; omega) | (simp only [setL_length, List.length_map]; omega) | exact ⟨by omega, by omega, by first | exact Nat.le_of_ble_eq_true rfl | (dsimp only; omega) | (simp only [setL_length]; omega) | (simp only [setL_length, List.length_map]; omega)⟩ | exact ⟨by omega, by first | rfl | omega, by omega, Nat.le_of_ble_eq_true rfl, Nat.le_of_ble_eq_true rfl⟩ | exact ⟨rfl, rfl, rfl, Nat.le_of_ble_eq_true rfl, by first | rfl | omega | exact Nat.le_of_ble_eq_true rfl | (simp; done) | (simp; omega), by first | rfl | omega | exact Nat.le_of_ble_eq_true rfl | (simp; done) | (simp; omega), by omega, Nat.le_of_ble_eq_true rfl⟩ | exact Eq.refl true) ?_)
                | (refine Exists.intro _ (And.intro rfl ?_))
                | (refine br_t (by omega) ?_)
                | (refine br_f (by omega) ?_)
                | (refine bs_t (by omega) ?_)
                | (refine bs_f (by omega) ?_)
                | (refine fun (K' : K3) hK' => ?_)
                | (refine hK' _ _ _ ?_; clear hK' K')
                | (refine draw_auto tok mixed (by kernel_rfl) ?_)
                | (refine br_bf hs ?_)
                | (refine bs_bf hs ?_)
                | (refine And.intro (And.intro rfl rfl) ?_))
            refine ⟨j + 1, [], by omega, by omega, ?_⟩
            rw [reachL_no hr]
            refine ⟨?_, ?_, rfl, rfl, Nat.le_of_ble_eq_true rfl⟩
            · repeat (first | exact trivial | refine And.intro (covS_syn (by first | rfl) rfl (by first | exact trivial | exact Nat.le_of_ble_eq_true rfl)) ?_ | refine And.intro (covS_bool rfl rfl (by first | rfl)) ?_)
            · repeat (first | exact trivial | refine And.intro (covE_id (Nat.le_of_ble_eq_true rfl) (by first | exact wf_ints _ _ | exact wf_bools _ _ | exact wf_shares _ _ | simp [C.wf]) rfl (by first | rfl | (fail))) ?_)
          · have hr : reachB B i n j = true := by rw [← hsr, hs]
            have hrow := yes_row hr
            have hlen := yes_len hr
            repeat ((conv => whnf); first
                | (refine And.intro (by first | omega | exact Nat.le_of_ble_eq_true rfl | (dsimp only [inK]; omega) | (simp only [mulS_eq]; omega) | (simp only [mulS_eq, setL_length]; omega) | (simp only [setL_length, List.length_map]; omega) | exact ⟨by omega, by omega, by first | exact Nat.le_of_ble_eq_true rfl | (dsimp only; omega) | (simp only [setL_length]; omega) | (simp only [setL_length, List.length_map]; omega)⟩ | exact ⟨by omega, by first | rfl | omega, by omega, Nat.le_of_ble_eq_true rfl, Nat.le_of_ble_eq_true rfl⟩ | exact ⟨rfl, rfl, rfl, Nat.le_of_ble_eq_true rfl, by first | rfl | omega | exact Nat.le_of_ble_eq_true rfl | (simp; done) | (simp; omega), by first | rfl | omega | exact Nat.le_of_ble_eq_true rfl | (simp; done) | (simp; omega), by omega, Nat.le_of_ble_eq_true rfl⟩ | exact Eq.refl true) ?_)
                | (refine Exists.intro _ (And.intro rfl ?_))
                | (refine br_t (by omega) ?_)
                | (refine br_f (by omega) ?_)
                | (refine bs_t (by omega) ?_)
                | (refine bs_f (by omega) ?_)
                | (refine fun (K' : K3) hK' => ?_)
                | (refine hK' _ _ _ ?_; clear hK' K')
                | (refine draw_auto tok mixed (by kernel_rfl) ?_)
                | (refine br_bt hs ?_)
                | (refine bs_bt hs ?_)
                | (refine And.intro (And.intro rfl rfl) ?_))
            refine ⟨j + 1, [(3, some 5)], by omega, by omega, ?_⟩
            rw [hlen]
            refine ⟨?_, ?_, rfl, rfl, Nat.le_of_ble_eq_true rfl⟩
            · repeat (first | exact trivial | refine And.intro (covS_syn (by first | rfl) rfl (by first | exact trivial | exact Nat.le_of_ble_eq_true rfl)) ?_ | refine And.intro (covS_bool rfl rfl (by first | rfl)) ?_)
            · repeat (first | exact trivial | refine And.intro (covE_nil rfl (Nat.le_of_ble_eq_true rfl) rfl rfl) ?_ | refine And.intro (covE_some rfl (Nat.le_of_ble_eq_true rfl) (by first | exact wf_ints _ _ | exact wf_bools _ _ | exact wf_shares _ _ | simp [C.wf]) rfl (by first | exact ren_ints _ _ | exact ren_bools _ _ | exact ren_shares _ _ | (refine (ren_ints _ _).trans (congrArg some ?_); exact hrow) | rfl)) ?_)
    · obtain rfl : j = B.Share.length := by omega
      have hlt' : ¬ ((B.Share.length : Int) < (B.Land.length : Int)) := by omega
      repeat ((conv => whnf); first
          | (refine And.intro (by first | omega | exact Nat.le_of_ble_eq_true rfl | (dsimp only [inK]; omega) | (simp only [mulS_eq]; omega) | (simp only [mulS_eq, setL_length]; omega) | (simp only [setL_length, List.length_map]; omega) | exact ⟨by omega, by omega, by first | exact Nat.le_of_ble_eq_true rfl | (dsimp only; omega) | (simp only [setL_length]; omega) | (simp only [setL_length, List.length_map]; omega)⟩ | exact ⟨by omega, by first | rfl | omega, by omega, Nat.le_of_ble_eq_true rfl, Nat.le_of_ble_eq_true rfl⟩ | exact ⟨rfl, rfl, rfl, Nat.le_of_ble_eq_true rfl, by first | rfl | omega | exact Nat.le_of_ble_eq_true rfl | (simp; done) | (simp; omega), by first | rfl | omega | exact Nat.le_of_ble_eq_true rfl | (simp; done) | (simp; omega), by omega, Nat.le_of_ble_eq_true rfl⟩ | exact Eq.refl true) ?_)
          | (refine Exists.intro _ (And.intro rfl ?_))
          | (refine br_t (by omega) ?_)
          | (refine br_f (by omega) ?_)
          | (refine bs_t (by omega) ?_)
          | (refine bs_f (by omega) ?_)
          | (refine fun (K' : K3) hK' => ?_)
          | (refine hK' _ _ _ ?_; clear hK' K')
          | (refine draw_auto tok mixed (by kernel_rfl) ?_)
          | (refine And.intro (And.intro rfl rfl) ?_))
      exact .inr ⟨3, rfl, rfl⟩
end Go.Proofs.Ytnafllhgjidbkaa

/- Where a cell's oil comes: slick's Reach. -/
namespace Go.Proofs.Ytnafllhgjidbkaa
open Go.RowKit
set_option linter.unusedVariables false
set_option linter.unusedSimpArgs false
noncomputable def seenL (B : Bay) (i m : Nat) : List Bool := (List.range B.Share.length).map fun j => reachB B i m j
noncomputable def seenX (B : Bay) (i m x : Nat) : List Bool := (List.range B.Share.length).map fun j => if j < x then reachB B i (m + 1) j else reachB B i m j
theorem seenL_len (B : Bay) (i m : Nat) : (seenL B i m).length = B.Share.length := by simp [seenL]
theorem seenX_len (B : Bay) (i m x : Nat) : (seenX B i m x).length = B.Share.length := by simp [seenX]
theorem seenL_get {B : Bay} {i m j : Nat} (h : j < B.Share.length) : (seenL B i m).getD j false = reachB B i m j := by simp [seenL, List.getD_eq_getElem?_getD, h]
theorem seenX_get {B : Bay} {i m x j : Nat} (h : j < B.Share.length) : (seenX B i m x).getD j false = if j < x then reachB B i (m + 1) j else reachB B i m j := by simp [seenX, List.getD_eq_getElem?_getD, h]
theorem bools_ext {l m : List Bool} (h : l.length = m.length) (hg : ∀ j, j < l.length → l.getD j false = m.getD j false) : l = m := by
  apply List.ext_getElem h
  intro j h1 h2
  have := hg j h1
  simpa [List.getD_eq_getElem?_getD, h1, h2] using this
theorem seenX_zero (B : Bay) (i m : Nat) : seenX B i m 0 = seenL B i m := by
  refine bools_ext (by rw [seenX_len, seenL_len]) (fun j hj => ?_)
  rw [seenX_len] at hj
  rw [seenX_get hj, seenL_get hj, if_neg (by omega)]
theorem seenX_all (B : Bay) (i m : Nat) : seenX B i m B.Share.length = seenL B i (m + 1) := by
  refine bools_ext (by rw [seenX_len, seenL_len]) (fun j hj => ?_)
  rw [seenX_len] at hj
  rw [seenX_get hj, seenL_get hj, if_pos hj]
theorem getD_setb (l : List Bool) (x j : Nat) (b : Bool) (hx : x < l.length) : (l.set x b).getD j false = if j = x then b else l.getD j false := by
  simp only [List.getD_eq_getElem?_getD, List.getElem?_set]
  by_cases h : x = j
  · subst h; simp [hx]
  · rw [if_neg h, if_neg (by omega)]
theorem seenX_set {B : Bay} {i m x : Nat} {b : Bool} (hx : x < B.Share.length) (hb : b = reachB B i (m + 1) x) : (seenX B i m x).set x b = seenX B i m (x + 1) := by
  refine bools_ext (by rw [List.length_set, seenX_len, seenX_len]) (fun j hj => ?_)
  rw [List.length_set, seenX_len] at hj
  rw [getD_setb _ _ _ _ (by rw [seenX_len]; exact hx), seenX_get hj, seenX_get hj, hb]
  by_cases h : j = x
  · subst h; rw [if_pos rfl, if_pos (by omega)]
  · rw [if_neg h]
    by_cases h2 : j < x
    · rw [if_pos h2, if_pos (by omega)]
    · rw [if_neg h2, if_neg (by omega)]
theorem setb_cells {l l' : List Bool} {x : Nat} {c : C} {b : Bool} (hc : c.toB = some b) (hl : l.set x b = l') : (setL (l.map C.bool) (mulS ((x : Nat) : Int).toNat 1) [c]).map C.toB = l'.map some := by
  subst hl
  rw [mulS_eq]
  simp only [setL, Int.toNat_natCast, Nat.mul_one, List.map_set, hc]
  congr 1
  rw [List.map_map]; rfl
theorem seen_first {B : Bay} {i n : Nat} (hn : n = B.Share.length) (hi : i < B.Share.length) : (setL (repC n [C.ff]) (mulS ((i : Nat) : Int).toNat 1) [C.tt]).map C.toB = (seenL B i 0).map some := by
  subst hn
  have h : (List.replicate B.Share.length false).set i true = seenL B i 0 := by
    refine bools_ext (by rw [seenL_len]; simp) (fun j hj => ?_)
    simp only [List.length_set, List.length_replicate] at hj
    rw [getD_setb _ _ _ _ (by simpa using hi), seenL_get hj, reachB_zero hi]
    by_cases h : j = i
    · rw [if_pos h, decide_eq_true h]
    · rw [if_neg h, decide_eq_false h]; simp [List.getD_eq_getElem?_getD, hj]
  rw [← h, mulS_eq]
  simp only [setL, Int.toNat_natCast, Nat.mul_one, List.map_set]
  simp [repC, C.toB]
set_option maxRecDepth 100000 in
theorem reach_spec (B : Bay) (i n : Int) (hll : B.Land.length ≤ 100) (hsl : B.Share.length ≤ 100) (hii : -9223372036854775808 ≤ i ∧ i ≤ 9223372036854775807) (hnn : -9223372036854775808 ≤ n ∧ n ≤ 9223372036854775807) :
    Spec Try.prog 55 [V.agg [C.i B.W, C.i B.H, C.sl 0 B.Land.length, C.sl 1 B.Share.length], V.i i, V.i n] [⟨0, .ro 0, B.Land.map C.bool⟩, ⟨1, .ro 0, shareC B.Share⟩] 2
      (fun v L' _ => intsQ (rchL B i n) (placE B i false n) v L') := by
  by_cases h0 : placE B i false n = 0
  case neg =>
    rw [rchL_no h0]
    refine Spec.of tok Try.func55 rfl rfl rfl fun n0 => vc_ok tok ?_
    repeat ((conv => whnf); first
        | (refine And.intro (by first | omega | exact Nat.le_of_ble_eq_true rfl | (dsimp only [inK]; omega) | (simp only [mulS_eq]; omega) | (simp only [mulS_eq, setL_length]; omega) | (simp only [setL_length, List.length_map]; omega) | exact ⟨by omega, by omega, by first | exact Nat.le_of_ble_eq_true rfl | (dsimp only; omega) | (simp only [setL_length]; omega) | (simp only [setL_length, List.length_map]; omega)⟩ | exact ⟨by omega, by first | rfl | omega, by omega, Nat.le_of_ble_eq_true rfl, Nat.le_of_ble_eq_true rfl⟩ | exact ⟨rfl, rfl, rfl, Nat.le_of_ble_eq_true rfl, by first | rfl | omega | exact Nat.le_of_ble_eq_true rfl | (simp; done) | (simp; omega), by first | rfl | omega | exact Nat.le_of_ble_eq_true rfl | (simp; done) | (simp; omega), by omega, Nat.le_of_ble_eq_true rfl⟩ | exact Eq.refl true) ?_)
        | (refine Exists.intro _ (And.intro rfl ?_))
        | (refine br_t (by omega) ?_)
        | (refine br_f (by omega) ?_)
        | (refine bs_t (by omega) ?_)
        | (refine bs_f (by omega) ?_)
        | (refine fun (K' : K3) hK' => ?_)
        | (refine hK' _ _ _ ?_; clear hK' K')
        | (refine draw_auto tok mixed (by kernel_rfl) ?_)
        | (refine placed_kf hll hsl hii hnn rfl rfl ?_)
        | (refine And.intro (And.intro rfl rfl) ?_))
    exact .inl ⟨rfl, rfl⟩
  obtain ⟨hval, i, n, rfl, rfl, hi, hn, hld⟩ := place_ok h0
  rw [rchL_yes h0, h0]
  have hN : B.Land.length = B.Share.length := by have := hval.2.2.1; have := hval.2.2.2.1; omega
  have hN36 := mul36 hval.1.1 hval.1.2 hval.2.1.1 hval.2.1.2
  have hSS := hval.2.2.2.1
  have hol : (oneS B i).Oil.length = B.Share.length := oneS_len B i
  have hrep : (repC ((B.Land.length : Nat) : Int).toNat [C.ff]).length = B.Land.length := by simp [repC]
  refine Spec.of tok Try.func55 rfl rfl rfl fun n0 => vc_ok tok ?_
  repeat ((conv => whnf); first
      | (refine And.intro (by first | omega | exact Nat.le_of_ble_eq_true rfl | (dsimp only [inK]; omega) | (simp only [mulS_eq]; omega) | (simp only [mulS_eq, setL_length]; omega) | (simp only [setL_length, List.length_map]; omega) | exact ⟨by omega, by omega, by first | exact Nat.le_of_ble_eq_true rfl | (dsimp only; omega) | (simp only [setL_length]; omega) | (simp only [setL_length, List.length_map]; omega)⟩ | exact ⟨by omega, by first | rfl | omega, by omega, Nat.le_of_ble_eq_true rfl, Nat.le_of_ble_eq_true rfl⟩ | exact ⟨rfl, rfl, rfl, Nat.le_of_ble_eq_true rfl, by first | rfl | omega | exact Nat.le_of_ble_eq_true rfl | (simp; done) | (simp; omega), by first | rfl | omega | exact Nat.le_of_ble_eq_true rfl | (simp; done) | (simp; omega), by omega, Nat.le_of_ble_eq_true rfl⟩ | exact Eq.refl true) ?_)
      | (refine Exists.intro _ (And.intro rfl ?_))
      | (refine br_t (by omega) ?_)
      | (refine br_f (by omega) ?_)
      | (refine bs_t (by omega) ?_)
      | (refine bs_f (by omega) ?_)
      | (refine fun (K' : K3) hK' => ?_)
      | (refine hK' _ _ _ ?_; clear hK' K')
      | (refine draw_auto tok mixed (by kernel_rfl) ?_)
      | (refine placed_kf hll hsl hii hnn rfl rfl ?_)
      | (refine one_k hval hll hsl hi rfl rfl ?_)
      | (refine And.intro (And.intro rfl rfl) ?_))
  refine Tri.loop (γ := Nat) (fun m => m ≤ n)
    (fun m => [(3, V.c (.ptr 2 0)), (9, V.c (.sl 3 B.Land.length)), (10, V.c (.ptr 5 0)), (33, V.i (n : Int)), (34, V.i (m : Int))])
    (fun m => [⟨0, .ro 0, B.Land.map C.bool⟩, ⟨1, .ro 0, shareC B.Share⟩, ⟨2, .own 25, [C.i B.W, C.i B.H, C.sl 0 B.Land.length, C.sl 1 B.Share.length]⟩, ⟨3, .vec 4 1, (seenL B i m).map C.bool⟩, ⟨4, .ro 0, (mvN B (oneS B i) m).Oil.map C.i⟩, ⟨5, .own 28, [C.i (mvN B (oneS B i) m).K, C.sl 4 (mvN B (oneS B i) m).Oil.length, C.i (mvN B (oneS B i) m).Away]⟩]) 6 (fun m => n - m) 0 (R0 := []) ?_ ?_ ?_
  · exact Nat.zero_le _
  · skip
    refine ⟨?_, ?_, rfl, rfl, Nat.le_of_ble_eq_true rfl⟩
    · repeat (first | exact trivial | refine And.intro (covS_syn (by first | rfl | (refine congrArg some (congrArg V.i ?_); fail)) rfl (by first | exact trivial | exact Nat.le_of_ble_eq_true rfl)) ?_ | refine And.intro (covS_bool rfl rfl (by first | rfl | (fail))) ?_)
    · repeat (first | exact trivial | (refine And.intro (covE_sem rfl (Nat.le_of_ble_eq_true rfl) (wf_bools _ _) rfl (.inl rfl) (fun ρ => den_toB (seen_first hN hi))) ?_) | (refine And.intro (covE_sem rfl (Nat.le_of_ble_eq_true rfl) (wf_ints _ _) rfl (.inr ⟨0, rfl, .inl rfl⟩) (fun ρ => cells_ren (ren_ints _ _) ρ)) ?_) | refine And.intro (covE_id (Nat.le_of_ble_eq_true rfl) (by first | exact wf_ints _ _ | exact wf_bools _ _ | exact wf_shares _ _ | simp [C.wf]) rfl (by first | rfl | (fail))) ?_)
  · rintro m hm
    refine vc_ok tok ?_
    obtain ⟨hf, hK0⟩ := one_mv (B := B) (j := i) (k := m) hval hi (by omega)
    have hmK : (mvN B (oneS B i) m).K = m := by rw [mvN_K, hK0]; omega
    have hml : (mvN B (oneS B i) m).Oil.length = B.Share.length := by rw [mvN_len, oneS_len]
    by_cases hlt : m < n
    · have hml2 : (mv B (mvN B (oneS B i) m)).Oil.length = B.Share.length := by rw [mv_len, hml]
      have hnext : mvN B (oneS B i) (m + 1) = mv B (mvN B (oneS B i) m) := rfl
      repeat ((conv => whnf); first
          | (refine And.intro (by first | omega | exact Nat.le_of_ble_eq_true rfl | (dsimp only [inK]; omega) | (simp only [mulS_eq]; omega) | (simp only [mulS_eq, setL_length]; omega) | (simp only [setL_length, List.length_map]; omega) | exact ⟨by omega, by omega, by first | exact Nat.le_of_ble_eq_true rfl | (dsimp only; omega) | (simp only [setL_length]; omega) | (simp only [setL_length, List.length_map]; omega)⟩ | exact ⟨by omega, by first | rfl | omega, by omega, Nat.le_of_ble_eq_true rfl, Nat.le_of_ble_eq_true rfl⟩ | exact ⟨rfl, rfl, rfl, Nat.le_of_ble_eq_true rfl, by first | rfl | omega | exact Nat.le_of_ble_eq_true rfl | (simp; done) | (simp; omega), by first | rfl | omega | exact Nat.le_of_ble_eq_true rfl | (simp; done) | (simp; omega), by omega, Nat.le_of_ble_eq_true rfl⟩ | exact Eq.refl true) ?_)
          | (refine Exists.intro _ (And.intro rfl ?_))
          | (refine br_t (by omega) ?_)
          | (refine br_f (by omega) ?_)
          | (refine bs_t (by omega) ?_)
          | (refine bs_f (by omega) ?_)
          | (refine fun (K' : K3) hK' => ?_)
          | (refine hK' _ _ _ ?_; clear hK' K')
          | (refine draw_auto tok mixed (by kernel_rfl) ?_)
          | (refine move_k (s := mvN B (oneS B i) m) hval hll hsl hf (by omega) rfl rfl rfl ?_)
          | (refine And.intro (And.intro rfl rfl) ?_))
      refine Tri.loop (γ := Nat) (fun x => x ≤ B.Share.length)
        (fun x => [(3, V.c (.ptr 2 0)), (9, V.c (.sl 3 B.Land.length)), (10, V.c (.ptr 5 0)), (33, V.i (n : Int)), (34, V.i (m : Int)), (40, V.c (.sl 6 (mv B (mvN B (oneS B i) m)).Oil.length)), (41, V.i ((mv B (mvN B (oneS B i) m)).Oil.length : Int)), (42, V.i (x : Int))])
        (fun x => [⟨0, .ro 0, B.Land.map C.bool⟩, ⟨1, .ro 0, shareC B.Share⟩, ⟨2, .own 25, [C.i B.W, C.i B.H, C.sl 0 B.Land.length, C.sl 1 B.Share.length]⟩, ⟨3, .vec 4 1, (seenX B i m x).map C.bool⟩, ⟨6, .ro 0, (mv B (mvN B (oneS B i) m)).Oil.map C.i⟩, ⟨5, .own 28, [C.i (mv B (mvN B (oneS B i) m)).K, C.sl 6 (mv B (mvN B (oneS B i) m)).Oil.length, C.i (mv B (mvN B (oneS B i) m)).Away]⟩]) 7 (fun x => B.Share.length - x) 0 (R0 := []) ?_ ?_ ?_
      · exact Nat.zero_le _
      · rw [seenX_zero]
        refine ⟨?_, ?_, rfl, rfl, Nat.le_of_ble_eq_true rfl⟩
        · repeat (first | exact trivial | refine And.intro (covS_syn (by first | rfl) rfl (by first | exact trivial | exact Nat.le_of_ble_eq_true rfl)) ?_ | refine And.intro (covS_bool rfl rfl (by first | rfl)) ?_)
        · repeat (first | exact trivial | refine And.intro (covE_id (Nat.le_of_ble_eq_true rfl) (by first | exact wf_ints _ _ | exact wf_bools _ _ | exact wf_shares _ _ | simp [C.wf]) rfl (by first | rfl | (fail))) ?_)
      · rintro x hx
        refine vc_ok tok ?_
        by_cases hxl : x < B.Share.length
        · have hxl' : (x : Int) < ((mv B (mvN B (oneS B i) m)).Oil.length : Int) := by omega
          have hxs : x < (seenX B i m x).length := by rw [seenX_len]; exact hxl
          have hxm : x < (mv B (mvN B (oneS B i) m)).Oil.length := by omega
          have hlc : ((seenX B i m x).map C.bool).length = B.Share.length := by rw [List.length_map, seenX_len]
          have hg : (seenX B i m x).getD x false = reachB B i m x := by rw [seenX_get hxl, if_neg (by omega)]
          have hsucc := reachB_succ (B := B) (i := i) (m := m) (j := x)
          rw [hnext] at hsucc
          rcases bool_or ((seenX B i m x).getD x false) with hs | hs
          · have hset := seenX_set (B := B) (i := i) (m := m) (x := x) (b := decide (0 < (mv B (mvN B (oneS B i) m)).Oil.getD x 0)) hxl (by rw [hsucc, ← hg, hs]; rfl)
            repeat ((conv => whnf); first
                | (refine And.intro (by first | omega | exact Nat.le_of_ble_eq_true rfl | (dsimp only [inK]; omega) | (simp only [mulS_eq]; omega) | (simp only [mulS_eq, setL_length]; omega) | (simp only [setL_length, List.length_map]; omega) | exact ⟨by omega, by omega, by first | exact Nat.le_of_ble_eq_true rfl | (dsimp only; omega) | (simp only [setL_length]; omega) | (simp only [setL_length, List.length_map]; omega)⟩ | exact ⟨by omega, by first | rfl | omega, by omega, Nat.le_of_ble_eq_true rfl, Nat.le_of_ble_eq_true rfl⟩ | exact ⟨rfl, rfl, rfl, Nat.le_of_ble_eq_true rfl, by first | rfl | omega | exact Nat.le_of_ble_eq_true rfl | (simp; done) | (simp; omega), by first | rfl | omega | exact Nat.le_of_ble_eq_true rfl | (simp; done) | (simp; omega), by omega, Nat.le_of_ble_eq_true rfl⟩ | exact Eq.refl true) ?_)
                | (with_reducible refine ld (intL hxm) ?_)
                | (with_reducible refine ld (boolL hxs) ?_)
                | (refine Exists.intro _ (And.intro rfl ?_))
                | (refine br_t (by omega) ?_)
                | (refine br_f (by omega) ?_)
                | (refine bs_t (by omega) ?_)
                | (refine bs_f (by omega) ?_)
                | (refine fun (K' : K3) hK' => ?_)
                | (refine hK' _ _ _ ?_; clear hK' K')
                | (refine draw_auto tok mixed (by kernel_rfl) ?_)
                | (refine br_bf hs ?_)
                | (refine bs_bf hs ?_)
                | (refine And.intro (And.intro rfl rfl) ?_))
            refine ⟨x + 1, [], by omega, by omega, ?_⟩
            refine ⟨?_, ?_, rfl, rfl, Nat.le_of_ble_eq_true rfl⟩
            · repeat (first | exact trivial | refine And.intro (covS_syn (by first | rfl | (refine congrArg some (congrArg V.i ?_); fail)) rfl (by first | exact trivial | exact Nat.le_of_ble_eq_true rfl)) ?_ | refine And.intro (covS_bool rfl rfl (by first | rfl | (fail))) ?_)
            · repeat (first | exact trivial | (refine And.intro (covE_sem rfl (Nat.le_of_ble_eq_true rfl) (wf_bools _ _) rfl (.inl rfl) (fun ρ => den_toB (setb_cells rfl hset))) ?_) | refine And.intro (covE_id (Nat.le_of_ble_eq_true rfl) (by first | exact wf_ints _ _ | exact wf_bools _ _ | exact wf_shares _ _ | simp [C.wf]) rfl (by first | rfl | (fail))) ?_)
          · have hset := seenX_set (B := B) (i := i) (m := m) (x := x) (b := true) hxl (by rw [hsucc, ← hg, hs]; rfl)
            repeat ((conv => whnf); first
                | (refine And.intro (by first | omega | exact Nat.le_of_ble_eq_true rfl | (dsimp only [inK]; omega) | (simp only [mulS_eq]; omega) | (simp only [mulS_eq, setL_length]; omega) | (simp only [setL_length, List.length_map]; omega) | exact ⟨by omega, by omega, by first | exact Nat.le_of_ble_eq_true rfl | (dsimp only; omega) | (simp only [setL_length]; omega) | (simp only [setL_length, List.length_map]; omega)⟩ | exact ⟨by omega, by first | rfl | omega, by omega, Nat.le_of_ble_eq_true rfl, Nat.le_of_ble_eq_true rfl⟩ | exact ⟨rfl, rfl, rfl, Nat.le_of_ble_eq_true rfl, by first | rfl | omega | exact Nat.le_of_ble_eq_true rfl | (simp; done) | (simp; omega), by first | rfl | omega | exact Nat.le_of_ble_eq_true rfl | (simp; done) | (simp; omega), by omega, Nat.le_of_ble_eq_true rfl⟩ | exact Eq.refl true) ?_)
                | (with_reducible refine ld (intL hxm) ?_)
                | (with_reducible refine ld (boolL hxs) ?_)
                | (refine Exists.intro _ (And.intro rfl ?_))
                | (refine br_t (by omega) ?_)
                | (refine br_f (by omega) ?_)
                | (refine bs_t (by omega) ?_)
                | (refine bs_f (by omega) ?_)
                | (refine fun (K' : K3) hK' => ?_)
                | (refine hK' _ _ _ ?_; clear hK' K')
                | (refine draw_auto tok mixed (by kernel_rfl) ?_)
                | (refine br_bt hs ?_)
                | (refine bs_bt hs ?_)
                | (refine And.intro (And.intro rfl rfl) ?_))
            refine ⟨x + 1, [], by omega, by omega, ?_⟩
            refine ⟨?_, ?_, rfl, rfl, Nat.le_of_ble_eq_true rfl⟩
            · repeat (first | exact trivial | refine And.intro (covS_syn (by first | rfl | (refine congrArg some (congrArg V.i ?_); fail)) rfl (by first | exact trivial | exact Nat.le_of_ble_eq_true rfl)) ?_ | refine And.intro (covS_bool rfl rfl (by first | rfl | (fail))) ?_)
            · repeat (first | exact trivial | (refine And.intro (covE_sem rfl (Nat.le_of_ble_eq_true rfl) (wf_bools _ _) rfl (.inl rfl) (fun ρ => den_toB (setb_cells rfl hset))) ?_) | refine And.intro (covE_id (Nat.le_of_ble_eq_true rfl) (by first | exact wf_ints _ _ | exact wf_bools _ _ | exact wf_shares _ _ | simp [C.wf]) rfl (by first | rfl | (fail))) ?_)
        · obtain rfl : x = B.Share.length := by omega
          have hxl' : ¬ ((B.Share.length : Int) < ((mv B (mvN B (oneS B i) m)).Oil.length : Int)) := by omega
          repeat ((conv => whnf); first
              | (refine And.intro (by first | omega | exact Nat.le_of_ble_eq_true rfl | (dsimp only [inK]; omega) | (simp only [mulS_eq]; omega) | (simp only [mulS_eq, setL_length]; omega) | (simp only [setL_length, List.length_map]; omega) | exact ⟨by omega, by omega, by first | exact Nat.le_of_ble_eq_true rfl | (dsimp only; omega) | (simp only [setL_length]; omega) | (simp only [setL_length, List.length_map]; omega)⟩ | exact ⟨by omega, by first | rfl | omega, by omega, Nat.le_of_ble_eq_true rfl, Nat.le_of_ble_eq_true rfl⟩ | exact ⟨rfl, rfl, rfl, Nat.le_of_ble_eq_true rfl, by first | rfl | omega | exact Nat.le_of_ble_eq_true rfl | (simp; done) | (simp; omega), by first | rfl | omega | exact Nat.le_of_ble_eq_true rfl | (simp; done) | (simp; omega), by omega, Nat.le_of_ble_eq_true rfl⟩ | exact Eq.refl true) ?_)
              | (refine Exists.intro _ (And.intro rfl ?_))
              | (refine br_t (by omega) ?_)
              | (refine br_f (by omega) ?_)
              | (refine bs_t (by omega) ?_)
              | (refine bs_f (by omega) ?_)
              | (refine fun (K' : K3) hK' => ?_)
              | (refine hK' _ _ _ ?_; clear hK' K')
              | (refine draw_auto tok mixed (by kernel_rfl) ?_)
              | (refine And.intro (And.intro rfl rfl) ?_))
          refine ⟨m + 1, [(4, some 6)], by omega, by omega, ?_⟩
          rw [seenX_all, hnext]
          refine ⟨?_, ?_, rfl, rfl, Nat.le_of_ble_eq_true rfl⟩
          · repeat (first | exact trivial | refine And.intro (covS_syn (by first | rfl) rfl (by first | exact trivial | exact Nat.le_of_ble_eq_true rfl)) ?_ | refine And.intro (covS_bool rfl rfl (by first | rfl)) ?_)
          · repeat (first | exact trivial | refine And.intro (covE_nil rfl (Nat.le_of_ble_eq_true rfl) rfl rfl) ?_ | refine And.intro (covE_some rfl (Nat.le_of_ble_eq_true rfl) (by first | exact wf_ints _ _ | exact wf_bools _ _ | exact wf_shares _ _ | simp [C.wf]) rfl (by first | exact ren_ints _ _ | exact ren_bools _ _ | exact ren_shares _ _ | (refine (ren_ints _ _).trans (congrArg some ?_); fail) | rfl)) ?_)
    · obtain rfl : m = n := by omega
      have hsl' : (seenL B i m).length = B.Share.length := seenL_len B i m
      repeat ((conv => whnf); first
          | (refine And.intro (by first | omega | exact Nat.le_of_ble_eq_true rfl | (dsimp only [inK]; omega) | (simp only [mulS_eq]; omega) | (simp only [mulS_eq, setL_length]; omega) | (simp only [setL_length, List.length_map]; omega) | exact ⟨by omega, by omega, by first | exact Nat.le_of_ble_eq_true rfl | (dsimp only; omega) | (simp only [setL_length]; omega) | (simp only [setL_length, List.length_map]; omega)⟩ | exact ⟨by omega, by first | rfl | omega, by omega, Nat.le_of_ble_eq_true rfl, Nat.le_of_ble_eq_true rfl⟩ | exact ⟨rfl, rfl, rfl, Nat.le_of_ble_eq_true rfl, by first | rfl | omega | exact Nat.le_of_ble_eq_true rfl | (simp; done) | (simp; omega), by first | rfl | omega | exact Nat.le_of_ble_eq_true rfl | (simp; done) | (simp; omega), by omega, Nat.le_of_ble_eq_true rfl⟩ | exact Eq.refl true) ?_)
          | (refine Exists.intro _ (And.intro rfl ?_))
          | (refine br_t (by omega) ?_)
          | (refine br_f (by omega) ?_)
          | (refine bs_t (by omega) ?_)
          | (refine bs_f (by omega) ?_)
          | (refine fun (K' : K3) hK' => ?_)
          | (refine hK' _ _ _ ?_; clear hK' K')
          | (refine draw_auto tok mixed (by kernel_rfl) ?_)
          | (refine And.intro (And.intro rfl rfl) ?_))
      refine Tri.loop (γ := Nat) (fun x => x ≤ B.Share.length)
        (fun x => [(13, V.c (.sl 6 (reachL B i m x).length)), (60, V.c (.sl 3 B.Land.length)), (61, V.i (B.Land.length : Int)), (62, V.i (x : Int))])
        (fun x => [⟨0, .ro 0, B.Land.map C.bool⟩, ⟨1, .ro 0, shareC B.Share⟩, ⟨3, .vec 4 1, (seenL B i m).map C.bool⟩, ⟨6, .vec 3 1, (reachL B i m x).map C.i⟩]) 7 (fun x => B.Share.length - x) 0 (R0 := [(6, none)]) ?_ ?_ ?_
      · exact Nat.zero_le _
      · skip
        refine ⟨?_, ?_, rfl, rfl, Nat.le_of_ble_eq_true rfl⟩
        · repeat (first | exact trivial | refine And.intro (covS_syn (by first | rfl) rfl (by first | exact trivial | exact Nat.le_of_ble_eq_true rfl)) ?_ | refine And.intro (covS_bool rfl rfl (by first | rfl)) ?_)
        · repeat (first | exact trivial | refine And.intro (covE_nil rfl (Nat.le_of_ble_eq_true rfl) rfl rfl) ?_ | refine And.intro (covE_some rfl (Nat.le_of_ble_eq_true rfl) (by first | exact wf_ints _ _ | exact wf_bools _ _ | exact wf_shares _ _ | simp [C.wf]) rfl (by first | exact ren_ints _ _ | exact ren_bools _ _ | exact ren_shares _ _ | (refine (ren_ints _ _).trans (congrArg some ?_); fail) | rfl)) ?_)
      · rintro x hx
        refine vc_ok tok ?_
        by_cases hxl : x < B.Share.length
        · have hxl' : (x : Int) < (B.Land.length : Int) := by omega
          have hxs : x < (seenL B i m).length := by omega
          have hg : (seenL B i m).getD x false = reachB B i m x := seenL_get hxl
          have hle := reachL_le B i m x
          have hlc : ((seenL B i m).map C.bool).length = B.Share.length := by rw [List.length_map, seenL_len]
          rcases bool_or ((seenL B i m).getD x false) with hs | hs
          · have hr : reachB B i m x = false := by rw [← hg, hs]
            repeat ((conv => whnf); first
                | (refine And.intro (by first | omega | exact Nat.le_of_ble_eq_true rfl | (dsimp only [inK]; omega) | (simp only [mulS_eq]; omega) | (simp only [mulS_eq, setL_length]; omega) | (simp only [setL_length, List.length_map]; omega) | exact ⟨by omega, by omega, by first | exact Nat.le_of_ble_eq_true rfl | (dsimp only; omega) | (simp only [setL_length]; omega) | (simp only [setL_length, List.length_map]; omega)⟩ | exact ⟨by omega, by first | rfl | omega, by omega, Nat.le_of_ble_eq_true rfl, Nat.le_of_ble_eq_true rfl⟩ | exact ⟨rfl, rfl, rfl, Nat.le_of_ble_eq_true rfl, by first | rfl | omega | exact Nat.le_of_ble_eq_true rfl | (simp; done) | (simp; omega), by first | rfl | omega | exact Nat.le_of_ble_eq_true rfl | (simp; done) | (simp; omega), by omega, Nat.le_of_ble_eq_true rfl⟩ | exact Eq.refl true) ?_)
                | (with_reducible refine ld (boolL hxs) ?_)
                | (refine Exists.intro _ (And.intro rfl ?_))
                | (refine br_t (by omega) ?_)
                | (refine br_f (by omega) ?_)
                | (refine bs_t (by omega) ?_)
                | (refine bs_f (by omega) ?_)
                | (refine fun (K' : K3) hK' => ?_)
                | (refine hK' _ _ _ ?_; clear hK' K')
                | (refine draw_auto tok mixed (by kernel_rfl) ?_)
                | (refine br_bf hs ?_)
                | (refine bs_bf hs ?_)
                | (refine And.intro (And.intro rfl rfl) ?_))
            refine ⟨x + 1, [], by omega, by omega, ?_⟩
            rw [reachL_no hr]
            refine ⟨?_, ?_, rfl, rfl, Nat.le_of_ble_eq_true rfl⟩
            · repeat (first | exact trivial | refine And.intro (covS_syn (by first | rfl) rfl (by first | exact trivial | exact Nat.le_of_ble_eq_true rfl)) ?_ | refine And.intro (covS_bool rfl rfl (by first | rfl)) ?_)
            · repeat (first | exact trivial | refine And.intro (covE_id (Nat.le_of_ble_eq_true rfl) (by first | exact wf_ints _ _ | exact wf_bools _ _ | exact wf_shares _ _ | simp [C.wf]) rfl (by first | rfl | (fail))) ?_)
          · have hr : reachB B i m x = true := by rw [← hg, hs]
            have hrow := yes_row hr
            have hlen := yes_len hr
            repeat ((conv => whnf); first
                | (refine And.intro (by first | omega | exact Nat.le_of_ble_eq_true rfl | (dsimp only [inK]; omega) | (simp only [mulS_eq]; omega) | (simp only [mulS_eq, setL_length]; omega) | (simp only [setL_length, List.length_map]; omega) | exact ⟨by omega, by omega, by first | exact Nat.le_of_ble_eq_true rfl | (dsimp only; omega) | (simp only [setL_length]; omega) | (simp only [setL_length, List.length_map]; omega)⟩ | exact ⟨by omega, by first | rfl | omega, by omega, Nat.le_of_ble_eq_true rfl, Nat.le_of_ble_eq_true rfl⟩ | exact ⟨rfl, rfl, rfl, Nat.le_of_ble_eq_true rfl, by first | rfl | omega | exact Nat.le_of_ble_eq_true rfl | (simp; done) | (simp; omega), by first | rfl | omega | exact Nat.le_of_ble_eq_true rfl | (simp; done) | (simp; omega), by omega, Nat.le_of_ble_eq_true rfl⟩ | exact Eq.refl true) ?_)
                | (with_reducible refine ld (boolL hxs) ?_)
                | (refine Exists.intro _ (And.intro rfl ?_))
                | (refine br_t (by omega) ?_)
                | (refine br_f (by omega) ?_)
                | (refine bs_t (by omega) ?_)
                | (refine bs_f (by omega) ?_)
                | (refine fun (K' : K3) hK' => ?_)
                | (refine hK' _ _ _ ?_; clear hK' K')
                | (refine draw_auto tok mixed (by kernel_rfl) ?_)
                | (refine br_bt hs ?_)
                | (refine bs_bt hs ?_)
                | (refine And.intro (And.intro rfl rfl) ?_))
            refine ⟨x + 1, [(6, some 8)], by omega, by omega, ?_⟩
            rw [hlen]
            refine ⟨?_, ?_, rfl, rfl, Nat.le_of_ble_eq_true rfl⟩
            · repeat (first | exact trivial | refine And.intro (covS_syn (by first | rfl) rfl (by first | exact trivial | exact Nat.le_of_ble_eq_true rfl)) ?_ | refine And.intro (covS_bool rfl rfl (by first | rfl)) ?_)
            · repeat (first | exact trivial | refine And.intro (covE_nil rfl (Nat.le_of_ble_eq_true rfl) rfl rfl) ?_ | refine And.intro (covE_some rfl (Nat.le_of_ble_eq_true rfl) (by first | exact wf_ints _ _ | exact wf_bools _ _ | exact wf_shares _ _ | simp [C.wf]) rfl (by first | exact ren_ints _ _ | exact ren_bools _ _ | exact ren_shares _ _ | (refine (ren_ints _ _).trans (congrArg some ?_); exact hrow) | rfl)) ?_)
        · obtain rfl : x = B.Share.length := by omega
          have hxl' : ¬ ((B.Share.length : Int) < (B.Land.length : Int)) := by omega
          repeat ((conv => whnf); first
              | (refine And.intro (by first | omega | exact Nat.le_of_ble_eq_true rfl | (dsimp only [inK]; omega) | (simp only [mulS_eq]; omega) | (simp only [mulS_eq, setL_length]; omega) | (simp only [setL_length, List.length_map]; omega) | exact ⟨by omega, by omega, by first | exact Nat.le_of_ble_eq_true rfl | (dsimp only; omega) | (simp only [setL_length]; omega) | (simp only [setL_length, List.length_map]; omega)⟩ | exact ⟨by omega, by first | rfl | omega, by omega, Nat.le_of_ble_eq_true rfl, Nat.le_of_ble_eq_true rfl⟩ | exact ⟨rfl, rfl, rfl, Nat.le_of_ble_eq_true rfl, by first | rfl | omega | exact Nat.le_of_ble_eq_true rfl | (simp; done) | (simp; omega), by first | rfl | omega | exact Nat.le_of_ble_eq_true rfl | (simp; done) | (simp; omega), by omega, Nat.le_of_ble_eq_true rfl⟩ | exact Eq.refl true) ?_)
              | (refine Exists.intro _ (And.intro rfl ?_))
              | (refine br_t (by omega) ?_)
              | (refine br_f (by omega) ?_)
              | (refine bs_t (by omega) ?_)
              | (refine bs_f (by omega) ?_)
              | (refine fun (K' : K3) hK' => ?_)
              | (refine hK' _ _ _ ?_; clear hK' K')
              | (refine draw_auto tok mixed (by kernel_rfl) ?_)
              | (refine And.intro (And.intro rfl rfl) ?_))
          exact .inr ⟨6, rfl, rfl⟩
end Go.Proofs.Ytnafllhgjidbkaa

/- Source and Reach, as their callers see them. -/
namespace Go.Proofs.Ytnafllhgjidbkaa
open Go.RowKit
set_option linter.unusedVariables false
set_option linter.unusedSimpArgs false
section
variable {B : Bay} {i n : Int} {w : World} {v : Value}
theorem bay_hp {la sa : Option Addr} {lc sc : Nat} (hl : BoolsAt w la B.Land) (hsh : FivesAt w sa B.Share) : Hp w.heap.size (fun l => match l with | 0 => (la, lc) | _ => (sa, sc)) w [⟨0, .ro 0, B.Land.map C.bool⟩, ⟨1, .ro 0, shareC B.Share⟩] 2 := by
  refine Hp.ros (fun e he => ?_) rfl
  simp only [List.mem_cons, List.not_mem_nil, or_false] at he
  rcases he with rfl | rfl
  · exact ⟨rfl, by simp, wf_bools _ _, by rw [den_bools]; exact hl⟩
  · exact ⟨rfl, by simp, wf_shares _ _, by rw [den_shares]; exact hsh⟩
theorem Source_any (hv : BayAt w v B) (hii : -9223372036854775808 ≤ i ∧ i ≤ 9223372036854775807) (hnn : -9223372036854775808 ≤ n ∧ n ≤ 9223372036854775807) :
    Calls Try.prog 53 #[v, .int .i64 i, .int .i64 n] w fun e w' => e = .returned (.tuple #[.int .i64 (srcI B i n), .int .i64 (srcE B i n)]) ∧ Below w.heap.size w w' := by
  obtain ⟨la, lc, sa, sc, rfl, hl, hsh, hll, hsl⟩ := hv
  have h := source_spec B i n hll hsl hii hnn _ w (bay_hp (lc := lc) (sc := sc) hl hsh) (by
    intro v hv
    simp only [List.mem_cons, List.not_mem_nil, or_false] at hv
    rcases hv with rfl | rfl | rfl <;> simp [V.wf, A.wf, C.wf, C.i])
  refine (show Calls Try.prog 53 #[.agg #[.int .i64 B.W, .int .i64 B.H, .slice la B.Land.length lc, .slice sa B.Share.length sc], .int .i64 i, .int .i64 n] w _ from h).mono ?_
  rintro e w' ⟨v, ρ', L', nx', rfl, h1, h2, h3, h4, h5, h6⟩
  exact ⟨by rw [h6 ρ']; rfl, h4⟩
theorem rSource_any (hv : BayAt w v B) (hii : -9223372036854775808 ≤ i ∧ i ≤ 9223372036854775807) (hnn : -9223372036854775808 ≤ n ∧ n ≤ 9223372036854775807) :
    Calls Try.prog 54 #[v, .int .i64 i, .int .i64 n] w fun e w' => e = .returned (.tuple #[.int .i64 (srcI B i n), .int .i64 (srcE B i n)]) ∧ Below w.heap.size w w' := by
  obtain ⟨la, lc, sa, sc, rfl, hl, hsh, hll, hsl⟩ := hv
  have h := rsource_spec B i n hll hsl hii hnn _ w (bay_hp (lc := lc) (sc := sc) hl hsh) (by
    intro v hv
    simp only [List.mem_cons, List.not_mem_nil, or_false] at hv
    rcases hv with rfl | rfl | rfl <;> simp [V.wf, A.wf, C.wf, C.i])
  refine (show Calls Try.prog 54 #[.agg #[.int .i64 B.W, .int .i64 B.H, .slice la B.Land.length lc, .slice sa B.Share.length sc], .int .i64 i, .int .i64 n] w _ from h).mono ?_
  rintro e w' ⟨v, ρ', L', nx', rfl, h1, h2, h3, h4, h5, h6⟩
  exact ⟨by rw [h6 ρ']; rfl, h4⟩
def RchW (w : World) (l : List Int) (Er : Int) (e : Ending) (w' : World) : Prop := ∃ ao c, e = .returned (.tuple #[.slice ao l.length c, .int .i64 Er]) ∧ IntsAt w' ao l ∧ (∀ a, ao = some a → w.heap.size ≤ a.block) ∧ Below w.heap.size w w'
theorem RchW_of {w' : World} {nx : Nat} {ρ : Env} {l : List Int} {Er : Int} {v : V} {L : List E} (hq : intsQ l Er v L) (hp : Hp w.heap.size ρ w' L nx) (hb : Below w.heap.size w w') : RchW w l Er (.returned (v.den ρ)) w' := by
  obtain ⟨o, rfl, ⟨rfl, h⟩ | ⟨lab, rfl, hf⟩⟩ := hq
  · refine ⟨none, 0, by rw [h]; rfl, ?_, by simp, hb⟩
    intro hc; rw [h] at hc; exact absurd rfl hc
  · obtain ⟨g1, g2⟩ := hp.row hf
    rw [den_ints] at g1
    exact ⟨(ρ lab).1, (ρ lab).2, rfl, g1, fun a ha => g2 rfl a ha, hb⟩
theorem Reach_any (hv : BayAt w v B) (hii : -9223372036854775808 ≤ i ∧ i ≤ 9223372036854775807) (hnn : -9223372036854775808 ≤ n ∧ n ≤ 9223372036854775807) :
    Calls Try.prog 55 #[v, .int .i64 i, .int .i64 n] w (RchW w (rchL B i n) (placE B i false n)) := by
  obtain ⟨la, lc, sa, sc, rfl, hl, hsh, hll, hsl⟩ := hv
  have h := reach_spec B i n hll hsl hii hnn _ w (bay_hp (lc := lc) (sc := sc) hl hsh) (by
    intro v hv
    simp only [List.mem_cons, List.not_mem_nil, or_false] at hv
    rcases hv with rfl | rfl | rfl <;> simp [V.wf, A.wf, C.wf, C.i])
  refine (show Calls Try.prog 55 #[.agg #[.int .i64 B.W, .int .i64 B.H, .slice la B.Land.length lc, .slice sa B.Share.length sc], .int .i64 i, .int .i64 n] w _ from h).mono ?_
  rintro e w' ⟨v, ρ', L', nx', rfl, h1, h2, h3, h4, h5, h6⟩
  exact RchW_of h6 h5 h4
theorem rReach_any (hv : BayAt w v B) (hii : -9223372036854775808 ≤ i ∧ i ≤ 9223372036854775807) (hnn : -9223372036854775808 ≤ n ∧ n ≤ 9223372036854775807) :
    Calls Try.prog 56 #[v, .int .i64 i, .int .i64 n] w (RchW w (rchL B i n) (placE B i false n)) := by
  obtain ⟨la, lc, sa, sc, rfl, hl, hsh, hll, hsl⟩ := hv
  have h := rreach_spec B i n hll hsl hii hnn _ w (bay_hp (lc := lc) (sc := sc) hl hsh) (by
    intro v hv
    simp only [List.mem_cons, List.not_mem_nil, or_false] at hv
    rcases hv with rfl | rfl | rfl <;> simp [V.wf, A.wf, C.wf, C.i])
  refine (show Calls Try.prog 56 #[.agg #[.int .i64 B.W, .int .i64 B.H, .slice la B.Land.length lc, .slice sa B.Share.length sc], .int .i64 i, .int .i64 n] w _ from h).mono ?_
  rintro e w' ⟨v, ρ', L', nx', rfl, h1, h2, h3, h4, h5, h6⟩
  exact RchW_of h6 h5 h4
end
section
variable {n0 nx a b c d : Nat} {ka kb kc kd : Kd} {L : List E} {K : V → List E → Nat → Prop} {B : Bay} {i n : Int}
theorem Source_k (hll : B.Land.length ≤ 100) (hsl : B.Share.length ≤ 100) (hii : -9223372036854775808 ≤ i ∧ i ≤ 9223372036854775807) (hnn : -9223372036854775808 ≤ n ∧ n ≤ 9223372036854775807) (ha : find L a = some ⟨a, ka, B.Land.map C.bool⟩) (hb : find L b = some ⟨b, kb, shareC B.Share⟩)
    (hK : K (V.tup [A.c (C.i (srcI B i n)), A.c (C.i (srcE B i n))]) [] nx) : CallK Try.prog n0 53 [V.agg [C.i B.W, C.i B.H, C.sl a B.Land.length, C.sl b B.Share.length], V.i i, V.i n] L nx K :=
  CallK.old (u := V.tup [A.c (C.i (srcI B i n)), A.c (C.i (srcE B i n))]) (by kernel_rfl) (by simp [V.wf, A.wf, C.wf, C.i]) (fun ρ w hp => Source_any (bay_of hp ha hb hll hsl) hii hnn) hK
theorem rSource_k (hll : B.Land.length ≤ 100) (hsl : B.Share.length ≤ 100) (hii : -9223372036854775808 ≤ i ∧ i ≤ 9223372036854775807) (hnn : -9223372036854775808 ≤ n ∧ n ≤ 9223372036854775807) (ha : find L a = some ⟨a, ka, B.Land.map C.bool⟩) (hb : find L b = some ⟨b, kb, shareC B.Share⟩)
    (hK : K (V.tup [A.c (C.i (srcI B i n)), A.c (C.i (srcE B i n))]) [] nx) : CallK Try.prog n0 54 [V.agg [C.i B.W, C.i B.H, C.sl a B.Land.length, C.sl b B.Share.length], V.i i, V.i n] L nx K :=
  CallK.old (u := V.tup [A.c (C.i (srcI B i n)), A.c (C.i (srcE B i n))]) (by kernel_rfl) (by simp [V.wf, A.wf, C.wf, C.i]) (fun ρ w hp => rSource_any (bay_of hp ha hb hll hsl) hii hnn) hK
theorem Worst_k (hll : B.Land.length ≤ 100) (hsl : B.Share.length ≤ 100) (hii : -9223372036854775808 ≤ i ∧ i ≤ 9223372036854775807) (hnn : -9223372036854775808 ≤ n ∧ n ≤ 9223372036854775807) (ha : find L a = some ⟨a, ka, B.Land.map C.bool⟩) (hb : find L b = some ⟨b, kb, shareC B.Share⟩)
    (hK : K (V.tup [A.c (C.i (worstI B i n)), A.c (C.i (worstE B i n))]) [] nx) : CallK Try.prog n0 51 [V.agg [C.i B.W, C.i B.H, C.sl a B.Land.length, C.sl b B.Share.length], V.i i, V.i n] L nx K :=
  CallK.old (u := V.tup [A.c (C.i (worstI B i n)), A.c (C.i (worstE B i n))]) (by kernel_rfl) (by simp [V.wf, A.wf, C.wf, C.i]) (fun ρ w hp => Worst_any _ B i n w (bay_of hp ha hb hll hsl) hii hnn) hK
theorem rWorst_k (hll : B.Land.length ≤ 100) (hsl : B.Share.length ≤ 100) (hii : -9223372036854775808 ≤ i ∧ i ≤ 9223372036854775807) (hnn : -9223372036854775808 ≤ n ∧ n ≤ 9223372036854775807) (ha : find L a = some ⟨a, ka, B.Land.map C.bool⟩) (hb : find L b = some ⟨b, kb, shareC B.Share⟩)
    (hK : K (V.tup [A.c (C.i (worstI B i n)), A.c (C.i (worstE B i n))]) [] nx) : CallK Try.prog n0 52 [V.agg [C.i B.W, C.i B.H, C.sl a B.Land.length, C.sl b B.Share.length], V.i i, V.i n] L nx K :=
  CallK.old (u := V.tup [A.c (C.i (worstI B i n)), A.c (C.i (worstE B i n))]) (by kernel_rfl) (by simp [V.wf, A.wf, C.wf, C.i]) (fun ρ w hp => rWorst_any _ B i n w (bay_of hp ha hb hll hsl) hii hnn) hK
theorem Reach_k (hll : B.Land.length ≤ 100) (hsl : B.Share.length ≤ 100) (hii : -9223372036854775808 ≤ i ∧ i ≤ 9223372036854775807) (hnn : -9223372036854775808 ≤ n ∧ n ≤ 9223372036854775807) (ha : find L a = some ⟨a, ka, B.Land.map C.bool⟩) (hb : find L b = some ⟨b, kb, shareC B.Share⟩)
    (hK : K (V.tup [A.c (C.sl nx (rchL B i n).length), A.c (C.i (placE B i false n))]) [⟨nx, .ro 0, (rchL B i n).map C.i⟩] (nx + 1)) : CallK Try.prog n0 55 [V.agg [C.i B.W, C.i B.H, C.sl a B.Land.length, C.sl b B.Share.length], V.i i, V.i n] L nx K := by
  refine CallK.oldRo (l := rchL B i n) (u := V.tup [A.c (C.sl nx (rchL B i n).length), A.c (C.i (placE B i false n))]) (by kernel_rfl) (by simp [V.wf, A.wf, C.wf, C.i]) (fun ρ w hp => (Reach_any (bay_of hp ha hb hll hsl) hii hnn).mono ?_) hK
  rintro e w' ⟨ao, cc, rfl, h1, h2, h3⟩
  exact ⟨ao, cc, by simp [V.den, A.den, C.den, C.i, Env.put_same], h1, h2, h3⟩
theorem rReach_k (hll : B.Land.length ≤ 100) (hsl : B.Share.length ≤ 100) (hii : -9223372036854775808 ≤ i ∧ i ≤ 9223372036854775807) (hnn : -9223372036854775808 ≤ n ∧ n ≤ 9223372036854775807) (ha : find L a = some ⟨a, ka, B.Land.map C.bool⟩) (hb : find L b = some ⟨b, kb, shareC B.Share⟩)
    (hK : K (V.tup [A.c (C.sl nx (rchL B i n).length), A.c (C.i (placE B i false n))]) [⟨nx, .ro 0, (rchL B i n).map C.i⟩] (nx + 1)) : CallK Try.prog n0 56 [V.agg [C.i B.W, C.i B.H, C.sl a B.Land.length, C.sl b B.Share.length], V.i i, V.i n] L nx K := by
  refine CallK.oldRo (l := rchL B i n) (u := V.tup [A.c (C.sl nx (rchL B i n).length), A.c (C.i (placE B i false n))]) (by kernel_rfl) (by simp [V.wf, A.wf, C.wf, C.i]) (fun ρ w hp => (rReach_any (bay_of hp ha hb hll hsl) hii hnn).mono ?_) hK
  rintro e w' ⟨ao, cc, rfl, h1, h2, h3⟩
  exact ⟨ao, cc, by simp [V.den, A.den, C.den, C.i, Env.put_same], h1, h2, h3⟩
theorem sameInts_k {l : List Int} (hn : l.length ≤ 1000000) (hc : find L c = some ⟨c, kc, l.map C.i⟩) (hd : find L d = some ⟨d, kd, l.map C.i⟩) (hK : K (V.c (.bool (sameB l l))) [] nx) :
    CallK Try.prog n0 29 [V.c (.sl c l.length), V.c (.sl d l.length)] L nx K :=
  CallK.old (u := V.c (.bool (sameB l l))) (by kernel_rfl) trivial (fun ρ w hp => sameInts_any _ _ _ _ l l w (ints_of hp hc) (ints_of hp hd) hn hn) hK
theorem has_k {l : List Int} {x : Int} (hn : l.length ≤ 1000) (hc : find L c = some ⟨c, kc, l.map C.i⟩) (hK : K (V.c (.bool (l.contains x))) [] nx) : CallK Try.prog n0 57 [V.c (.sl c l.length), V.i x] L nx K :=
  CallK.old (u := V.c (.bool (l.contains x))) (by kernel_rfl) trivial (fun ρ w hp => has_any _ _ l x w (ints_of hp hc) hn) hK
end
theorem rchL_le (B : Bay) (i n : Int) : (rchL B i n).length ≤ B.Share.length := by
  unfold rchL; split
  · exact reachL_le _ _ _ _
  · simp
end Go.Proofs.Ytnafllhgjidbkaa

/- The law of the worst cell, the source and the reach. -/
namespace Go.Proofs.Ytnafllhgjidbkaa
open Go.RowKit
set_option linter.unusedVariables false
set_option linter.unusedSimpArgs false
set_option maxRecDepth 100000 in
theorem worst_spec (B : Bay) (i n : Int) (hii : -9223372036854775808 ≤ i ∧ i ≤ 9223372036854775807) (hnn : -9223372036854775808 ≤ n ∧ n ≤ 9223372036854775807) :
    Spec Try.prog 13 [V.agg [C.i B.W, C.i B.H, C.sl 0 B.Land.length, C.sl 1 B.Share.length], V.i i, V.i n] [⟨0, .ro 0, B.Land.map C.bool⟩, ⟨1, .ro 0, shareC B.Share⟩] 2 (Is (V.c (.bool true))) := by
  by_cases hL : 100 < B.Land.length ∨ 100 < B.Share.length
  · have hL' : decide (100 < B.Land.length ∨ 100 < B.Share.length) = true := decide_eq_true hL
    refine Spec.of tok Try.func13 rfl rfl rfl fun n0 => vc_ok tok ?_
    repeat ((conv => whnf); first
        | (refine And.intro (by first | omega | exact Nat.le_of_ble_eq_true rfl | (dsimp only [inK]; omega) | (simp only [mulS_eq]; omega) | (simp only [mulS_eq, setL_length]; omega) | (simp only [setL_length, List.length_map]; omega) | exact ⟨by omega, by omega, by first | exact Nat.le_of_ble_eq_true rfl | (dsimp only; omega) | (simp only [setL_length]; omega) | (simp only [setL_length, List.length_map]; omega)⟩ | exact ⟨by omega, by first | rfl | omega, by omega, Nat.le_of_ble_eq_true rfl, Nat.le_of_ble_eq_true rfl⟩ | exact ⟨rfl, rfl, rfl, Nat.le_of_ble_eq_true rfl, by first | rfl | omega | exact Nat.le_of_ble_eq_true rfl | (simp; done) | (simp; omega), by first | rfl | omega | exact Nat.le_of_ble_eq_true rfl | (simp; done) | (simp; omega), by omega, Nat.le_of_ble_eq_true rfl⟩ | exact Eq.refl true) ?_)
        | (refine Exists.intro _ (And.intro rfl ?_))
        | (refine br_t (by omega) ?_)
        | (refine br_f (by omega) ?_)
        | (refine bs_t (by omega) ?_)
        | (refine bs_f (by omega) ?_)
        | (refine fun (K' : K3) hK' => ?_)
        | (refine hK' _ _ _ ?_; clear hK' K')
        | (refine draw_auto tok mixed (by kernel_rfl) ?_)
        | (refine Long_k B ?_)
        | (refine Sane_k ?_)
        | (refine bs_bt hL' ?_)
        | (refine br_bt hL' ?_)
        | (refine And.intro (And.intro rfl rfl) ?_))
    intro ρ; rfl
  have hL' : decide (100 < B.Land.length ∨ 100 < B.Share.length) = false := decide_eq_false hL
  have hll : B.Land.length ≤ 100 := by omega
  have hsl : B.Share.length ≤ 100 := by omega
  have hr := rchL_le B i n
  have hs : sameB (rchL B i n) (rchL B i n) = true := by simp [sameB]
  refine Spec.of tok Try.func13 rfl rfl rfl fun n0 => vc_ok tok ?_
  repeat ((conv => whnf); first
      | (refine And.intro (by first | omega | exact Nat.le_of_ble_eq_true rfl | (dsimp only [inK]; omega) | (simp only [mulS_eq]; omega) | (simp only [mulS_eq, setL_length]; omega) | (simp only [setL_length, List.length_map]; omega) | exact ⟨by omega, by omega, by first | exact Nat.le_of_ble_eq_true rfl | (dsimp only; omega) | (simp only [setL_length]; omega) | (simp only [setL_length, List.length_map]; omega)⟩ | exact ⟨by omega, by first | rfl | omega, by omega, Nat.le_of_ble_eq_true rfl, Nat.le_of_ble_eq_true rfl⟩ | exact ⟨rfl, rfl, rfl, Nat.le_of_ble_eq_true rfl, by first | rfl | omega | exact Nat.le_of_ble_eq_true rfl | (simp; done) | (simp; omega), by first | rfl | omega | exact Nat.le_of_ble_eq_true rfl | (simp; done) | (simp; omega), by omega, Nat.le_of_ble_eq_true rfl⟩ | exact Eq.refl true) ?_)
      | (refine Exists.intro _ (And.intro rfl ?_))
      | (refine br_t (by omega) ?_)
      | (refine br_f (by omega) ?_)
      | (refine bs_t (by omega) ?_)
      | (refine bs_f (by omega) ?_)
      | (refine fun (K' : K3) hK' => ?_)
      | (refine hK' _ _ _ ?_; clear hK' K')
      | (refine draw_auto tok mixed (by kernel_rfl) ?_)
      | (refine Long_k B ?_)
      | (refine bs_bf hL' ?_)
      | (refine br_bf hL' ?_)
      | (refine Worst_k hll hsl hii hnn rfl rfl ?_)
      | (refine rWorst_k hll hsl hii hnn rfl rfl ?_)
      | (refine Source_k hll hsl hii hnn rfl rfl ?_)
      | (refine rSource_k hll hsl hii hnn rfl rfl ?_)
      | (refine Reach_k hll hsl hii hnn rfl rfl ?_)
      | (refine rReach_k hll hsl hii hnn rfl rfl ?_)
      | (refine sameInts_k (l := rchL B i n) (by omega) rfl rfl ?_)
      | (refine bs_bt hs ?_)
      | (refine br_bt hs ?_)
      | (refine Sane_k ?_)
      | (refine And.intro (And.intro rfl rfl) ?_))
  intro ρ; rfl
theorem worst_any (B : Bay) (i n : Int) (la sa : Option Addr) (lc sc : Nat) (w : World) (hl : BoolsAt w la B.Land) (hsh : FivesAt w sa B.Share) (hii : -9223372036854775808 ≤ i ∧ i ≤ 9223372036854775807) (hnn : -9223372036854775808 ≤ n ∧ n ≤ 9223372036854775807) :
    Calls Try.prog 13 #[.agg #[.int .i64 B.W, .int .i64 B.H, .slice la B.Land.length lc, .slice sa B.Share.length sc], .int .i64 i, .int .i64 n] w fun e w' => e = .returned (.bool true) ∧ Below w.heap.size w w' := by
  have h := worst_spec B i n hii hnn _ w (bay_hp (lc := lc) (sc := sc) hl hsh) (by
    intro v hv
    simp only [List.mem_cons, List.not_mem_nil, or_false] at hv
    rcases hv with rfl | rfl | rfl <;> simp [V.wf, A.wf, C.wf, C.i])
  refine (show Calls Try.prog 13 #[.agg #[.int .i64 B.W, .int .i64 B.H, .slice la B.Land.length lc, .slice sa B.Share.length sc], .int .i64 i, .int .i64 n] w _ from h).mono ?_
  rintro e w' ⟨v, ρ', L', nx', rfl, h1, h2, h3, h4, h5, h6⟩
  exact ⟨by rw [h6 ρ']; rfl, h4⟩
end Go.Proofs.Ytnafllhgjidbkaa

