/- The great law of slicks. -/
import Derived.Test.YtnafllhgjidbkaaT33
import Derived.Test.YtnafllhgjidbkaaL12
import Derived.Deep.RegionHeld3
import Derived.Deep.Cut
namespace Go.Proofs.Ytnafllhgjidbkaa
open Go.RowKit Go.Shelf
set_option linter.unusedVariables false
set_option linter.unusedSimpArgs false
set_option maxRecDepth 100000 in
set_option maxHeartbeats 40000000 in
theorem top_any (B : Bay) (s t : Slk) (l : List Int) (la sa ao bo po : Option Addr) (lc sc c d pc : Nat) (w : World) (hl : BoolsAt w la B.Land) (hsh : FivesAt w sa B.Share) (hi : IntsAt w ao s.Oil) (hj : IntsAt w bo t.Oil) (hp : IntsAt w po l) :
    Calls Try.prog 10 #[.agg #[.int .i64 B.W, .int .i64 B.H, .slice la B.Land.length lc, .slice sa B.Share.length sc], .agg #[.int .i64 s.K, .slice ao s.Oil.length c, .int .i64 s.Away, .int .i64 t.K, .slice bo t.Oil.length d, .int .i64 t.Away], .slice po l.length pc] w fun e w' => e = .returned (.bool true) ∧ Below w.heap.size w w' := by
  have HLo := fun W => Long_any B W la sa lc sc
  have HI := Lib.hid (fun W (h : Below w.heap.size w W) => hi.below (Nat.le_refl _) h)
  have HJ := Lib.hid (fun W (h : Below w.heap.size w W) => hj.below (Nat.le_refl _) h)
  have HP := Lib.hid (fun W (h : Below w.heap.size w W) => hp.below (Nat.le_refl _) h)
  have FF := Lib.hid (two_new (w := w) #[.int .i64 B.W, .int .i64 B.H, .slice la B.Land.length lc, .slice sa B.Share.length sc] #[.int .i64 s.K, .slice ao s.Oil.length c, .int .i64 s.Away, .int .i64 t.K, .slice bo t.Oil.length d, .int .i64 t.Away] 25 56)
  have HLO := Lib.hid HLo
  have HLD := Lib.hid hl
  have HSH := Lib.hid hsh
  clear HLo hl hsh
  clear hi hj hp
  go_enter Try.func10, Try.ntmps10
  go_wp2_with fail
  generalize hW : ((w.alloc _).alloc _) = W at *
  clear hW
  obtain ⟨f0, f1, f2, f3⟩ := FF.out
  clear FF
  obtain ⟨x0, hx0⟩ : ∃ x : Aft W, x.val = W := ⟨⟨W, Below.refl _ W⟩, rfl⟩
  have F0 : Hid (Below w.heap.size w W) := f0
  have FZ : Hid (W.heap.size = w.heap.size + 2) := f1
  have FZ0 := Lib.hid (show x0.val.heap.size = w.heap.size + 2 by rw [hx0]; exact f1)
  have G0 : Hid (W.heap[w.heap.size]? = some (.cells #[.int .i64 B.W, .int .i64 B.H, .slice la B.Land.length lc, .slice sa B.Share.length sc] 25 (0, 0))) := f2
  have d0_0 : ∀ x : Aft W, x.val.cell? ⟨w.heap.size, 0, none⟩ = some (.int .i64 B.W) := fun x => cell_of_heap (x.heapH f2) 0
  have d0_1 : ∀ x : Aft W, x.val.cell? ⟨w.heap.size, 1, none⟩ = some (.int .i64 B.H) := fun x => cell_of_heap (x.heapH f2) 1
  have d0_2 : ∀ x : Aft W, x.val.cell? ⟨w.heap.size, 2, none⟩ = some (.slice la B.Land.length lc) := fun x => cell_of_heap (x.heapH f2) 2
  have d0_3 : ∀ x : Aft W, x.val.cell? ⟨w.heap.size, 3, none⟩ = some (.slice sa B.Share.length sc) := fun x => cell_of_heap (x.heapH f2) 3
  have e0_0 : ∀ (x : Aft W) (o : Obj), (x.val.alloc o).cell? ⟨w.heap.size, 0, none⟩ = some (.int .i64 B.W) := fun x o => cell_of_heap (heap_alloc_old (x.heapH f2) o) 0
  have e0_1 : ∀ (x : Aft W) (o : Obj), (x.val.alloc o).cell? ⟨w.heap.size, 1, none⟩ = some (.int .i64 B.H) := fun x o => cell_of_heap (heap_alloc_old (x.heapH f2) o) 1
  have e0_2 : ∀ (x : Aft W) (o : Obj), (x.val.alloc o).cell? ⟨w.heap.size, 2, none⟩ = some (.slice la B.Land.length lc) := fun x o => cell_of_heap (heap_alloc_old (x.heapH f2) o) 2
  have e0_3 : ∀ (x : Aft W) (o : Obj), (x.val.alloc o).cell? ⟨w.heap.size, 3, none⟩ = some (.slice sa B.Share.length sc) := fun x o => cell_of_heap (heap_alloc_old (x.heapH f2) o) 3
  have G1 : Hid (W.heap[w.heap.size + 1]? = some (.cells #[.int .i64 s.K, .slice ao s.Oil.length c, .int .i64 s.Away, .int .i64 t.K, .slice bo t.Oil.length d, .int .i64 t.Away] 56 (0, 0))) := f3
  have d1_0 : ∀ x : Aft W, x.val.cell? ⟨w.heap.size + 1, 0, none⟩ = some (.int .i64 s.K) := fun x => cell_of_heap (x.heapH f3) 0
  have d1_1 : ∀ x : Aft W, x.val.cell? ⟨w.heap.size + 1, 1, none⟩ = some (.slice ao s.Oil.length c) := fun x => cell_of_heap (x.heapH f3) 1
  have d1_2 : ∀ x : Aft W, x.val.cell? ⟨w.heap.size + 1, 2, none⟩ = some (.int .i64 s.Away) := fun x => cell_of_heap (x.heapH f3) 2
  have d1_3 : ∀ x : Aft W, x.val.cell? ⟨w.heap.size + 1, 3, none⟩ = some (.int .i64 t.K) := fun x => cell_of_heap (x.heapH f3) 3
  have d1_4 : ∀ x : Aft W, x.val.cell? ⟨w.heap.size + 1, 4, none⟩ = some (.slice bo t.Oil.length d) := fun x => cell_of_heap (x.heapH f3) 4
  have d1_5 : ∀ x : Aft W, x.val.cell? ⟨w.heap.size + 1, 5, none⟩ = some (.int .i64 t.Away) := fun x => cell_of_heap (x.heapH f3) 5
  have e1_0 : ∀ (x : Aft W) (o : Obj), (x.val.alloc o).cell? ⟨w.heap.size + 1, 0, none⟩ = some (.int .i64 s.K) := fun x o => cell_of_heap (heap_alloc_old (x.heapH f3) o) 0
  have e1_1 : ∀ (x : Aft W) (o : Obj), (x.val.alloc o).cell? ⟨w.heap.size + 1, 1, none⟩ = some (.slice ao s.Oil.length c) := fun x o => cell_of_heap (heap_alloc_old (x.heapH f3) o) 1
  have e1_2 : ∀ (x : Aft W) (o : Obj), (x.val.alloc o).cell? ⟨w.heap.size + 1, 2, none⟩ = some (.int .i64 s.Away) := fun x o => cell_of_heap (heap_alloc_old (x.heapH f3) o) 2
  have e1_3 : ∀ (x : Aft W) (o : Obj), (x.val.alloc o).cell? ⟨w.heap.size + 1, 3, none⟩ = some (.int .i64 t.K) := fun x o => cell_of_heap (heap_alloc_old (x.heapH f3) o) 3
  have e1_4 : ∀ (x : Aft W) (o : Obj), (x.val.alloc o).cell? ⟨w.heap.size + 1, 4, none⟩ = some (.slice bo t.Oil.length d) := fun x o => cell_of_heap (heap_alloc_old (x.heapH f3) o) 4
  have e1_5 : ∀ (x : Aft W) (o : Obj), (x.val.alloc o).cell? ⟨w.heap.size + 1, 5, none⟩ = some (.int .i64 t.Away) := fun x o => cell_of_heap (heap_alloc_old (x.heapH f3) o) 5
  rw [← hx0]
  clear hx0 f0 f1 f2 f3
  rename_i KK hKK
  have key : Hid (∀ (b7 b8 : Nat) (x : Aft W) (u0 u1 u4 u5 u6 u9 u10 u11 u12 u13 u14 u15 u16 u17 u18 u19 u20 u21 u22 u23 u24 u25 u26 u27 u28 u29 u30 u31 u32 u33 u34 u35 u36 u37 u38 u39 u40 u41 u42 u43 u44 u45 u46 u47 u48 u49 u50 u51 u52 u53 u54 u55 u56 u57 u58 u59 u60 u61 u62 u63 u64 u65 u66 u67 u68 u69 u70 u71 u72 u73 u74 u75 u76 u77 u78 u79 u80 u81 u82 u83 u84 u85 u86 u87 u88 u89 u90 u91 u92 u93 u94 u95 u96 u97 u98 u99 u100 u101 u102 u103 u104 u105 u106 u107 u108 u109 u110 u111 u112 u113 u114 u115 u116 u117 u118 u119 u120 u121 u122 u123 u124 u125 u126 u127 u128 u129 u130 u131 u132 u133 u134 u135 u136 u137 u138 u139 u140 u141 u142 u143 u144 u145 u146 u147 u148 u149 u150 u151 u152 u153 u154 u155 u156 u157 u158 u159 u160 u161 u162 u163 u164 u165 u166 u167 u168 u169 u170 u171 u172 u173 u174 u175 u176 u177 u178 u179 u180 u181 u182 u183 u184 u185 u186 u187 u188 u189 : Value), w.heap.size + 2 ≤ b7 → w.heap.size + 2 ≤ b8 → b7 ≠ b8 → x.val.heap[b7]? = some (.cells #[.int .i64 s.K, .slice ao s.Oil.length c, .int .i64 s.Away] 28 (0, 0)) →
      x.val.heap[b8]? = some (.cells #[.int .i64 t.K, .slice bo t.Oil.length d, .int .i64 t.Away] 28 (0, 0)) → KK { tmps := List.toArray (u0 :: u1 :: (.slice po l.length pc) :: (.pointer (some ⟨w.heap.size, 0, none⟩)) :: u4 :: u5 :: u6 :: (.pointer (some ⟨b7, 0, none⟩)) :: (.pointer (some ⟨b8, 0, none⟩)) :: u9 :: u10 :: u11 :: u12 :: u13 :: u14 :: u15 :: u16 :: u17 :: u18 :: u19 :: u20 :: u21 :: u22 :: u23 :: u24 :: u25 :: u26 :: u27 :: u28 :: u29 :: u30 :: u31 :: u32 :: u33 :: u34 :: u35 :: u36 :: u37 :: u38 :: u39 :: u40 :: u41 :: u42 :: u43 :: u44 :: u45 :: u46 :: u47 :: u48 :: u49 :: u50 :: u51 :: u52 :: u53 :: u54 :: u55 :: u56 :: u57 :: u58 :: u59 :: u60 :: u61 :: u62 :: u63 :: u64 :: u65 :: u66 :: u67 :: u68 :: u69 :: u70 :: u71 :: u72 :: u73 :: u74 :: u75 :: u76 :: u77 :: u78 :: u79 :: u80 :: u81 :: u82 :: u83 :: u84 :: u85 :: u86 :: u87 :: u88 :: u89 :: u90 :: u91 :: u92 :: u93 :: u94 :: u95 :: u96 :: u97 :: u98 :: u99 :: u100 :: u101 :: u102 :: u103 :: u104 :: u105 :: u106 :: u107 :: u108 :: u109 :: u110 :: u111 :: u112 :: u113 :: u114 :: u115 :: u116 :: u117 :: u118 :: u119 :: u120 :: u121 :: u122 :: u123 :: u124 :: u125 :: u126 :: u127 :: u128 :: u129 :: u130 :: u131 :: u132 :: u133 :: u134 :: u135 :: u136 :: u137 :: u138 :: u139 :: u140 :: u141 :: u142 :: u143 :: u144 :: u145 :: u146 :: u147 :: u148 :: u149 :: u150 :: u151 :: u152 :: u153 :: u154 :: u155 :: u156 :: u157 :: u158 :: u159 :: u160 :: u161 :: u162 :: u163 :: u164 :: u165 :: u166 :: u167 :: u168 :: u169 :: u170 :: u171 :: u172 :: u173 :: u174 :: u175 :: u176 :: u177 :: u178 :: u179 :: u180 :: u181 :: u182 :: u183 :: u184 :: u185 :: u186 :: u187 :: u188 :: u189 :: []), defers := [] } x.val) := by
    intro b7 b8 x u0 u1 u4 u5 u6 u9 u10 u11 u12 u13 u14 u15 u16 u17 u18 u19 u20 u21 u22 u23 u24 u25 u26 u27 u28 u29 u30 u31 u32 u33 u34 u35 u36 u37 u38 u39 u40 u41 u42 u43 u44 u45 u46 u47 u48 u49 u50 u51 u52 u53 u54 u55 u56 u57 u58 u59 u60 u61 u62 u63 u64 u65 u66 u67 u68 u69 u70 u71 u72 u73 u74 u75 u76 u77 u78 u79 u80 u81 u82 u83 u84 u85 u86 u87 u88 u89 u90 u91 u92 u93 u94 u95 u96 u97 u98 u99 u100 u101 u102 u103 u104 u105 u106 u107 u108 u109 u110 u111 u112 u113 u114 u115 u116 u117 u118 u119 u120 u121 u122 u123 u124 u125 u126 u127 u128 u129 u130 u131 u132 u133 u134 u135 u136 u137 u138 u139 u140 u141 u142 u143 u144 u145 u146 u147 u148 u149 u150 u151 u152 u153 u154 u155 u156 u157 u158 u159 u160 u161 u162 u163 u164 u165 u166 u167 u168 u169 u170 u171 u172 u173 u174 u175 u176 u177 u178 u179 u180 u181 u182 u183 u184 u185 u186 u187 u188 u189 hb7 hb8 hne h7 h8
    apply hKK
    obtain ⟨V, hV⟩ : ∃ V, V = x.val := ⟨_, rfl⟩
    have FV : Hid (Below w.heap.size w V) := by rw [hV]; exact Aft.off F0.out x
    have g0 : V.heap[w.heap.size]? = some (.cells #[.int .i64 B.W, .int .i64 B.H, .slice la B.Land.length lc, .slice sa B.Share.length sc] 25 (0, 0)) := by rw [hV]; exact x.heapH G0.out
    have g7 : V.heap[b7]? = some (.cells #[.int .i64 s.K, .slice ao s.Oil.length c, .int .i64 s.Away] 28 (0, 0)) := by rw [hV]; exact h7
    have g8 : V.heap[b8]? = some (.cells #[.int .i64 t.K, .slice bo t.Oil.length d, .int .i64 t.Away] 28 (0, 0)) := by rw [hV]; exact h8
    have b0 : ∀ x : Aft V, x.val.cell? ⟨w.heap.size, 0, none⟩ = some (.int .i64 B.W) := fun x => cell_of_heap (x.heapH g0) 0
    have b0' : ∀ (x : Aft V) (o : Obj), (x.val.alloc o).cell? ⟨w.heap.size, 0, none⟩ = some (.int .i64 B.W) := fun x o => cell_of_heap (heap_alloc_old (x.heapH g0) o) 0
    have b1 : ∀ x : Aft V, x.val.cell? ⟨w.heap.size, 1, none⟩ = some (.int .i64 B.H) := fun x => cell_of_heap (x.heapH g0) 1
    have b1' : ∀ (x : Aft V) (o : Obj), (x.val.alloc o).cell? ⟨w.heap.size, 1, none⟩ = some (.int .i64 B.H) := fun x o => cell_of_heap (heap_alloc_old (x.heapH g0) o) 1
    have b2 : ∀ x : Aft V, x.val.cell? ⟨w.heap.size, 2, none⟩ = some (.slice la B.Land.length lc) := fun x => cell_of_heap (x.heapH g0) 2
    have b2' : ∀ (x : Aft V) (o : Obj), (x.val.alloc o).cell? ⟨w.heap.size, 2, none⟩ = some (.slice la B.Land.length lc) := fun x o => cell_of_heap (heap_alloc_old (x.heapH g0) o) 2
    have b3 : ∀ x : Aft V, x.val.cell? ⟨w.heap.size, 3, none⟩ = some (.slice sa B.Share.length sc) := fun x => cell_of_heap (x.heapH g0) 3
    have b3' : ∀ (x : Aft V) (o : Obj), (x.val.alloc o).cell? ⟨w.heap.size, 3, none⟩ = some (.slice sa B.Share.length sc) := fun x o => cell_of_heap (heap_alloc_old (x.heapH g0) o) 3
    have s0 : ∀ x : Aft V, x.val.cell? ⟨b7, 0, none⟩ = some (.int .i64 s.K) := fun x => cell_of_heap (x.heapH g7) 0
    have s0' : ∀ (x : Aft V) (o : Obj), (x.val.alloc o).cell? ⟨b7, 0, none⟩ = some (.int .i64 s.K) := fun x o => cell_of_heap (heap_alloc_old (x.heapH g7) o) 0
    have s1 : ∀ x : Aft V, x.val.cell? ⟨b7, 1, none⟩ = some (.slice ao s.Oil.length c) := fun x => cell_of_heap (x.heapH g7) 1
    have s1' : ∀ (x : Aft V) (o : Obj), (x.val.alloc o).cell? ⟨b7, 1, none⟩ = some (.slice ao s.Oil.length c) := fun x o => cell_of_heap (heap_alloc_old (x.heapH g7) o) 1
    have s2 : ∀ x : Aft V, x.val.cell? ⟨b7, 2, none⟩ = some (.int .i64 s.Away) := fun x => cell_of_heap (x.heapH g7) 2
    have s2' : ∀ (x : Aft V) (o : Obj), (x.val.alloc o).cell? ⟨b7, 2, none⟩ = some (.int .i64 s.Away) := fun x o => cell_of_heap (heap_alloc_old (x.heapH g7) o) 2
    have t0 : ∀ x : Aft V, x.val.cell? ⟨b8, 0, none⟩ = some (.int .i64 t.K) := fun x => cell_of_heap (x.heapH g8) 0
    have t0' : ∀ (x : Aft V) (o : Obj), (x.val.alloc o).cell? ⟨b8, 0, none⟩ = some (.int .i64 t.K) := fun x o => cell_of_heap (heap_alloc_old (x.heapH g8) o) 0
    have t1 : ∀ x : Aft V, x.val.cell? ⟨b8, 1, none⟩ = some (.slice bo t.Oil.length d) := fun x => cell_of_heap (x.heapH g8) 1
    have t1' : ∀ (x : Aft V) (o : Obj), (x.val.alloc o).cell? ⟨b8, 1, none⟩ = some (.slice bo t.Oil.length d) := fun x o => cell_of_heap (heap_alloc_old (x.heapH g8) o) 1
    have t2 : ∀ x : Aft V, x.val.cell? ⟨b8, 2, none⟩ = some (.int .i64 t.Away) := fun x => cell_of_heap (x.heapH g8) 2
    have t2' : ∀ (x : Aft V) (o : Obj), (x.val.alloc o).cell? ⟨b8, 2, none⟩ = some (.int .i64 t.Away) := fun x o => cell_of_heap (heap_alloc_old (x.heapH g8) o) 2
    have GB := Lib.hid g0
    have GS := Lib.hid g7
    have GT := Lib.hid g8
    rw [← hV]
    obtain ⟨x0, hx0⟩ : ∃ y : Aft V, y.val = V := ⟨⟨V, Below.refl _ V⟩, rfl⟩
    rw [← hx0]
    clear hV hx0 F0 G0 G1 FZ FZ0 h7 h8 hKK g0 g7 g8 d0_0 d0_1 d0_2 d0_3 d1_0 d1_1 d1_2 d1_3 d1_4 d1_5 e0_0 e0_1 e0_2 e0_3 e1_0 e1_1 e1_2 e1_3 e1_4 e1_5
    have F0 := FV
    clear FV
    by_cases hL : 100 < B.Land.length ∨ 100 < B.Share.length
    · have hc := HLO.out
      rw [decide_eq_true hL] at hc
      have HC := Lib.hid hc
      clear hc
      clear hL
      go_wp2_with fail
      refine (HC.out _).mono ?_
      rintro e w1 ⟨rfl, hb⟩
      obtain ⟨x1, rfl, lk0'⟩ := x0.step (hb)
      have lk0 := Lib.hid lk0'
      clear hb lk0'
      go_wp2_with fail
      refine (Sane_any _).mono ?_
      rintro e w1 ⟨rfl, hb⟩
      obtain ⟨x2, rfl, lk1'⟩ := x1.step (hb)
      have lk1 := Lib.hid lk1'
      clear hb lk1'
      go_wp2
      go_ret
      exact ⟨rfl, Aft.off F0.out x2⟩
    have hc := HLO.out
    rw [decide_eq_false hL] at hc
    have hB : BayAt w (.agg #[.int .i64 B.W, .int .i64 B.H, .slice la B.Land.length lc, .slice sa B.Share.length sc]) B := ⟨la, lc, sa, sc, rfl, HLD.out, HSH.out, by omega, by omega⟩
    have HB := Lib.hid (fun W (h : Below w.heap.size w W) => hB.below (Nat.le_refl _) h)
    have HC := Lib.hid hc
    clear hc
    clear hL hB
    by_cases hs100 : 100 < s.Oil.length
    · have hs' : (100 : Int) < s.Oil.length := by omega
      go_wp2_with fail
      refine (HC.out _).mono ?_
      rintro e w1 ⟨rfl, hb⟩
      obtain ⟨x1, rfl, lk0'⟩ := x0.step (hb)
      have lk0 := Lib.hid lk0'
      clear hb lk0'
      go_wp2_with fail
      refine (Sane_any _).mono ?_
      rintro e w1 ⟨rfl, hb⟩
      obtain ⟨x2, rfl, lk1'⟩ := x1.step (hb)
      have lk1 := Lib.hid lk1'
      clear hb lk1'
      go_wp2
      go_ret
      exact ⟨rfl, Aft.off F0.out x2⟩
    have hs' : ¬ (100 : Int) < s.Oil.length := by omega
    by_cases ht100 : 100 < t.Oil.length
    · have ht' : (100 : Int) < t.Oil.length := by omega
      go_wp2_with fail
      refine (HC.out _).mono ?_
      rintro e w1 ⟨rfl, hb⟩
      obtain ⟨x1, rfl, lk0'⟩ := x0.step (hb)
      have lk0 := Lib.hid lk0'
      clear hb lk0'
      go_wp2_with fail
      refine (Sane_any _).mono ?_
      rintro e w1 ⟨rfl, hb⟩
      obtain ⟨x2, rfl, lk1'⟩ := x1.step (hb)
      have lk1 := Lib.hid lk1'
      clear hb lk1'
      go_wp2
      go_ret
      exact ⟨rfl, Aft.off F0.out x2⟩
    have ht' : ¬ (100 : Int) < t.Oil.length := by omega
    have hsn : s.Oil.length < 1152921504606846976 := by omega
    have htn : t.Oil.length < 1152921504606846976 := by omega
    have F2 := fun W h => rvalid_any _ B W (HB.out W h)
    by_cases hval : validP B
    case neg =>
      rw [validB_false hval] at F2
      have H2 := Lib.hid F2
      clear F2
      clear hval
      go_wp2_with fail
      refine (HC.out _).mono ?_
      rintro e w1 ⟨rfl, hb⟩
      obtain ⟨x1, rfl, lk0'⟩ := x0.step (hb)
      have lk0 := Lib.hid lk0'
      clear hb lk0'
      go_wp2_with fail
      refine (H2.out _ (Aft.off F0.out x1)).mono ?_
      rintro e w1 ⟨rfl, hb⟩
      obtain ⟨x2, rfl, lk1'⟩ := x1.step (hb)
      have lk1 := Lib.hid lk1'
      clear hb lk1'
      go_wp2_with fail
      refine (Sane_any _).mono ?_
      rintro e w1 ⟨rfl, hb⟩
      obtain ⟨x3, rfl, lk2'⟩ := x2.step (hb)
      have lk2 := Lib.hid lk2'
      clear hb lk2'
      go_wp2
      go_ret
      exact ⟨rfl, Aft.off F0.out x3⟩
    rw [validB_true hval] at F2
    have F3 := fun W h => is_any _ _ B s W (HB.out W h) (⟨ao, c, rfl, HI.out W h, hsn⟩ : SlkAt W (.agg #[.int .i64 s.K, .slice ao s.Oil.length c, .int .i64 s.Away]) s) hval
    by_cases hfit : fitsP B s
    case neg =>
      rw [fitsB_false hfit] at F3
      have H2 := Lib.hid F2
      have H3 := Lib.hid F3
      clear F2 F3
      clear hval hfit
      go_wp2_with fail
      refine (HC.out _).mono ?_
      rintro e w1 ⟨rfl, hb⟩
      obtain ⟨x1, rfl, lk0'⟩ := x0.step (hb)
      have lk0 := Lib.hid lk0'
      clear hb lk0'
      go_wp2_with fail
      refine (H2.out _ (Aft.off F0.out x1)).mono ?_
      rintro e w1 ⟨rfl, hb⟩
      obtain ⟨x2, rfl, lk1'⟩ := x1.step (hb)
      have lk1 := Lib.hid lk1'
      clear hb lk1'
      go_wp2_with fail
      refine (H3.out _ (Aft.off F0.out x2)).mono ?_
      rintro e w1 ⟨rfl, hb⟩
      obtain ⟨x3, rfl, lk2'⟩ := x2.step (hb)
      have lk2 := Lib.hid lk2'
      clear hb lk2'
      go_wp2_with fail
      refine (Sane_any _).mono ?_
      rintro e w1 ⟨rfl, hb⟩
      obtain ⟨x4, rfl, lk3'⟩ := x3.step (hb)
      have lk3 := Lib.hid lk3'
      clear hb lk3'
      go_wp2
      go_ret
      exact ⟨rfl, Aft.off F0.out x4⟩
    rw [fitsB_true hfit] at F3
    have F4 := fun W h => is_any _ _ B t W (HB.out W h) (⟨bo, d, rfl, HJ.out W h, htn⟩ : SlkAt W (.agg #[.int .i64 t.K, .slice bo t.Oil.length d, .int .i64 t.Away]) t) hval
    by_cases hfitt : fitsP B t
    case neg =>
      rw [fitsB_false hfitt] at F4
      have H2 := Lib.hid F2
      have H3 := Lib.hid F3
      have H4 := Lib.hid F4
      clear F2 F3 F4
      clear hval hfit hfitt
      go_wp2_with fail
      refine (HC.out _).mono ?_
      rintro e w1 ⟨rfl, hb⟩
      obtain ⟨x1, rfl, lk0'⟩ := x0.step (hb)
      have lk0 := Lib.hid lk0'
      clear hb lk0'
      go_wp2_with fail
      refine (H2.out _ (Aft.off F0.out x1)).mono ?_
      rintro e w1 ⟨rfl, hb⟩
      obtain ⟨x2, rfl, lk1'⟩ := x1.step (hb)
      have lk1 := Lib.hid lk1'
      clear hb lk1'
      go_wp2_with fail
      refine (H3.out _ (Aft.off F0.out x2)).mono ?_
      rintro e w1 ⟨rfl, hb⟩
      obtain ⟨x3, rfl, lk2'⟩ := x2.step (hb)
      have lk2 := Lib.hid lk2'
      clear hb lk2'
      go_wp2_with fail
      refine (H4.out _ (Aft.off F0.out x3)).mono ?_
      rintro e w1 ⟨rfl, hb⟩
      obtain ⟨x4, rfl, lk3'⟩ := x3.step (hb)
      have lk3 := Lib.hid lk3'
      clear hb lk3'
      go_wp2_with fail
      refine (Sane_any _).mono ?_
      rintro e w1 ⟨rfl, hb⟩
      obtain ⟨x5, rfl, lk4'⟩ := x4.step (hb)
      have lk4 := Lib.hid lk4'
      clear hb lk4'
      go_wp2
      go_ret
      exact ⟨rfl, Aft.off F0.out x5⟩
    rw [fitsB_true hfitt] at F4
    have F5 := fun W h => arePrices_any2 _ B po pc l W (HB.out W h) (HP.out W h) hval
    by_cases hpr : priceP B l
    case neg =>
      rw [priceB_false hpr] at F5
      have H2 := Lib.hid F2
      have H3 := Lib.hid F3
      have H4 := Lib.hid F4
      have H5 := Lib.hid F5
      clear F2 F3 F4 F5
      clear hval hfit hfitt hpr
      go_wp2_with fail
      refine (HC.out _).mono ?_
      rintro e w1 ⟨rfl, hb⟩
      obtain ⟨x1, rfl, lk0'⟩ := x0.step (hb)
      have lk0 := Lib.hid lk0'
      clear hb lk0'
      go_wp2_with fail
      refine (H2.out _ (Aft.off F0.out x1)).mono ?_
      rintro e w1 ⟨rfl, hb⟩
      obtain ⟨x2, rfl, lk1'⟩ := x1.step (hb)
      have lk1 := Lib.hid lk1'
      clear hb lk1'
      go_wp2_with fail
      refine (H3.out _ (Aft.off F0.out x2)).mono ?_
      rintro e w1 ⟨rfl, hb⟩
      obtain ⟨x3, rfl, lk2'⟩ := x2.step (hb)
      have lk2 := Lib.hid lk2'
      clear hb lk2'
      go_wp2_with fail
      refine (H4.out _ (Aft.off F0.out x3)).mono ?_
      rintro e w1 ⟨rfl, hb⟩
      obtain ⟨x4, rfl, lk3'⟩ := x3.step (hb)
      have lk3 := Lib.hid lk3'
      clear hb lk3'
      go_wp2_with fail
      refine (H5.out _ (Aft.off F0.out x4)).mono ?_
      rintro e w1 ⟨rfl, hb⟩
      obtain ⟨x5, rfl, lk4'⟩ := x4.step (hb)
      have lk4 := Lib.hid lk4'
      clear hb lk4'
      go_wp2_with fail
      refine (Sane_any _).mono ?_
      rintro e w1 ⟨rfl, hb⟩
      obtain ⟨x6, rfl, lk5'⟩ := x5.step (hb)
      have lk5 := Lib.hid lk5'
      clear hb lk5'
      go_wp2
      go_ret
      exact ⟨rfl, Aft.off F0.out x6⟩
    rw [priceB_true hpr] at F5
    have hK := hfit.1
    have hls := fits_pre hval hfit
    have hlt := fits_pre hval hfitt
    have hlen : l.length = B.Share.length + 1 := by have := hpr.1; have := hval.2.2.2.1; omega
    have h36 : 1 ≤ B.Share.length ∧ B.Share.length ≤ 36 := by have := mul36 hval.1.1 hval.1.2 hval.2.1.1 hval.2.1.2; have := hval.2.2.2.1; omega
    have F6 := fun W h => Total_any _ _ B s W (HB.out W h) (⟨ao, c, rfl, HI.out W h, hsn⟩ : SlkAt W (.agg #[.int .i64 s.K, .slice ao s.Oil.length c, .int .i64 s.Away]) s)
    have hT0 : totV B s = s.Away + s.Oil.sum := by unfold totV; rw [if_pos (okE_ok hval hfit)]
    rw [okE_ok hval hfit, hT0] at F6
    have F7 := fun W h => Sum_any _ _ _ B s t W (HB.out W h) (⟨ao, c, rfl, HI.out W h, hsn⟩ : SlkAt W (.agg #[.int .i64 s.K, .slice ao s.Oil.length c, .int .i64 s.Away]) s) (⟨bo, d, rfl, HJ.out W h, htn⟩ : SlkAt W (.agg #[.int .i64 t.K, .slice bo t.Oil.length d, .int .i64 t.Away]) t)
    have HE : Hid (sumE B s t ≠ 0 ∨ (sumE B s t = 0 ∧ sumS B s t = addS s t ∧ s.K = t.K ∧ fitsP B (addS s t))) := by
      by_cases h : s.K = t.K ∧ fitsB B (addS s t) = true
      · have := sumE_ok hval hfit hfitt h.1 h.2
        exact .inr ⟨this.1, this.2, h.1, fitsB_iff.1 h.2⟩
      · left; rw [(sumE_bad hval h).1]; decide
    have hTb : 0 ≤ s.Away + s.Oil.sum ∧ s.Away + s.Oil.sum ≤ lim s.K := by have h1 := hfit.2.2.2; have := sum_bd s.Oil (amt_range hfit.2.2.1); omega
    have HTb := Lib.hid hTb
    have hT1 : 0 ≤ s.Away + s.Oil.sum ∧ s.Away + s.Oil.sum ≤ 37748736000 := by have := lim_le hK.1 hK.2; omega
    have H2 := Lib.hid F2
    have H3 := Lib.hid F3
    have H4 := Lib.hid F4
    have H5 := Lib.hid F5
    have H6 := Lib.hid F6
    have H7 := Lib.hid F7
    have HVAL := Lib.hid hval
    have HFIT := Lib.hid hfit
    have HFITT := Lib.hid hfitt
    have HPR := Lib.hid hpr
    have HLS := Lib.hid hls
    have HLT := Lib.hid hlt
    have HLEN := Lib.hid hlen
    clear F2 F3 F4 F5 F6 F7 hval hfit hfitt hpr hls hlt hlen
    clear hTb hT0
    generalize hTT : s.Away + s.Oil.sum = T at *
    have HTT := Lib.hid hTT
    clear hTT
    go_wp2_with fail
    refine (HC.out _).mono ?_
    rintro e w1 ⟨rfl, hb⟩
    obtain ⟨x1, rfl, lk0'⟩ := x0.step (hb)
    have lk0 := Lib.hid lk0'
    clear hb lk0'
    go_wp2_with fail
    refine (H2.out _ (Aft.off F0.out x1)).mono ?_
    rintro e w1 ⟨rfl, hb⟩
    obtain ⟨x2, rfl, lk1'⟩ := x1.step (hb)
    have lk1 := Lib.hid lk1'
    clear hb lk1'
    go_wp2_with fail
    refine (H3.out _ (Aft.off F0.out x2)).mono ?_
    rintro e w1 ⟨rfl, hb⟩
    obtain ⟨x3, rfl, lk2'⟩ := x2.step (hb)
    have lk2 := Lib.hid lk2'
    clear hb lk2'
    go_wp2_with fail
    refine (H4.out _ (Aft.off F0.out x3)).mono ?_
    rintro e w1 ⟨rfl, hb⟩
    obtain ⟨x4, rfl, lk3'⟩ := x3.step (hb)
    have lk3 := Lib.hid lk3'
    clear hb lk3'
    go_wp2_with fail
    refine (H5.out _ (Aft.off F0.out x4)).mono ?_
    rintro e w1 ⟨rfl, hb⟩
    obtain ⟨x5, rfl, lk4'⟩ := x4.step (hb)
    have lk4 := Lib.hid lk4'
    clear hb lk4'
    go_wp2_with fail
    refine (H6.out _ (Aft.off F0.out x5)).mono ?_
    rintro e w1 ⟨rfl, hb⟩
    obtain ⟨x6, rfl, lk5'⟩ := x5.step (hb)
    have lk5 := Lib.hid lk5'
    clear hb lk5'
    go_wp2_with fail
    refine (H7.out _ (Aft.off F0.out x6)).mono ?_
    rintro e w1 ⟨rv, rfl, ⟨a1, c1, rfl, hi1, hn1, hf1⟩, hb⟩
    obtain ⟨x7, rfl, lk6'⟩ := x6.step (hb)
    have lk6 := Lib.hid lk6'
    clear hb lk6'
    have I1 := Lib.hid hi1
    clear hi1 hf1
    go_wp2_with fail
    have hb := (Below.refl x7.val.heap.size x7.val).alloc (Nat.le_refl _) (.cells #[.int .i64 (sumS B s t).K, .slice a1 (sumS B s t).Oil.length c1, .int .i64 (sumS B s t).Away] 28)
    have hg := World.alloc_heap_new x7.val (.cells #[.int .i64 (sumS B s t).K, .slice a1 (sumS B s t).Oil.length c1, .int .i64 (sumS B s t).Away] 28)
    generalize x7.val.alloc (.cells #[.int .i64 (sumS B s t).K, .slice a1 (sumS B s t).Oil.length c1, .int .i64 (sumS B s t).Away] 28) = WB at *
    obtain ⟨x8, rfl, lk7'⟩ := x7.step hb
    have lk7 := Lib.hid lk7'
    have XS := Lib.hid hg
    clear hb hg lk7'
    generalize sumS B s t = SS at *
    generalize sumE B s t = EE at *
    obtain ⟨b9, hb9⟩ : ∃ b9, b9 = x7.val.heap.size := ⟨_, rfl⟩
    have XS9 := XS.out
    rw [← hb9] at XS9 ⊢
    have I1' := Lib.hid (I1.out.below (Nat.le_refl _) lk7.out)
    clear b0 b1 b2 b3 b0' b1' b2' b3' s0 s1 s2 s0' s1' s2' t0 t1 t2 t0' t1' t2'
    have GB' := Lib.hid (x8.heapH GB.out)
    have GS' := Lib.hid (x8.heapH GS.out)
    have GT' := Lib.hid (x8.heapH GT.out)
    obtain ⟨V, hV⟩ : ∃ V, V = x8.val := ⟨_, rfl⟩
    have FV : Hid (Below w.heap.size w V) := by rw [hV]; exact Aft.off F0.out x8
    have g0 : V.heap[w.heap.size]? = some (.cells #[.int .i64 B.W, .int .i64 B.H, .slice la B.Land.length lc, .slice sa B.Share.length sc] 25 (0, 0)) := by rw [hV]; exact GB'.out
    have g7 : V.heap[b7]? = some (.cells #[.int .i64 s.K, .slice ao s.Oil.length c, .int .i64 s.Away] 28 (0, 0)) := by rw [hV]; exact GS'.out
    have g8 : V.heap[b8]? = some (.cells #[.int .i64 t.K, .slice bo t.Oil.length d, .int .i64 t.Away] 28 (0, 0)) := by rw [hV]; exact GT'.out
    have g9 : V.heap[b9]? = some (.cells #[.int .i64 SS.K, .slice a1 SS.Oil.length c1, .int .i64 SS.Away] 28 (0, 0)) := by rw [hV]; exact XS9
    have IS : Hid (∀ x : Aft V, IntsAt x.val a1 SS.Oil) := fun x => I1'.out.below (Nat.le_refl _) (by rw [← hV]; exact x.bel)
    have b0 : ∀ x : Aft V, x.val.cell? ⟨w.heap.size, 0, none⟩ = some (.int .i64 B.W) := fun x => cell_of_heap (x.heapH g0) 0
    have b0' : ∀ (x : Aft V) (o : Obj), (x.val.alloc o).cell? ⟨w.heap.size, 0, none⟩ = some (.int .i64 B.W) := fun x o => cell_of_heap (heap_alloc_old (x.heapH g0) o) 0
    have b1 : ∀ x : Aft V, x.val.cell? ⟨w.heap.size, 1, none⟩ = some (.int .i64 B.H) := fun x => cell_of_heap (x.heapH g0) 1
    have b1' : ∀ (x : Aft V) (o : Obj), (x.val.alloc o).cell? ⟨w.heap.size, 1, none⟩ = some (.int .i64 B.H) := fun x o => cell_of_heap (heap_alloc_old (x.heapH g0) o) 1
    have b2 : ∀ x : Aft V, x.val.cell? ⟨w.heap.size, 2, none⟩ = some (.slice la B.Land.length lc) := fun x => cell_of_heap (x.heapH g0) 2
    have b2' : ∀ (x : Aft V) (o : Obj), (x.val.alloc o).cell? ⟨w.heap.size, 2, none⟩ = some (.slice la B.Land.length lc) := fun x o => cell_of_heap (heap_alloc_old (x.heapH g0) o) 2
    have b3 : ∀ x : Aft V, x.val.cell? ⟨w.heap.size, 3, none⟩ = some (.slice sa B.Share.length sc) := fun x => cell_of_heap (x.heapH g0) 3
    have b3' : ∀ (x : Aft V) (o : Obj), (x.val.alloc o).cell? ⟨w.heap.size, 3, none⟩ = some (.slice sa B.Share.length sc) := fun x o => cell_of_heap (heap_alloc_old (x.heapH g0) o) 3
    have s0 : ∀ x : Aft V, x.val.cell? ⟨b7, 0, none⟩ = some (.int .i64 s.K) := fun x => cell_of_heap (x.heapH g7) 0
    have s0' : ∀ (x : Aft V) (o : Obj), (x.val.alloc o).cell? ⟨b7, 0, none⟩ = some (.int .i64 s.K) := fun x o => cell_of_heap (heap_alloc_old (x.heapH g7) o) 0
    have s1 : ∀ x : Aft V, x.val.cell? ⟨b7, 1, none⟩ = some (.slice ao s.Oil.length c) := fun x => cell_of_heap (x.heapH g7) 1
    have s1' : ∀ (x : Aft V) (o : Obj), (x.val.alloc o).cell? ⟨b7, 1, none⟩ = some (.slice ao s.Oil.length c) := fun x o => cell_of_heap (heap_alloc_old (x.heapH g7) o) 1
    have s2 : ∀ x : Aft V, x.val.cell? ⟨b7, 2, none⟩ = some (.int .i64 s.Away) := fun x => cell_of_heap (x.heapH g7) 2
    have s2' : ∀ (x : Aft V) (o : Obj), (x.val.alloc o).cell? ⟨b7, 2, none⟩ = some (.int .i64 s.Away) := fun x o => cell_of_heap (heap_alloc_old (x.heapH g7) o) 2
    have t0 : ∀ x : Aft V, x.val.cell? ⟨b8, 0, none⟩ = some (.int .i64 t.K) := fun x => cell_of_heap (x.heapH g8) 0
    have t0' : ∀ (x : Aft V) (o : Obj), (x.val.alloc o).cell? ⟨b8, 0, none⟩ = some (.int .i64 t.K) := fun x o => cell_of_heap (heap_alloc_old (x.heapH g8) o) 0
    have t1 : ∀ x : Aft V, x.val.cell? ⟨b8, 1, none⟩ = some (.slice bo t.Oil.length d) := fun x => cell_of_heap (x.heapH g8) 1
    have t1' : ∀ (x : Aft V) (o : Obj), (x.val.alloc o).cell? ⟨b8, 1, none⟩ = some (.slice bo t.Oil.length d) := fun x o => cell_of_heap (heap_alloc_old (x.heapH g8) o) 1
    have t2 : ∀ x : Aft V, x.val.cell? ⟨b8, 2, none⟩ = some (.int .i64 t.Away) := fun x => cell_of_heap (x.heapH g8) 2
    have t2' : ∀ (x : Aft V) (o : Obj), (x.val.alloc o).cell? ⟨b8, 2, none⟩ = some (.int .i64 t.Away) := fun x o => cell_of_heap (heap_alloc_old (x.heapH g8) o) 2
    have r0 : ∀ x : Aft V, x.val.cell? ⟨b9, 0, none⟩ = some (.int .i64 SS.K) := fun x => cell_of_heap (x.heapH g9) 0
    have r0' : ∀ (x : Aft V) (o : Obj), (x.val.alloc o).cell? ⟨b9, 0, none⟩ = some (.int .i64 SS.K) := fun x o => cell_of_heap (heap_alloc_old (x.heapH g9) o) 0
    have r1 : ∀ x : Aft V, x.val.cell? ⟨b9, 1, none⟩ = some (.slice a1 SS.Oil.length c1) := fun x => cell_of_heap (x.heapH g9) 1
    have r1' : ∀ (x : Aft V) (o : Obj), (x.val.alloc o).cell? ⟨b9, 1, none⟩ = some (.slice a1 SS.Oil.length c1) := fun x o => cell_of_heap (heap_alloc_old (x.heapH g9) o) 1
    have r2 : ∀ x : Aft V, x.val.cell? ⟨b9, 2, none⟩ = some (.int .i64 SS.Away) := fun x => cell_of_heap (x.heapH g9) 2
    have r2' : ∀ (x : Aft V) (o : Obj), (x.val.alloc o).cell? ⟨b9, 2, none⟩ = some (.int .i64 SS.Away) := fun x o => cell_of_heap (heap_alloc_old (x.heapH g9) o) 2
    rw [← hV]
    obtain ⟨x0, hx0⟩ : ∃ y : Aft V, y.val = V := ⟨⟨V, Below.refl _ V⟩, rfl⟩
    rw [← hx0]
    clear hV hx0 F0 XS XS9 hb9 g0 g7 g8 g9 GB GS GT GB' GS' GT' I1 I1' H2 H3 H4 H5 H6 H7 lk0 lk1 lk2 lk3 lk4 lk5 lk6 lk7
    have F0 := FV
    clear FV
    go_wp2_with fail
    go_loopw [13] (fun i wr => ∃ (n : Nat) (x : Aft V), wr = x.val ∧ i = .int .i64 n ∧ s.K + n ≤ 6) (fun i _ => 6 - (intOf i).toNat)
    case atStart => exact ⟨0, x0, rfl, rfl, by omega⟩
    case round =>
      obtain ⟨n, x0, rfl, rfl, hn⟩ := hrel
      by_cases hlt : s.K + n ≤ 5
      · have hn5 : n ≤ 5 := by omega
        have F1 := fun W h => After_any _ _ B s n W (HB.out W h) (⟨ao, c, rfl, HI.out W h, hsn⟩ : SlkAt W (.agg #[.int .i64 s.K, .slice ao s.Oil.length c, .int .i64 s.Away]) s) (by omega)
        rw [(aft_ok HVAL.out HFIT.out hlt).1, (aft_ok HVAL.out HFIT.out hlt).2] at F1
        have hSfit := mvN_fits HVAL.out HFIT.out n hlt
        have hTS : totV B (mvN B s n) = T * 16 ^ n := by unfold totV; rw [if_pos (okE_ok HVAL.out hSfit), mvN_tot HVAL.out HFIT.out, HTT.out]
        have FT := fun W h a2 c2 (hI : IntsAt W a2 (mvN B s n).Oil) => Total_any _ (.agg #[.int .i64 (mvN B s n).K, .slice a2 (mvN B s n).Oil.length c2, .int .i64 (mvN B s n).Away]) B (mvN B s n) W (HB.out W h) ⟨a2, c2, rfl, hI, by rw [mvN_len]; omega⟩
        rw [hTS, okE_ok HVAL.out hSfit] at FT
        obtain ⟨ce, cv⟩ := costE_ok (l := l) (okE_ok HVAL.out hSfit) HPR.out
        obtain ⟨hadj, hpA, hpO⟩ := both_bd HVAL.out HFIT.out HPR.out hlt HLEN.out
        obtain ⟨be, bl⟩ := befE_0 (n := n) HVAL.out HPR.out hn5
        have FC := fun W h a2 c2 (hI : IntsAt W a2 (mvN B s n).Oil) => Cost_any _ (.agg #[.int .i64 (mvN B s n).K, .slice a2 (mvN B s n).Oil.length c2, .int .i64 (mvN B s n).Away]) B (mvN B s n) po pc l W (HB.out W h) ⟨a2, c2, rfl, hI, by rw [mvN_len]; omega⟩ (HP.out W h) (by have := HLEN.out; omega)
        rw [ce, cv, ← hadj] at FC
        have FB := fun W h => Before_any _ B po pc l n W (HB.out W h) (HP.out W h) (by have := HLEN.out; omega) (by omega)
        rw [be, bl] at FB
        have hLl := bN_len B l n
        have FP := fun W h a3 c3 (hI : IntsAt W a3 (bN B l n)) => Priced_any ao a3 c c3 s (bN B l n) W (HI.out W h) hI (by rw [bN_len]; have := HLEN.out; have := HLS.out; omega) (by omega) hpA hpO
        simp only [hLl] at FP
        have F16 := fun W => sixteen_any n W hn5
        have hp16 : (1 : Int) ≤ 16 ^ n ∧ (16 : Int) ^ n ≤ 1048576 := by have := pow_bd n (by omega) (by omega); simpa using this
        have FA := fun W h => After_any _ _ B t n W (HB.out W h) (⟨bo, d, rfl, HJ.out W h, htn⟩ : SlkAt W (.agg #[.int .i64 t.K, .slice bo t.Oil.length d, .int .i64 t.Away]) t) (by omega)
        have HE2 : Hid (EE ≠ 0 ∨ (EE = 0 ∧ SS = addS s t ∧ aftE B t n = 0 ∧ aftS B t n = mvN B t n ∧ aftE B (addS s t) n = 0 ∧ aftS B (addS s t) n = addS (mvN B s n) (mvN B t n) ∧ sumE B (mvN B s n) (mvN B t n) = 0 ∧ sumS B (mvN B s n) (mvN B t n) = addS (mvN B s n) (mvN B t n))) := by
          rcases HE.out with h | ⟨h1, h2, h3, h4⟩
          · exact .inl h
          · have ht5 : t.K + n ≤ 5 := by omega
            have ha5 : (addS s t).K + n ≤ 5 := hlt
            have hmv := mvN_addS (s := s) (t := t) HVAL.out HLS.out HLT.out n
            obtain ⟨u1, u2⟩ := aft_ok HVAL.out HFITT.out ht5
            obtain ⟨u3, u4⟩ := aft_ok HVAL.out h4 ha5
            have hfa := mvN_fits HVAL.out h4 n ha5
            rw [hmv] at u4 hfa
            obtain ⟨u5, u6⟩ := sumE_ok HVAL.out hSfit (mvN_fits HVAL.out HFITT.out n ht5) (by rw [mvN_K, mvN_K, h3]) (fitsB_true hfa)
            exact .inr ⟨h1, h2, u1, u2, u3, u4, u5, u6⟩
        have hlS : (mvN B s n).Oil.length = s.Oil.length := mvN_len B s n
        have hlT : (mvN B t n).Oil.length = t.Oil.length := mvN_len B t n
        have FS := fun W h a2 c2 (hI : IntsAt W a2 (mvN B s n).Oil) a4 c4 (hJ : IntsAt W a4 (mvN B t n).Oil) => Sum_any _ (.agg #[.int .i64 (mvN B s n).K, .slice a2 (mvN B s n).Oil.length c2, .int .i64 (mvN B s n).Away]) (.agg #[.int .i64 (mvN B t n).K, .slice a4 (mvN B t n).Oil.length c4, .int .i64 (mvN B t n).Away]) B (mvN B s n) (mvN B t n) W (HB.out W h) ⟨a2, c2, rfl, hI, by rw [hlS]; omega⟩ ⟨a4, c4, rfl, hJ, by rw [hlT]; omega⟩
        have hlA : (addS (mvN B s n) (mvN B t n)).Oil.length ≤ 1000 := by
          show (addL _ _).length ≤ _
          rw [addL_len (by rw [hlS, hlT, HLS.out, HLT.out]), hlS]; omega
        have HLS2 := Lib.hid hlS
        have HLT2 := Lib.hid hlT
        clear hadj hpA hpO ce cv be bl hSfit hTS hlS hlT
        generalize hSe : mvN B s n = S at *
        generalize hTe : mvN B t n = T2 at *
        generalize bN B l n = L at *
        generalize costZ s L = CZ at *
        generalize (16 : Int) ^ n = p at *
        have hm0 : 0 ≤ T * p := Int.mul_nonneg hT1.1 (by omega)
        have hm1 : T * p ≤ 37748736000 * 1048576 := Int.le_trans (Int.mul_le_mul_of_nonneg_right hT1.2 (by omega)) (Int.mul_le_mul_of_nonneg_left hp16.2 (by omega))
        have H1 := Lib.hid F1
        have HT := Lib.hid FT
        have HCo := Lib.hid FC
        have HBe := Lib.hid FB
        have HPr := Lib.hid FP
        have H16 := Lib.hid F16
        have HA := Lib.hid FA
        have HSu := Lib.hid FS
        have HLL := Lib.hid hLl
        have HLA := Lib.hid hlA
        clear F1 FT FC FB FP F16 FA FS hLl hlA
        clear hSe hTe
        go_wp2_with fail
        refine (H1.out _ (Aft.off F0.out x0)).mono ?_
        rintro e w1 ⟨rv, rfl, ⟨a2, c2, rfl, hi2, hn2, hf2⟩, hb⟩
        obtain ⟨x1, rfl, lk0'⟩ := x0.step (hb)
        have lk0 := Lib.hid lk0'
        clear hb lk0'
        have I2 := Lib.hid hi2
        clear hi2 hf2
        go_wp2_with fail
        have hb := (Below.refl x1.val.heap.size x1.val).alloc (Nat.le_refl _) (.cells #[.int .i64 S.K, .slice a2 S.Oil.length c2, .int .i64 S.Away] 28)
        have hg := World.alloc_heap_new x1.val (.cells #[.int .i64 S.K, .slice a2 S.Oil.length c2, .int .i64 S.Away] 28)
        generalize x1.val.alloc (.cells #[.int .i64 S.K, .slice a2 S.Oil.length c2, .int .i64 S.Away] 28) = WB at *
        obtain ⟨x2, rfl, lk1'⟩ := x1.step hb
        have lk1 := Lib.hid lk1'
        have X14 := Lib.hid hg
        clear hb hg lk1'
        refine (HT.out _ (Aft.off F0.out x2) a2 c2 (I2.out.below (Nat.le_refl _) (lk1.out))).mono ?_
        rintro e w1 ⟨rfl, hb⟩
        obtain ⟨x3, rfl, lk2'⟩ := x2.step (hb)
        have lk2 := Lib.hid lk2'
        clear hb lk2'
        have hq := ((lk2.out).block _ (heap_lt X14.out)).trans X14.out
        have X14c0 := cell_of_heap hq 0
        have X14c1 := cell_of_heap hq 1
        have X14c2 := cell_of_heap hq 2
        simp at X14c0 X14c1 X14c2
        clear hq
        go_wp2_with fail
        clear X14c0 X14c1 X14c2
        refine (HCo.out _ (Aft.off F0.out x3) a2 c2 (I2.out.below (Nat.le_refl _) ((Below.link lk1.out lk2.out)))).mono ?_
        rintro e w1 ⟨rfl, hb⟩
        obtain ⟨x4, rfl, lk3'⟩ := x3.step (hb)
        have lk3 := Lib.hid lk3'
        clear hb lk3'
        go_wp2_with fail
        refine (HBe.out _ (Aft.off F0.out x4)).mono ?_
        rintro e w1 ⟨a3, c3, rfl, hi3, hf3, hb⟩
        obtain ⟨x5, rfl, lk4'⟩ := x4.step (hb)
        have lk4 := Lib.hid lk4'
        clear hb lk4'
        rw [HLL.out]
        have I3 := Lib.hid hi3
        clear hi3 hf3
        go_wp2_with fail
        refine (H16.out _).mono ?_
        rintro e w1 ⟨rfl, rfl⟩
        go_wp2_with fail
        refine (HPr.out _ (Aft.off F0.out x5) a3 c3 I3.out).mono ?_
        rintro e w1 ⟨rfl, hb⟩
        obtain ⟨x6, rfl, lk5'⟩ := x5.step (hb)
        have lk5 := Lib.hid lk5'
        clear hb lk5'
        rcases HE2.out with hE | ⟨hE, hSSe, v1, v2, v3, v4, v5, v6⟩
        · have hb : (EE != 0) = true := by simpa using hE
          clear hE
          go_wp2
          go_roundw
          case rel => exact ⟨n + 1, x6, rfl, by go_num, by omega⟩
          case measure => simp [intOf]; omega
        · have hA2 := HA.out _ (Aft.off F0.out x6)
          rw [v1, v2] at hA2
          subst hSSe
          subst hE
          have HA2 := Lib.hid hA2
          have HV3 := Lib.hid v3
          have HV4 := Lib.hid v4
          have HV5 := Lib.hid v5
          have HV6 := Lib.hid v6
          clear hA2 v1 v2 v3 v4 v5 v6
          go_wp2_with fail
          refine (HA2.out).mono ?_
          rintro e w1 ⟨rv, rfl, ⟨a4, c4, rfl, hi4, hn4, hf4⟩, hb⟩
          obtain ⟨x7, rfl, lk6'⟩ := x6.step (hb)
          have lk6 := Lib.hid lk6'
          clear hb lk6'
          have I4 := Lib.hid hi4
          clear hi4 hf4
          go_wp2_with fail
          have hb := (Below.refl x7.val.heap.size x7.val).alloc (Nat.le_refl _) (.cells #[.int .i64 T2.K, .slice a4 T2.Oil.length c4, .int .i64 T2.Away] 28)
          have hg := World.alloc_heap_new x7.val (.cells #[.int .i64 T2.K, .slice a4 T2.Oil.length c4, .int .i64 T2.Away] 28)
          generalize x7.val.alloc (.cells #[.int .i64 T2.K, .slice a4 T2.Oil.length c4, .int .i64 T2.Away] 28) = WB at *
          obtain ⟨x8, rfl, lk7'⟩ := x7.step hb
          have lk7 := Lib.hid lk7'
          have X22 := Lib.hid hg
          clear hb hg lk7'
          have hA3 := After_any _ (.agg #[.int .i64 (addS s t).K, .slice a1 (addS s t).Oil.length c1, .int .i64 (addS s t).Away]) B (addS s t) n x8.val (HB.out _ (Aft.off F0.out x8)) ⟨a1, c1, rfl, IS.out x8, by omega⟩ (by omega)
          rw [HV3.out, HV4.out] at hA3
          have HA3 := Lib.hid hA3
          clear hA3
          refine (HA3.out).mono ?_
          rintro e w1 ⟨rv, rfl, ⟨a5, c5, rfl, hi5, hn5', hf5⟩, hb⟩
          obtain ⟨x9, rfl, lk8'⟩ := x8.step (hb)
          have lk8 := Lib.hid lk8'
          clear hb lk8'
          have I5 := Lib.hid hi5
          clear hi5 hf5
          have HQ : Hid (∀ W', Below x9.val.heap.size x9.val W' → W'.cell? ⟨x1.val.heap.size, 0, none⟩ = some (.int .i64 S.K) ∧ W'.cell? ⟨x1.val.heap.size, 1, none⟩ = some (.slice a2 S.Oil.length c2) ∧ W'.cell? ⟨x1.val.heap.size, 2, none⟩ = some (.int .i64 S.Away) ∧
              W'.cell? ⟨x7.val.heap.size, 0, none⟩ = some (.int .i64 T2.K) ∧ W'.cell? ⟨x7.val.heap.size, 1, none⟩ = some (.slice a4 T2.Oil.length c4) ∧ W'.cell? ⟨x7.val.heap.size, 2, none⟩ = some (.int .i64 T2.Away)) := fun W' hW' => by
            have k1 := ((Below.link (Below.link (Below.link (Below.link (Below.link (Below.link (Below.link lk2.out lk3.out) lk4.out) lk5.out) lk6.out) lk7.out) lk8.out) hW').block _ (heap_lt X14.out)).trans X14.out
            have k2 := ((Below.link lk8.out hW').block _ (heap_lt X22.out)).trans X22.out
            exact ⟨cell_of_heap k1 0, cell_of_heap k1 1, cell_of_heap k1 2, cell_of_heap k2 0, cell_of_heap k2 1, cell_of_heap k2 2⟩
          have hbx := Lib.hid ((Below.refl x9.val.heap.size x9.val).alloc (Nat.le_refl _) (.cells #[.int .i64 (addS S T2).K, .slice a5 (addS S T2).Oil.length c5, .int .i64 (addS S T2).Away] 28))
          obtain ⟨k0, k1, k2, k3, k4, k5⟩ := HQ.out _ hbx.out
          go_wp2_with fail
          clear k0 k1 k2 k3 k4 k5
          have hb := (Below.refl x9.val.heap.size x9.val).alloc (Nat.le_refl _) (.cells #[.int .i64 (addS S T2).K, .slice a5 (addS S T2).Oil.length c5, .int .i64 (addS S T2).Away] 28)
          have hg := World.alloc_heap_new x9.val (.cells #[.int .i64 (addS S T2).K, .slice a5 (addS S T2).Oil.length c5, .int .i64 (addS S T2).Away] 28)
          generalize x9.val.alloc (.cells #[.int .i64 (addS S T2).K, .slice a5 (addS S T2).Oil.length c5, .int .i64 (addS S T2).Away] 28) = WB at *
          obtain ⟨x10, rfl, lk9'⟩ := x9.step hb
          have lk9 := Lib.hid lk9'
          have X23 := Lib.hid hg
          clear hb hg lk9'
          have hS3 := HSu.out _ (Aft.off F0.out x10) a2 c2 (I2.out.below (Nat.le_refl _) (Below.link (Below.link (Below.link (Below.link (Below.link (Below.link (Below.link (Below.link lk1.out lk2.out) lk3.out) lk4.out) lk5.out) lk6.out) lk7.out) lk8.out) lk9.out)) a4 c4 (I4.out.below (Nat.le_refl _) (Below.link (Below.link lk7.out lk8.out) lk9.out))
          rw [HV5.out, HV6.out] at hS3
          have HS3 := Lib.hid hS3
          clear hS3
          refine (HS3.out).mono ?_
          rintro e w1 ⟨rv, rfl, ⟨a6, c6, rfl, hi6, hn6, hf6⟩, hb⟩
          obtain ⟨x11, rfl, lk10'⟩ := x10.step (hb)
          have lk10 := Lib.hid lk10'
          clear hb lk10'
          have I6 := Lib.hid hi6
          clear hi6 hf6
          have hbx2 := (Below.refl x11.val.heap.size x11.val).alloc (Nat.le_refl _) (.cells #[.int .i64 (addS S T2).K, .slice a6 (addS S T2).Oil.length c6, .int .i64 (addS S T2).Away] 28)
          have k1 := ((Below.link lk10.out hbx2).block _ (heap_lt X23.out)).trans X23.out
          have r0_ := cell_of_heap k1 0
          have r1_ := cell_of_heap k1 1
          have r2_ := cell_of_heap k1 2
          simp at r0_ r1_ r2_
          clear hbx2 k1
          go_wp2_with fail
          clear r0_ r1_ r2_
          have hb := (Below.refl x11.val.heap.size x11.val).alloc (Nat.le_refl _) (.cells #[.int .i64 (addS S T2).K, .slice a6 (addS S T2).Oil.length c6, .int .i64 (addS S T2).Away] 28)
          have hg := World.alloc_heap_new x11.val (.cells #[.int .i64 (addS S T2).K, .slice a6 (addS S T2).Oil.length c6, .int .i64 (addS S T2).Away] 28)
          generalize x11.val.alloc (.cells #[.int .i64 (addS S T2).K, .slice a6 (addS S T2).Oil.length c6, .int .i64 (addS S T2).Away] 28) = WB at *
          obtain ⟨x12, rfl, lk11'⟩ := x11.step hb
          have lk11 := Lib.hid lk11'
          have X24 := Lib.hid hg
          clear hb hg lk11'
          have hE := equal_any a6 a5 c6 c5 (addS S T2) (addS S T2) x12.val (I6.out.below (Nat.le_refl _) lk11.out) (I5.out.below (Nat.le_refl _) (Below.link (Below.link lk9.out lk10.out) lk11.out)) (by have := HLA.out; omega) (by have := HLA.out; omega)
          rw [eqSlk_refl] at hE
          have HEq := Lib.hid hE
          clear hE
          refine (HEq.out).mono ?_
          rintro e w1 ⟨rfl, hb⟩
          obtain ⟨x13, rfl, lk12'⟩ := x12.step (hb)
          have lk12 := Lib.hid lk12'
          clear hb lk12'
          go_wp2
          go_roundw
          case rel => exact ⟨n + 1, x13, rfl, by go_num, by omega⟩
          case measure => simp [intOf]; omega
      · have hlt' : ¬ (s.K + (n : Int) ≤ 5) := hlt
        go_wp2_with fail
        refine (Sane_any _).mono ?_
        rintro e w1 ⟨rfl, hb⟩
        obtain ⟨x1, rfl, lk0'⟩ := x0.step (hb)
        have lk0 := Lib.hid lk0'
        clear hb lk0'
        go_wp2
        go_ret
        exact ⟨rfl, Aft.off F0.out x1⟩
  clear hKK
  have q0 := d1_0 x0
  have q1 := d1_1 x0
  have q2 := d1_2 x0
  have q3 := d1_3 x0
  have q4 := d1_4 x0
  have q5 := d1_5 x0
  go_region_held3 (fun w' => w'.cell? ⟨w.heap.size + 1, 0, none⟩ = some (.int .i64 s.K) ∧ w'.cell? ⟨w.heap.size + 1, 1, none⟩ = some (.slice ao s.Oil.length c) ∧ w'.cell? ⟨w.heap.size + 1, 2, none⟩ = some (.int .i64 s.Away) ∧ w'.cell? ⟨w.heap.size + 1, 3, none⟩ = some (.int .i64 t.K) ∧ w'.cell? ⟨w.heap.size + 1, 4, none⟩ = some (.slice bo t.Oil.length d) ∧ w'.cell? ⟨w.heap.size + 1, 5, none⟩ = some (.int .i64 t.Away)) (go_keep) (first | fail)
  all_goals first
  | (obtain ⟨q0, q1, q2, q3⟩ := two_new (w := x0.val) #[.int .i64 t.K, .slice bo t.Oil.length d, .int .i64 t.Away] #[.int .i64 s.K, .slice ao s.Oil.length c, .int .i64 s.Away] 28 28
     obtain ⟨z, hz⟩ : ∃ z : Aft W, z.val = ((x0.val.alloc (.cells #[.int .i64 t.K, .slice bo t.Oil.length d, .int .i64 t.Away] 28)).alloc (.cells #[.int .i64 s.K, .slice ao s.Oil.length c, .int .i64 s.Away] 28)).drew := ⟨⟨_, (x0.bel.trans (q0.mono x0.bel.size)).drew⟩, rfl⟩
     have h2 : z.val.heap[x0.val.heap.size]? = some (.cells #[.int .i64 t.K, .slice bo t.Oil.length d, .int .i64 t.Away] 28 (0, 0)) := by rw [hz]; exact q2
     have h3 : z.val.heap[x0.val.heap.size + 1]? = some (.cells #[.int .i64 s.K, .slice ao s.Oil.length c, .int .i64 s.Away] 28 (0, 0)) := by rw [hz]; exact q3
     rw [← hz]
     have hsz := FZ0.out
     show KK _ _
     exact key.out (x0.val.heap.size + 1) x0.val.heap.size z _ _ _ _ _ _ _ _ _ _ _ _ _ _ _ _ _ _ _ _ _ _ _ _ _ _ _ _ _ _ _ _ _ _ _ _ _ _ _ _ _ _ _ _ _ _ _ _ _ _ _ _ _ _ _ _ _ _ _ _ _ _ _ _ _ _ _ _ _ _ _ _ _ _ _ _ _ _ _ _ _ _ _ _ _ _ _ _ _ _ _ _ _ _ _ _ _ _ _ _ _ _ _ _ _ _ _ _ _ _ _ _ _ _ _ _ _ _ _ _ _ _ _ _ _ _ _ _ _ _ _ _ _ _ _ _ _ _ _ _ _ _ _ _ _ _ _ _ _ _ _ _ _ _ _ _ _ _ _ _ _ _ _ _ _ _ _ _ _ _ _ _ _ _ _ _ _ _ _ _ _ _ _ _ _ _ (by omega) (by omega) (by omega) h3 h2)
  | (obtain ⟨q0, q1, q2, q3⟩ := two_new (w := x0.val) #[.int .i64 s.K, .slice ao s.Oil.length c, .int .i64 s.Away] #[.int .i64 t.K, .slice bo t.Oil.length d, .int .i64 t.Away] 28 28
     obtain ⟨z, hz⟩ : ∃ z : Aft W, z.val = ((x0.val.alloc (.cells #[.int .i64 s.K, .slice ao s.Oil.length c, .int .i64 s.Away] 28)).alloc (.cells #[.int .i64 t.K, .slice bo t.Oil.length d, .int .i64 t.Away] 28)).drew := ⟨⟨_, (x0.bel.trans (q0.mono x0.bel.size)).drew⟩, rfl⟩
     have h2 : z.val.heap[x0.val.heap.size]? = some (.cells #[.int .i64 s.K, .slice ao s.Oil.length c, .int .i64 s.Away] 28 (0, 0)) := by rw [hz]; exact q2
     have h3 : z.val.heap[x0.val.heap.size + 1]? = some (.cells #[.int .i64 t.K, .slice bo t.Oil.length d, .int .i64 t.Away] 28 (0, 0)) := by rw [hz]; exact q3
     rw [← hz]
     have hsz := FZ0.out
     show KK _ _
     exact key.out x0.val.heap.size (x0.val.heap.size + 1) z _ _ _ _ _ _ _ _ _ _ _ _ _ _ _ _ _ _ _ _ _ _ _ _ _ _ _ _ _ _ _ _ _ _ _ _ _ _ _ _ _ _ _ _ _ _ _ _ _ _ _ _ _ _ _ _ _ _ _ _ _ _ _ _ _ _ _ _ _ _ _ _ _ _ _ _ _ _ _ _ _ _ _ _ _ _ _ _ _ _ _ _ _ _ _ _ _ _ _ _ _ _ _ _ _ _ _ _ _ _ _ _ _ _ _ _ _ _ _ _ _ _ _ _ _ _ _ _ _ _ _ _ _ _ _ _ _ _ _ _ _ _ _ _ _ _ _ _ _ _ _ _ _ _ _ _ _ _ _ _ _ _ _ _ _ _ _ _ _ _ _ _ _ _ _ _ _ _ _ _ _ _ _ _ _ _ (by omega) (by omega) (by omega) h2 h3)
end Go.Proofs.Ytnafllhgjidbkaa
