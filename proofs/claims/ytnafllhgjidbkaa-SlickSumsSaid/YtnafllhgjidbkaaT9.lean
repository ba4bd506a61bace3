import Derived.Test.YtnafllhgjidbkaaT8
namespace Go.Proofs.Ytnafllhgjidbkaa
open Go.RowKit Go.Shelf
attribute [local go_sem] Oper.semAt_some
set_option linter.unusedVariables false

/-- What the blocks of a move hold when k cells have been gone over. -/
def MoveW (w : World) (bo bx : Nat) (bv : Array Value) (K : Int) (ao : Option Addr) (n c : Nat) (away : Int) (st : List Int × Int) (wr : World) : Prop :=
  Below w.heap.size w wr ∧ wr.heap[w.heap.size]? = some (.cells bv 25 (0, 0)) ∧ wr.heap[w.heap.size + 1]? = some (.cells #[.int .i64 K, .slice ao n c, .int .i64 away] 28 (0, 0)) ∧
  wr.heap[w.heap.size + 1 + 1]? = some (.cells #[.int .i64 0, .slice none 0 0, .int .i64 0] 28 (0, 0)) ∧
  wr.heap[bx]? = some (.cells #[.int .i64 (K + 1), .slice (some ⟨bo, 0, none⟩) n n, .int .i64 st.2] 28 (0, 0)) ∧ wr.heap[bo]? = some (.cells (st.1.map (Value.int .i64)).toArray 3 (0, 0))
def MoveI (w : World) (bo bx : Nat) (bv : Array Value) (K : Int) (ao : Option Addr) (n c : Nat) (away : Int) (st : Nat → List Int × Int) (a : Act) (wr : World) : Prop :=
  ∃ (k : Nat) (kk : Int) (ds : List Deferred) (u0 u1 u6 u7 u8 u9 u10 u11 u12 u13 u14 u15 u16 u17 u18 u19 u20 u24 u25 u26 u27 u28 u29 u30 u31 u32 u33 u34 u35 u36 u37 u38 u39 u40 u41 u42 u43 u44 u45 u46 u47 u48 u49 u50 u51 u52 u53 u54 u55 u56 : Value), kk = k ∧ k ≤ n ∧ a = { tmps := List.toArray (u0 :: u1 :: (.pointer (some ⟨w.heap.size, 0, none⟩)) :: (.pointer (some ⟨w.heap.size + 1, 0, none⟩)) :: (.pointer (some ⟨w.heap.size + 1 + 1, 0, none⟩)) :: (.pointer (some ⟨bx, 0, none⟩)) :: u6 :: u7 :: u8 :: u9 :: u10 :: u11 :: u12 :: u13 :: u14 :: u15 :: u16 :: u17 :: u18 :: u19 :: u20 :: (.slice ao n c) :: (.int .i64 n) :: (.int .i64 kk) :: u24 :: u25 :: u26 :: u27 :: u28 :: u29 :: u30 :: u31 :: u32 :: u33 :: u34 :: u35 :: u36 :: u37 :: u38 :: u39 :: u40 :: u41 :: u42 :: u43 :: u44 :: u45 :: u46 :: u47 :: u48 :: u49 :: u50 :: u51 :: u52 :: u53 :: u54 :: u55 :: u56 :: []), defers := ds } ∧ MoveW w bo bx bv K ao n c away (st k) wr ∧ Marks w.heap.size wr ds

set_option maxRecDepth 100000 in
set_option maxHeartbeats 1000000 in
theorem move_any (v sv : Value) (B : Bay) (s : Slk) (w : World) (hv : BayAt w v B) (hs : SlkAt w sv s) (hval : validP B) (hlen : s.Oil.length = B.Share.length) (hK : 0 ≤ s.K ∧ s.K ≤ 4)
    (hO : ∀ k, k < s.Oil.length → 0 ≤ s.Oil.getD k 0 ∧ s.Oil.getD k 0 ≤ 2359296000) (hA : 0 ≤ s.Away ∧ s.Away ≤ 2359296000) :
    Calls Try.prog 84 #[v, sv] w fun e w' => ∃ rv, e = .returned rv ∧ SlkNew w.heap.size w' rv (mv B s) ∧ Below w.heap.size w w' := by
  have hv0 := hv
  obtain ⟨la, lc, sa, sc, rfl, hl, hsh, hll, hsl⟩ := hv
  obtain ⟨ao, c, rfl, hi, hn⟩ := hs
  have hn100 : s.Oil.length ≤ 100 := by omega
  have HLEN := Lib.hid hlen
  have HO := Lib.hid hO
  have HV := Lib.hid hv0
  have HVAL := Lib.hid hval
  clear hlen hO hv0 hl hsh hval
  have hmk := make26 s.Oil.length (by omega)
  refine calls_of_wp_marks Try.func84 rfl ?_
  simp only [Try.ntmps84, List.size_toArray, List.length_cons, List.length_nil, Nat.reduceAdd, Nat.reduceSub, Array.replicate_succ, Array.replicate_zero, List.push_toArray, List.append_toArray, List.nil_append, List.cons_append]
  go_wp2
  generalize hW : (((w.alloc _).alloc _).alloc _) = W
  have h0 : W.cell? ⟨w.heap.size + 1, 0, none⟩ = some (.int .i64 s.K) := by rw [← hW]; simp [go_sem]
  have h1 : W.cell? ⟨w.heap.size + 1, 1, none⟩ = some (.slice ao s.Oil.length c) := by rw [← hW]; simp [go_sem]
  have h2 : W.cell? ⟨w.heap.size + 1, 2, none⟩ = some (.int .i64 s.Away) := by rw [← hW]; simp [go_sem]
  have hWb : Below w.heap.size w W := by rw [← hW]; exact (((Below.refl _ _).alloc (Nat.le_refl _) _).alloc (by simp) _).alloc (by simp <;> omega) _
  have hWs : W.heap.size = w.heap.size + 3 := by rw [← hW]; simp
  have hW0 : W.heap[w.heap.size]? = some (.cells #[.int .i64 B.W, .int .i64 B.H, .slice la B.Land.length lc, .slice sa B.Share.length sc] 25 (0, 0)) := by
    rw [← hW]; exact heap_alloc_old (heap_alloc_old (World.alloc_heap_new _ _) _) _
  have hW1 : W.heap[w.heap.size + 1]? = some (.cells #[.int .i64 s.K, .slice ao s.Oil.length c, .int .i64 s.Away] 28 (0, 0)) := by
    rw [← hW]; exact heap_alloc_old (by have := World.alloc_heap_new (w.alloc (.cells #[.int .i64 B.W, .int .i64 B.H, .slice la B.Land.length lc, .slice sa B.Share.length sc] 25)) (.cells #[.int .i64 s.K, .slice ao s.Oil.length c, .int .i64 s.Away] 28); rwa [World.size_alloc] at this) _
  have hW2 : W.heap[w.heap.size + 1 + 1]? = some (.cells #[.int .i64 0, .slice none 0 0, .int .i64 0] 28 (0, 0)) := by
    rw [← hW]; have := World.alloc_heap_new ((w.alloc (.cells #[.int .i64 B.W, .int .i64 B.H, .slice la B.Land.length lc, .slice sa B.Share.length sc] 25)).alloc (.cells #[.int .i64 s.K, .slice ao s.Oil.length c, .int .i64 s.Away] 28)) (.cells #[.int .i64 0, .slice none 0 0, .int .i64 0] 28); rwa [World.size_alloc, World.size_alloc] at this
  clear hW
  rename_i KK hKK
  have key : ∀ (bo bx : Nat) (W2 : World) (u0 u1 u6 u7 u8 u9 u10 u11 u12 u13 u14 u15 u16 u17 u18 u19 u20 u21 u22 u23 u24 u25 u26 u27 u28 u29 u30 u31 u32 u33 u34 u35 u36 u37 u38 u39 u40 u41 u42 u43 u44 u45 u46 u47 u48 u49 u50 u51 u52 u53 u54 u55 u56 : Value), bo ≠ bx → W.heap.size ≤ bo → W.heap.size ≤ bx → Below W.heap.size W W2 → W2.heap[bo]? = some (.cells (zeros s.Oil.length) 3 (0, 0)) →
      W2.heap[bx]? = some (.cells #[.int .i64 (s.K + 1), .slice (some ⟨bo, 0, none⟩) s.Oil.length s.Oil.length, .int .i64 (16 * s.Away)] 28 (0, 0)) → KK { tmps := List.toArray (u0 :: u1 :: (.pointer (some ⟨w.heap.size, 0, none⟩)) :: (.pointer (some ⟨w.heap.size + 1, 0, none⟩)) :: (.pointer (some ⟨w.heap.size + 1 + 1, 0, none⟩)) :: (.pointer (some ⟨bx, 0, none⟩)) :: u6 :: u7 :: u8 :: u9 :: u10 :: u11 :: u12 :: u13 :: u14 :: u15 :: u16 :: u17 :: u18 :: u19 :: u20 :: u21 :: u22 :: u23 :: u24 :: u25 :: u26 :: u27 :: u28 :: u29 :: u30 :: u31 :: u32 :: u33 :: u34 :: u35 :: u36 :: u37 :: u38 :: u39 :: u40 :: u41 :: u42 :: u43 :: u44 :: u45 :: u46 :: u47 :: u48 :: u49 :: u50 :: u51 :: u52 :: u53 :: u54 :: u55 :: u56 :: []), defers := [] } W2 := by
    intro bo bx W2 u0 u1 u6 u7 u8 u9 u10 u11 u12 u13 u14 u15 u16 u17 u18 u19 u20 u21 u22 u23 u24 u25 u26 u27 u28 u29 u30 u31 u32 u33 u34 u35 u36 u37 u38 u39 u40 u41 u42 u43 u44 u45 u46 u47 u48 u49 u50 u51 u52 u53 u54 u55 u56 hne hbo hbx hbel hZ hX
    apply hKK
    have g0 := (hbel.block _ (by omega)).trans hW0
    have g1 := (hbel.block _ (by omega)).trans hW1
    have g2 := (hbel.block _ (by omega)).trans hW2
    have c1 := cell_of_heap g1 1
    simp at c1
    have HG : Hid (MoveW w bo bx #[.int .i64 B.W, .int .i64 B.H, .slice la B.Land.length lc, .slice sa B.Share.length sc] s.K ao s.Oil.length c s.Away (mvUp B s 0) W2) :=
      ⟨hWb.trans (hbel.mono hWb.size), g0, g1, g2, hX, by rw [hZ]; simp [mvUp, zeros]⟩
    clear hZ hX g0 g1 g2 h0 h1 h2 hW0 hW1 hW2 hKK
    go_wp2
    refine wp_loop (MoveI w bo bx #[.int .i64 B.W, .int .i64 B.H, .slice la B.Land.length lc, .slice sa B.Share.length sc] s.K ao s.Oil.length c s.Away (mvUp B s)) (fun a _ => s.Oil.length - (intOf (a.tmps.getD 23 undef)).toNat) ⟨0, _, [], _, _, _, _, _, _, _, _, _, _, _, _, _, _, _, _, _, _, _, _, _, _, _, _, _, _, _, _, _, _, _, _, _, _, _, _, _, _, _, _, _, _, _, _, _, _, _, _, _, _, rfl, Nat.zero_le _, rfl, HG.out, trivial⟩ ?_
    rintro _ wr ⟨k, _, ds, u0, u1, u6, u7, u8, u9, u10, u11, u12, u13, u14, u15, u16, u17, u18, u19, u20, u24, u25, u26, u27, u28, u29, u30, u31, u32, u33, u34, u35, u36, u37, u38, u39, u40, u41, u42, u43, u44, u45, u46, u47, u48, u49, u50, u51, u52, u53, u54, u55, u56, rfl, hk, rfl, ⟨hb, g0, g1, g2, gx, go⟩, hm⟩
    have HX := Lib.hid gx
    have HO' := Lib.hid go
    have HG0 := Lib.hid g0
    have HG1 := Lib.hid g1
    have HG2 := Lib.hid g2
    have d0 := cell_of_heap g0 0
    have d1 := cell_of_heap g0 1
    have d2 := cell_of_heap g0 2
    have d3 := cell_of_heap g0 3
    simp at d0 d1 d2 d3
    clear gx go g0 g1 g2 c1
    by_cases hlt : k < s.Oil.length
    · obtain ⟨bi, oi, rfl, hbi, hci⟩ := (hi.below (Nat.le_refl _) hb).get hlt
      have hxr := HO.out k hlt
      generalize hx : s.Oil.getD k 0 = x at hci hxr
      have HXX := Lib.hid hx
      clear hx
      have hwi : w.heap.size < wr.heap.size := heap_lt HG0.out
      go_wp2_with (first | (go_at_call 90; refine (flows_any _ _ _ _ _ _ _ _ _ _).mono ?_; rintro e w1 ⟨rfl, rfl⟩))
      clear d0 d1 d2 d3 hci
      generalize hW1 : (((wr.alloc _).alloc _).alloc _) = W1
      have s1 : W1.heap.size = wr.heap.size + 3 := by rw [← hW1]; simp
      have e0 : W1.heap[wr.heap.size]? = some (.cells #[.int .i64 x] 3 (0, 0)) := by rw [← hW1]; exact heap_alloc_old (heap_alloc_old (World.alloc_heap_new _ _) _) _
      have e1 : W1.heap[wr.heap.size + 1]? = some (.cells #[.int .i64 B.W, .int .i64 B.H, .slice la B.Land.length lc, .slice sa B.Share.length sc] 25 (0, 0)) := by
        rw [← hW1]; exact heap_alloc_old (by have := World.alloc_heap_new (wr.alloc (.cells #[.int .i64 x] 3)) (.cells #[.int .i64 B.W, .int .i64 B.H, .slice la B.Land.length lc, .slice sa B.Share.length sc] 25); rwa [World.size_alloc] at this) _
      have e2 : W1.heap[wr.heap.size + 1 + 1]? = some (.cells #[.int .i64 k] 3 (0, 0)) := by
        rw [← hW1]; have := World.alloc_heap_new ((wr.alloc (.cells #[.int .i64 x] 3)).alloc (.cells #[.int .i64 B.W, .int .i64 B.H, .slice la B.Land.length lc, .slice sa B.Share.length sc] 25)) (.cells #[.int .i64 k] 3); rwa [World.size_alloc, World.size_alloc] at this
      have e3 : Below wr.heap.size wr W1 := by rw [← hW1]; exact (((Below.refl _ _).alloc (Nat.le_refl _) _).alloc (by simp) _).alloc (by simp <;> omega) _
      clear hW1
      have hbxlt : bx < wr.heap.size := heap_lt HX.out
      have hbolt : bo < wr.heap.size := heap_lt HO'.out
      have hks : k < B.Share.length := by have := HLEN.out; omega
      have hbxw : w.heap.size ≤ bx := by omega
      have hbow : w.heap.size ≤ bo := by omega
      have h36 : s.Oil.length ≤ 36 := by
        have h1 := mul36 HVAL.out.1.1 HVAL.out.1.2 HVAL.out.2.1.1 HVAL.out.2.1.2
        have h2 := HVAL.out.2.2.2.1; have := HLEN.out; omega
      have hbdk := mvUp_bd (by omega) HVAL.out HLEN.out HO.out hA k (by omega)
      refine wp_range (gf := 98) (lb := #[.pointer (some ⟨wr.heap.size + 1, 0, none⟩), .pointer (some ⟨wr.heap.size + 1 + 1, 0, none⟩)]) rfl (enters_of Try.func98 (by kernel_rfl) rfl)
        (flows_stops w.heap.size (wr.heap.size + 1) (wr.heap.size + 1 + 1) w B _ k W1 ⟨by omega, _, _, _, _, rfl, (cell_of_heap e1 0), (cell_of_heap e1 1), (cell_of_heap e1 2), (cell_of_heap e1 3)⟩ (by omega) (cell_of_heap e2 0) HV.out (hb.trans (e3.mono hb.size)) rfl HVAL.out hks)
        (fun h k => KeepS.trans h k) (fun W l o hl => KeepS.putObj W l o (by have := hb.size; rintro (h | rfl | rfl) <;> omega)) (fun _ => rfl)
        (fun pre W => Upto W1.heap.size (fun b => b = bx ∨ b = bo) W1 W ∧ W.heap[bx]? = some (.cells #[.int .i64 (s.K + 1), .slice (some ⟨bo, 0, none⟩) s.Oil.length s.Oil.length, .int .i64 (((pre.map (·.1)).foldl (stepF x) (mvUp B s k)).2)] 28 (0, 0)) ∧
          W.heap[bo]? = some (.cells ((((pre.map (·.1)).foldl (stepF x) (mvUp B s k)).1).map (Value.int .i64)).toArray 3 (0, 0)))
        (fun _ _ _ => False)
        (OwnFrom.and (own_upto (Nat.le_refl _)) (OwnFrom.and (own_cells bx _ _ _) (own_cells bo _ _ _)))
        (fun _ _ _ _ _ hs _ _ => hs)
        ⟨Upto.refl _ _ _, (e3.block _ hbxlt).trans HX.out, (e3.block _ hbolt).trans HO'.out⟩
        (fun y a' W => ∃ (fb : Nat) (y0 y1 y2 y3 y4 y6 y9 y10 y11 y12 y13 y14 y15 y16 y17 y18 y19 y20 y21 y22 y23 y24 y25 y26 y27 y28 y29 y30 y31 y32 y33 y34 y35 y36 y37 y38 y39 y40 y41 y42 y43 y44 y45 y46 y47 y48 y49 y50 y51 y52 y53 y54 y55 y56 : Value), W1.heap.size ≤ fb ∧ W.heap[fb]? = some (.cells #[.int .i64 y.1.1, .int .i64 y.1.2] 102 (0, 0)) ∧ a' = { tmps := List.toArray (y0 :: y1 :: y2 :: y3 :: y4 :: (.pointer (some ⟨bx, 0, none⟩)) :: y6 :: (.pointer (some ⟨wr.heap.size, 0, none⟩)) :: (.pointer (some ⟨fb, 0, none⟩)) :: y9 :: y10 :: y11 :: y12 :: y13 :: y14 :: y15 :: y16 :: y17 :: y18 :: y19 :: y20 :: y21 :: y22 :: y23 :: y24 :: y25 :: y26 :: y27 :: y28 :: y29 :: y30 :: y31 :: y32 :: y33 :: y34 :: y35 :: y36 :: y37 :: y38 :: y39 :: y40 :: y41 :: y42 :: y43 :: y44 :: y45 :: y46 :: y47 :: y48 :: y49 :: y50 :: y51 :: y52 :: y53 :: y54 :: y55 :: y56 :: []), defers := [] })
        (fun y a' => ?hAx) ?assign ?body ?done ?stop
      case hAx =>
        rintro _ W W' row ⟨fb, y0, y1, y2, y3, y4, y6, y9, y10, y11, y12, y13, y14, y15, y16, y17, y18, y19, y20, y21, y22, y23, y24, y25, y26, y27, y28, y29, y30, y31, y32, y33, y34, y35, y36, y37, y38, y39, y40, y41, y42, y43, y44, y45, y46, y47, y48, y49, y50, y51, y52, y53, y54, y55, y56, q1, q2, q3⟩ hg hr
        exact ⟨fb, y0, y1, y2, y3, y4, y6, y9, y10, y11, y12, y13, y14, y15, y16, y17, y18, y19, y20, y21, y22, y23, y24, y25, y26, y27, y28, y29, y30, y31, y32, y33, y34, y35, y36, y37, y38, y39, y40, y41, y42, y43, y44, y45, y46, y47, y48, y49, y50, y51, y52, y53, y54, y55, y56, q1, own_cells fb (fun (_ : Unit) => _) 102 (0, 0) () W W' row q2 hg hr, q3⟩
      case assign =>
        rintro l pre y W K ⟨hU, hx5, ho5⟩ hK
        have hsz := hU.size
        gi_wp2
        exact hK _ _ ((KeepsOthers.alloc _ _).from _) ((KeepS.refl _ _).alloc (by have := hb.size; rintro q (h | rfl | rfl) <;> omega) _) ⟨hU.alloc hsz _, heap_alloc_old hx5 _, heap_alloc_old ho5 _⟩
          ⟨W.heap.size, _, _, _, _, _, _, _, _, _, _, _, _, _, _, _, _, _, _, _, _, _, _, _, _, _, _, _, _, _, _, _, _, _, _, _, _, _, _, _, _, _, _, _, _, _, _, _, _, _, _, _, _, _, _, hsz, World.alloc_heap_new _ _, rfl⟩
      case body =>
        rintro l pre y a' W hl hr ⟨hU, hx5, ho5⟩ ⟨fb, y0, y1, y2, y3, y4, y6, y9, y10, y11, y12, y13, y14, y15, y16, y17, y18, y19, y20, y21, y22, y23, y24, y25, y26, y27, y28, y29, y30, y31, y32, y33, y34, y35, y36, y37, y38, y39, y40, y41, y42, y43, y44, y45, y46, y47, y48, y49, y50, y51, y52, y53, y54, y55, y56, hfb, hfc, rfl⟩ hlen
        have hfl := flow_bd HVAL.out hks y.1 y.2
        have hfold : ((pre ++ [y]).map (·.1)).foldl (stepF x) (mvUp B s k) = stepF x ((pre.map (·.1)).foldl (stepF x) (mvUp B s k)) y.1 := by
          rw [List.map_append, List.foldl_append]; rfl
        have hbd := bdd_fold hxr.1 hxr.2 (pre.map (·.1)) hbdk (by
          intro z hz; obtain ⟨z', _, rfl⟩ := List.mem_map.1 hz; exact (flow_bd HVAL.out hks z'.1 z'.2).2)
        rw [List.length_map] at hbd
        have hbd2 := bdd_mono hbd (by omega) (show 5 * k + pre.length ≤ 200 by omega)
        have hlenst : ((pre.map (·.1)).foldl (stepF x) (mvUp B s k)).1.length = s.Oil.length := by rw [foldF_len, mvUp_len]
        generalize (pre.map (·.1)).foldl (stepF x) (mvUp B s k) = st at hx5 ho5 hbd2 hlenst hfold
        have HFOLD := Lib.hid hfold
        obtain ⟨hb1, hb2, hb3⟩ := hbd2
        have q0 : W.cell? ⟨wr.heap.size, 0, none⟩ = some (.int .i64 x) := cell_of_heap ((hU.block _ (by omega) (by rintro (h | h) <;> omega)).trans e0) 0
        have f0 : W.cell? ⟨fb, 0, none⟩ = some (.int .i64 y.1.1) := cell_of_heap hfc 0
        have f1 : W.cell? ⟨fb, 1, none⟩ = some (.int .i64 y.1.2) := cell_of_heap hfc 1
        have x1 : W.cell? ⟨bx, 1, none⟩ = some (.slice (some ⟨bo, 0, none⟩) s.Oil.length s.Oil.length) := cell_of_heap hx5 1
        have x2 : W.cell? ⟨bx, 2, none⟩ = some (.int .i64 st.2) := cell_of_heap hx5 2
        have xf := free_of_heap hx5 2
        have HX5 := Lib.hid hx5
        have HO5 := Lib.hid ho5
        have HFC := Lib.hid hfc
        have HU := Lib.hid hU
        have HE0 := Lib.hid e0
        have hp0 : 0 ≤ x * y.1.2 := Int.mul_nonneg hxr.1 hfl.2.1
        have hp1 : x * y.1.2 ≤ 2359296000 * 16 := Int.le_trans (Int.mul_le_mul_of_nonneg_left hfl.2.2 hxr.1) (Int.mul_le_mul_of_nonneg_right hxr.2 (by omega))
        clear hfold hbd hbdk hx5 ho5 hfc hU e0
        rcases hfl.1 with hm1 | ⟨t, ht, htl⟩
        · rw [hm1] at f0
          have hst : stepF x st y.1 = (st.1, st.2 + x * y.1.2) := by unfold stepF; rw [if_pos hm1]
          have HST := Lib.hid hst
          have HB1 := Lib.hid hb1
          clear hst hm1 hb1
          gi_wp2
          refine ⟨(KeepsOthers.setCell _ _ _).from _, (KeepS.refl _ _).setCell (p := ⟨bx, 2, none⟩) (by rintro (h | h | h) <;> (simp at h; omega)) _, HU.out.setCell (.inr (.inl rfl)) _, ?_, ?_⟩
          · rw [HFOLD.out, HST.out]; exact heap_setCell_same HX5.out _
          · rw [HFOLD.out, HST.out]; exact (heap_setCell_other (by simp; omega) _).trans HO5.out
        · rw [ht] at f0
          have hbt := hb1 t
          have o1 : W.cell? ⟨bo, t, none⟩ = some (.int .i64 (st.1.getD t 0)) := by
            rw [cell_of_heap HO5.out t]; simp [List.getD_eq_getElem?_getD, hlenst, show t < s.Oil.length by have := HLEN.out; omega]
          have of := free_of_heap HO5.out t
          have hst : stepF x st y.1 = (st.1.set t (st.1.getD t 0 + x * y.1.2), st.2) := by unfold stepF; rw [if_neg (by omega), ht]; rfl
          generalize st.1.getD t 0 = ot at o1 hst hbt
          have HST := Lib.hid hst
          have HB1 := Lib.hid hb1
          have htl' : t < s.Oil.length := by have := HLEN.out; omega
          clear hst hb1 ht
          gi_wp2
          refine wpIn_region_tail 12 (by kernel_rfl) (by kernel_rfl) (by kernel_rfl) (fun ⟨_, _, h⟩ => h) ?_
          simp only [List.take_succ_cons, List.take_zero, List.drop_succ_cons, List.drop_zero]
          repeat still_step
          refine wpStill_nil ?_
          go_wp2
          refine ⟨((KeepsOthers.setCell _ _ _).trans (KeepsOthers.drew _)).from _, ((KeepS.refl _ _).setCell (p := ⟨bo, t, none⟩) (by rintro (h | h | h) <;> (simp at h; omega)) _).drew, (HU.out.setCell (.inr (.inr rfl)) _).drew, ?_, ?_⟩
          · rw [HFOLD.out, HST.out]; exact (heap_setCell_other (by simp; omega) _).trans HX5.out
          · rw [HFOLD.out, HST.out]; refine (heap_setCell_same HO5.out _).trans ?_
            simp [List.map_set]
      case stop => exact fun _ _ _ _ _ _ h => h.elim
      case done =>
        rintro D xs W hD hS ⟨hU, hx5, ho5⟩ hdD
        have hrow : (xs.map (·.1)).foldl (stepF x) (mvUp B s k) = mvUp B s (k + 1) := by rw [hS, mvUp_succ, rowF, HXX.out]
        rw [hrow] at hx5 ho5
        have hsz := hU.size
        have hbel1 : Below w.heap.size wr W := (e3.mono hb.size).trans (hU.below (by have := hb.size; omega) (by rintro q (rfl | rfl) <;> omega))
        have n0 : (wr.heap.size : Nat) ≤ D := by omega
        have hlow : ∀ q, q < wr.heap.size → q ≠ bx → q ≠ bo → W.heap[q]? = wr.heap[q]? := fun q hq h1 h2 => (hU.block q (by omega) (by rintro (h | h); exact h1 h; exact h2 h)).trans (e3.block q hq)
        have hne0 : w.heap.size + 1 + 1 < wr.heap.size := heap_lt HG2.out
        have hbx2 : w.heap.size + 1 + 1 < bx := by omega
        have hbo2 : w.heap.size + 1 + 1 < bo := by omega
        have HMW : Hid (MoveW w bo bx #[.int .i64 B.W, .int .i64 B.H, .slice la B.Land.length lc, .slice sa B.Share.length sc] s.K (some ⟨bi, oi, none⟩) s.Oil.length c s.Away (mvUp B s (k + 1)) W) :=
          ⟨hb.trans hbel1, (hlow _ (by omega) (by omega) (by omega)).trans HG0.out, (hlow _ (by omega) (by omega) (by omega)).trans HG1.out, (hlow _ hne0 (by omega) (by omega)).trans HG2.out, hx5, ho5⟩
        have HMK : Hid (Marks w.heap.size W ({ target := .collected D, args := #[] } :: ds)) := hm.cons n0 (by have := hb.size; omega) hdD (fun q hq h => (hlow q hq (by rintro rfl; rw [HX.out] at h; cases h) (by rintro rfl; rw [HO'.out] at h; cases h)).trans h)
        clear hx5 ho5 hrow hU hlow hdD hbel1 e0 e1 e2 e3 hm hbdk
        go_wp2
        refine ⟨⟨k + 1, _, _, _, _, _, _, _, _, _, _, _, _, _, _, _, _, _, _, _, _, _, _, _, _, _, _, _, _, _, _, _, _, _, _, _, _, _, _, _, _, _, _, _, _, _, _, _, _, _, _, _, _, ?_, by omega, rfl, HMW.out, HMK.out⟩, by simp [intOf]; omega⟩
        omega
    · obtain rfl : k = s.Oil.length := by omega
      have x0 := cell_of_heap HX.out 0
      have x1 := cell_of_heap HX.out 1
      have x2 := cell_of_heap HX.out 2
      simp at x0 x1 x2
      have r0 := cell_of_heap HG2.out 0
      have r1 := cell_of_heap HG2.out 1
      have r2 := cell_of_heap HG2.out 2
      simp at r0 r1 r2
      have rf0 := free_of_heap HG2.out 0
      have rf1 := free_of_heap HG2.out 1
      have rf2 := free_of_heap HG2.out 2
      have HM := Lib.hid hm
      clear hm d0 d1 d2 d3
      go_wp2
      have hwb : w.heap.size + 1 + 1 < W.heap.size := by omega
      refine leaves_marks (B := w.heap.size) ?_ ?_
      · refine HM.out.keep (fun D hD _ => ?_)
        have hne : D ≠ w.heap.size + 1 + 1 := by rintro rfl; rw [HG2.out] at hD; cases hD
        rw [heap_setCell_other hne, heap_setCell_other hne, heap_setCell_other hne]; exact hD
      · intro W' hU hC
        have hr := hC _ _ _ _ (heap_setCell_same (heap_setCell_same (heap_setCell_same HG2.out (i := 0) (.int .i64 (s.K + 1))) (i := 1) (.slice (some ⟨bo, 0, none⟩) s.Oil.length s.Oil.length)) (i := 2) (.int .i64 (mvUp B s s.Oil.length).snd))
        have ho := hC bo _ 3 (0, 0) (by rw [heap_setCell_other (by simp; omega), heap_setCell_other (by simp; omega), heap_setCell_other (by simp; omega)]; exact HO'.out)
        have c0 := cell_of_heap hr 0
        have c1 := cell_of_heap hr 1
        have c2 := cell_of_heap hr 2
        simp at c0 c1 c2
        refine ⟨.agg #[.int .i64 (s.K + 1), .slice (some ⟨bo, 0, none⟩) s.Oil.length s.Oil.length, .int .i64 (mvUp B s s.Oil.length).snd], ?_, _, rfl, ⟨some ⟨bo, 0, none⟩, s.Oil.length, ?_, ints_of_heap ho, ?_, ?_⟩, ?_⟩
        · simp [results, Try.results84, go_sem, c0, c1, c2]
        · show _ = Value.agg #[.int .i64 (s.K + 1), .slice _ (mvUp B s s.Oil.length).1.length _, _]; rw [mvUp_len]; rfl
        · show (mvUp B s s.Oil.length).1.length < _; rw [mvUp_len]; exact hn
        · intro a ha; cases ha; show w.heap.size ≤ bo; omega
        · exact ((hb.setCell (by simp; omega) _).setCell (by simp; omega) _).setCell (by simp; omega) _ |>.trans (hU.below (Nat.le_refl _) (fun _ h => h.elim))
  have h0' := h0
  have HWS := Lib.hid hWs
  have hw1 : IntKind.i64.wrap (s.K + 1) = s.K + 1 := IntWalk.i64_in _ (by omega)
  have hw2 : IntKind.i64.wrap (16 * s.Away) = 16 * s.Away := IntWalk.i64_in _ (by omega)
  have HW1 := Lib.hid hw1
  have HW2 := Lib.hid hw2
  clear hw1 hw2
  clear hKK hWs hW0 hW1 hW2
  go_region_held3 (fun w' => w'.cell? ⟨w.heap.size + 1, 0, none⟩ = some (.int .i64 s.K) ∧ w'.cell? ⟨w.heap.size + 1, 1, none⟩ = some (.slice ao s.Oil.length c) ∧ w'.cell? ⟨w.heap.size + 1, 2, none⟩ = some (.int .i64 s.Away)) (go_keep) (first | fail)
  · show KK _ _
    refine key W.heap.size (W.heap.size + 1) _ _ _ _ _ _ _ _ _ _ _ _ _ _ _ _ _ _ _ _ _ _ _ _ _ _ _ _ _ _ _ _ _ _ _ _ _ _ _ _ _ _ _ _ _ _ _ _ _ _ _ _ _ _ (by omega) (Nat.le_refl _) (by omega) ?_ ?_ ?_
    · exact (((Below.refl _ _).alloc (Nat.le_refl _) _).alloc (by simp) _).drew
    · exact heap_alloc_old (World.alloc_heap_new _ _) _
    · rw [HW1.out, HW2.out]
      have := World.alloc_heap_new (W.alloc (.cells (zeros s.Oil.length) 3)) (.cells #[.int .i64 (s.K + 1), .slice (some ⟨W.heap.size, 0, none⟩) s.Oil.length s.Oil.length, .int .i64 (16 * s.Away)] 28)
      rw [World.size_alloc] at this; exact this
  · show KK _ _
    refine key (W.heap.size + 1) W.heap.size _ _ _ _ _ _ _ _ _ _ _ _ _ _ _ _ _ _ _ _ _ _ _ _ _ _ _ _ _ _ _ _ _ _ _ _ _ _ _ _ _ _ _ _ _ _ _ _ _ _ _ _ _ _ (by omega) (by omega) (Nat.le_refl _) ?_ ?_ ?_
    · exact (((Below.refl _ _).alloc (Nat.le_refl _) _).alloc (by simp) _).drew
    · have := World.alloc_heap_new (W.alloc (.cells #[.int .i64 (s.K + 1), .slice (some ⟨W.heap.size + 1, 0, none⟩) s.Oil.length s.Oil.length, .int .i64 (16 * s.Away)] 28)) (.cells (zeros s.Oil.length) 3)
      rw [World.size_alloc] at this; rw [HW1.out, HW2.out]; exact this
    · rw [HW1.out, HW2.out]; exact heap_alloc_old (World.alloc_heap_new _ _) _
end Go.Proofs.Ytnafllhgjidbkaa
