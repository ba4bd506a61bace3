/- Same. -/
import Derived.Test.YtnafllhgjidbkaaAD
import Derived.Test.YtnafllhgjidbkaaT46
namespace Go.Proofs.Ytnafllhgjidbkaa
open Go.RowKit
set_option linter.unusedVariables false
set_option linter.unusedSimpArgs false
theorem rng_amt {y : Slk} (hK : 0 ≤ y.K ∧ y.K ≤ 5) : amtB (y.Oil ++ [y.Away]) (36000 * 16 ^ y.K.toNat) = true ↔ rngP y := by
  have e : lim y.K = 36000 * 16 ^ y.K.toNat := rfl
  rw [← e]
  unfold amtB rngP
  rw [List.all_append, Bool.and_eq_true]
  constructor
  · rintro ⟨h1, h2⟩
    have h3 : okB (lim y.K) y.Away = true := by simpa using h2
    exact ⟨hK, h1, (okB_iff.1 h3).1, (okB_iff.1 h3).2⟩
  · rintro ⟨_, h1, h2, h3⟩
    exact ⟨h1, by simpa using okB_iff.2 ⟨h2, h3⟩⟩
theorem between_k {n0 nx : Nat} {L : List E} {K : V → List E → Nat → Prop} {a b c : Int} (hK : K (V.c (.bool (betwB a b c))) [] nx) : CallK Try.prog n0 60 [V.i a, V.i b, V.i c] L nx K :=
  CallK.oldS (u := V.c (.bool (betwB a b c))) (by kernel_rfl) trivial (fun ρ w hp => between_any a b c w) hK
theorem power_k {n0 nx : Nat} {L : List E} {K : V → List E → Nat → Prop} {k : Int} (h : 0 ≤ k ∧ k ≤ 5) (hK : K (V.i (16 ^ k.toNat)) [] nx) : CallK Try.prog n0 74 [V.i k] L nx K :=
  CallK.oldS (u := V.i (16 ^ k.toNat)) (by kernel_rfl) trivial (fun ρ w hp => power_any k w h.1 h.2) hK
theorem clone_k {n0 nx a : Nat} {k : Kd} {l : List Int} {L : List E} {K : V → List E → Nat → Prop} (hn : l.length ≤ 1000000) (ha : find L a = some ⟨a, k, l.map C.i⟩) (hK : K (V.c (.sl nx l.length)) [⟨nx, .vec 3 1, l.map C.i⟩] (nx + 1)) : CallK Try.prog n0 71 [V.c (.sl a l.length)] L nx K :=
  CallK.oldVec (l := l) (by kernel_rfl) (fun ρ w hp => clone_any _ _ l w (ints_of hp ha) hn) hK
theorem amounts_k {n0 nx a n : Nat} {k : Kd} {l : List Int} {lim : Int} {L : List E} {K : V → List E → Nat → Prop} (he : n = l.length) (hn : l.length < 1152921504606846976) (ha : find L a = some ⟨a, k, l.map C.i⟩) (hK : K (V.c (.bool (amtB l lim))) [] nx) : CallK Try.prog n0 73 [V.c (.sl a n), V.i lim] L nx K := by
  subst he
  exact CallK.old (u := V.c (.bool (amtB l lim))) (by kernel_rfl) trivial (fun ρ w hp => amounts_any _ _ l lim w (ints_of hp ha) hn) hK
theorem find_app {L : List E} {l : Nat} {k : Kd} {s : List Int} {x : Int} (h : find L l = some ⟨l, k, s.map C.i ++ [C.i x]⟩) : find L l = some ⟨l, k, (s ++ [x]).map C.i⟩ := by
  rw [List.map_append]; exact h
theorem ptr_of {ρ : Env} {a b : Nat} (h : (ρ a).1 = some ⟨b, 0, none⟩) : ptrD ρ (a, 0) = .pointer (some ⟨b, 0, none⟩) := by
  unfold ptrD; simp only [h]; rw [add_zero_map]
theorem pair_of {n0 nx bt bs : Nat} {ρ : Env} {w : World} {L : List E} {s t : Slk} {la lb : Nat} (hp : Hp n0 ρ w L nx)
    (ht : find L bt = some ⟨bt, .own 28, [C.i t.K, C.sl lb t.Oil.length, C.i t.Away]⟩) (hs : find L bs = some ⟨bs, .own 28, [C.i s.K, C.sl la s.Oil.length, C.i s.Away]⟩) :
    ∃ p q, ptrD ρ (bt, 0) = .pointer (some ⟨p, 0, none⟩) ∧ ptrD ρ (bs, 0) = .pointer (some ⟨q, 0, none⟩) ∧ w.cell? ⟨p, 0, none⟩ = some (.int .i64 t.K) ∧ w.cell? ⟨q, 0, none⟩ = some (.int .i64 s.K) := by
  obtain ⟨p, h1, h2⟩ := own_of hp ht
  obtain ⟨q, h3, h4⟩ := own_of hp hs
  exact ⟨p, q, ptr_of h1, ptr_of h3, cell_of_heap h2 0, cell_of_heap h4 0⟩
theorem equalF_k {n0 nx bt bs la lb : Nat} {ka kb : Kd} {s t : Slk} {L : List E} {K : V → List E → Nat → Prop} (hs : rngP s) (ht : rngP t) (hsn : s.Oil.length ≤ 1000000) (htn : t.Oil.length ≤ 1000000)
    (ha : find L la = some ⟨la, ka, s.Oil.map C.i⟩) (hb : find L lb = some ⟨lb, kb, t.Oil.map C.i⟩)
    (hpt : find L bt = some ⟨bt, .own 28, [C.i t.K, C.sl lb t.Oil.length, C.i t.Away]⟩) (hps : find L bs = some ⟨bs, .own 28, [C.i s.K, C.sl la s.Oil.length, C.i s.Away]⟩)
    (hK : K (V.c (.bool (eqfB s.Oil t.Oil (16 ^ t.K.toNat) (16 ^ s.K.toNat)))) [] nx) :
    CallK Try.prog n0 76 [V.c (.sl la s.Oil.length), V.c (.sl lb t.Oil.length), V.c (.fn 75 [(bt, 0), (bs, 0)])] L nx K := by
  refine CallK.old (u := V.c (.bool (eqfB s.Oil t.Oil (16 ^ t.K.toNat) (16 ^ s.K.toNat)))) (by kernel_rfl) trivial (fun ρ w hp => ?_) hK
  obtain ⟨p, q, h1, h2, h3, h4⟩ := pair_of hp hpt hps
  have h := equalFunc_any (ρ la).1 (ρ lb).1 (ρ la).2 (ρ lb).2 s.Oil t.Oil t.K s.K p q w (ints_of hp ha) (ints_of hp hb) h3 h4 hsn htn (rng_bd hs).1 (rng_bd ht).1 ht.1 hs.1
  have e : ([V.c (.sl la s.Oil.length), V.c (.sl lb t.Oil.length), V.c (.fn 75 [(bt, 0), (bs, 0)])].map (V.den ρ)).toArray = #[.slice (ρ la).1 s.Oil.length (ρ la).2, .slice (ρ lb).1 t.Oil.length (ρ lb).2, .func (.func 75) #[] #[.pointer (some ⟨p, 0, none⟩), .pointer (some ⟨q, 0, none⟩)]] := by
    rw [← h1, ← h2]; rfl
  rw [e]
  exact h
theorem same1_k {n0 nx bt bs la lb : Nat} {s t : Slk} {a b : Int} {L : List E} {K : V → List E → Nat → Prop} (hs : rngP s) (ht : rngP t) (ha : 0 ≤ a ∧ a ≤ 37748736000) (hb : 0 ≤ b ∧ b ≤ 37748736000)
    (hpt : find L bt = some ⟨bt, .own 28, [C.i t.K, C.sl lb t.Oil.length, C.i t.Away]⟩) (hps : find L bs = some ⟨bs, .own 28, [C.i s.K, C.sl la s.Oil.length, C.i s.Away]⟩)
    (hK : K (V.c (.bool (prB a b (16 ^ t.K.toNat) (16 ^ s.K.toNat)))) [] nx) :
    CallK Try.prog n0 75 [V.i a, V.i b, V.c (.ptr bt 0), V.c (.ptr bs 0)] L nx K := by
  refine CallK.old (u := V.c (.bool (prB a b (16 ^ t.K.toNat) (16 ^ s.K.toNat)))) (by kernel_rfl) trivial (fun ρ w hp => ?_) hK
  obtain ⟨p, q, h1, h2, h3, h4⟩ := pair_of hp hpt hps
  have h := same1_any a b t.K s.K p q w h3 h4 ha hb ht.1 hs.1
  have e : ([V.i a, V.i b, V.c (.ptr bt 0), V.c (.ptr bs 0)].map (V.den ρ)).toArray = #[.int .i64 a, .int .i64 b, .pointer (some ⟨p, 0, none⟩), .pointer (some ⟨q, 0, none⟩)] := by
    rw [← h1, ← h2]; rfl
  rw [e]
  exact h
theorem chk_app (p : Nat → Bool) (l : List Int) (x : Int) (lab : Nat) (kd : Kd) : (([⟨lab, kd, l.map C.i ++ [C.i x]⟩] : List E).all fun e => e.cs.all (C.chk p)) = true := by
  simp only [List.all_cons, List.all_nil, Bool.and_true, List.all_append]
  rw [chk_ints]; rfl
set_option maxRecDepth 100000 in
theorem same_spec (s t : Slk) (hsn : s.Oil.length ≤ 1000) (htn : t.Oil.length ≤ 1000) :
    Spec Try.prog 42 [V.agg [C.i s.K, C.sl 0 s.Oil.length, C.i s.Away], V.agg [C.i t.K, C.sl 1 t.Oil.length, C.i t.Away]] [⟨0, .ro 0, s.Oil.map C.i⟩, ⟨1, .ro 0, t.Oil.map C.i⟩] 2 (Is (V.c (.bool (samB s t)))) := by
  refine Spec.of tok Try.func42 rfl rfl rfl fun n0 => vc_ok tok ?_
  repeat ((conv => whnf); first
      | (refine And.intro (by first | omega | exact Nat.le_of_ble_eq_true rfl | (dsimp only [inK]; omega) | (simp only [mulS_eq]; omega) | (simp only [mulS_eq, setL_length]; omega) | (simp only [setL_length, List.length_map]; omega) | exact ⟨by omega, by omega, by first | exact Nat.le_of_ble_eq_true rfl | (dsimp only; omega) | (simp only [setL_length]; omega) | (simp only [setL_length, List.length_map]; omega)⟩ | exact ⟨by omega, by first | rfl | omega, by omega, Nat.le_of_ble_eq_true rfl, Nat.le_of_ble_eq_true rfl⟩ | exact ⟨rfl, rfl, rfl, Nat.le_of_ble_eq_true rfl, by first | rfl | omega | exact Nat.le_of_ble_eq_true rfl | (simp; done) | (simp; omega), by first | rfl | omega | exact Nat.le_of_ble_eq_true rfl | (simp; done) | (simp; omega), by omega, Nat.le_of_ble_eq_true rfl⟩ | exact Eq.refl true) ?_)
      | (refine Exists.intro _ (And.intro rfl ?_))
      | (refine br_t (by omega) ?_)
      | (refine br_f (by omega) ?_)
      | (refine bs_t (by omega) ?_)
      | (refine bs_f (by omega) ?_)
      | (refine fun (K' : K3) hK' => ?_)
      | (refine hK' _ _ _ ?_; clear hK' K')
      | (refine draw_auto tok mixed (by kernel_rfl) ?_)
      | (refine And.intro (And.intro rfl rfl) ?_))
  refine Tri.loop (γ := Nat) (fun k => k ≤ 2 ∧ (0 < k → rngP s) ∧ (1 < k → rngP t))
    (fun k => [(2, V.c (.ptr 2 0)), (3, V.c (.ptr 3 0)), (10, V.c (.sl 4 2)), (11, V.i 2), (12, V.i (k : Int))])
    (fun k => [⟨0, .ro 0, s.Oil.map C.i⟩, ⟨1, .ro 0, t.Oil.map C.i⟩, ⟨2, .own 28, [C.i s.K, C.sl 0 s.Oil.length, C.i s.Away]⟩, ⟨3, .own 28, [C.i t.K, C.sl 1 t.Oil.length, C.i t.Away]⟩,
      ⟨4, .vec 28 3, [C.i s.K, C.sl 0 s.Oil.length, C.i s.Away, C.i t.K, C.sl 1 t.Oil.length, C.i t.Away]⟩]) 5 (fun k => 2 - k) 0 (R0 := []) ?_ ?_ ?_
  · exact ⟨by omega, by omega, by omega⟩
  · skip
    refine ⟨?_, ?_, rfl, rfl, Nat.le_of_ble_eq_true rfl⟩
    · repeat (first | exact trivial | refine And.intro (And.intro (by first | rfl) (And.intro rfl (by first | exact trivial | exact Nat.le_of_ble_eq_true rfl))) ?_)
    · repeat (first | exact trivial | refine And.intro (covE_id (Nat.le_of_ble_eq_true rfl) (by first | exact wf_ints _ _ | exact wf_bools _ _ | fail | simp [C.wf]) rfl (by first | rfl | (fail))) ?_)
  · rintro k ⟨hk, h1, h2⟩
    refine vc_ok tok ?_
    have hcase : k = 0 ∨ k = 1 ∨ k = 2 := by omega
    rcases hcase with rfl | rfl | rfl
    · by_cases hK : 0 ≤ s.K ∧ s.K ≤ 5
      · have hbt : (!betwB 0 s.K 5) = false := by simp [betwB]; omega
        have hps := pow_bd s.K hK.1 hK.2
        by_cases hr : rngP s
        · have ham : (!amtB (s.Oil ++ [s.Away]) (36000 * 16 ^ s.K.toNat)) = false := by rw [(rng_amt hK).2 hr]; rfl
          repeat ((conv => whnf); first
              | (refine And.intro (by first | omega | exact Nat.le_of_ble_eq_true rfl | (dsimp only [inK]; omega) | (simp only [mulS_eq]; omega) | (simp only [mulS_eq, setL_length]; omega) | (simp only [setL_length, List.length_map]; omega) | exact ⟨by omega, by omega, by first | exact Nat.le_of_ble_eq_true rfl | (dsimp only; omega) | (simp only [setL_length]; omega) | (simp only [setL_length, List.length_map]; omega)⟩ | exact ⟨by omega, by first | rfl | omega, by omega, Nat.le_of_ble_eq_true rfl, Nat.le_of_ble_eq_true rfl⟩ | exact ⟨rfl, rfl, rfl, Nat.le_of_ble_eq_true rfl, by first | rfl | omega | exact Nat.le_of_ble_eq_true rfl | (simp; done) | (simp; omega), by first | rfl | omega | exact Nat.le_of_ble_eq_true rfl | (simp; done) | (simp; omega), by omega, Nat.le_of_ble_eq_true rfl⟩ | exact Eq.refl true) ?_)
              | (refine Exists.intro _ (And.intro rfl ?_))
              | (refine br_t (by omega) ?_)
              | (refine br_f (by omega) ?_)
              | (refine bs_t (by omega) ?_)
              | (refine bs_f (by omega) ?_)
              | (refine fun (K' : K3) hK' => ?_)
              | (refine hK' _ _ _ ?_; clear hK' K')
              | (refine draw_kill [6] tok mixed (by kernel_rfl) ?_)
              | (refine draw_auto tok mixed (by kernel_rfl) ?_)
              | (refine HD_mk (fun _ h => between_k h) ?_)
              | (refine HD_mk (fun _ h => power_k hK h) ?_)
              | (refine HD_mk (fun _ h => clone_k (l := s.Oil) (by omega) rfl h) ?_)
              | (refine And.intro (And.intro rfl (chk_app _ s.Oil s.Away _ _)) ?_)
              | (refine HD_mk (fun _ h => amounts_k (l := s.Oil ++ [s.Away]) (by simp) (by simp; omega) (find_app rfl) h) ?_)
              | (refine br_bf hbt ?_)
              | (refine bs_bf hbt ?_)
              | (refine br_bf ham ?_)
              | (refine bs_bf ham ?_)
              | (refine And.intro (And.intro rfl rfl) ?_))
          refine ⟨1, [], ⟨by omega, fun _ => hr, fun h => absurd h (by omega)⟩, by omega, ?_⟩
          refine ⟨?_, ?_, rfl, rfl, Nat.le_of_ble_eq_true rfl⟩
          · repeat (first | exact trivial | refine And.intro (And.intro (by first | rfl) (And.intro rfl (by first | exact trivial | exact Nat.le_of_ble_eq_true rfl))) ?_)
          · repeat (first | exact trivial | refine And.intro (covE_id (Nat.le_of_ble_eq_true rfl) (by first | exact wf_ints _ _ | exact wf_bools _ _ | fail | simp [C.wf]) rfl (by first | rfl | (fail))) ?_)
        · have hno := samB_false (s := s) (t := t) (fun h => hr h.1)
          have ham : (!amtB (s.Oil ++ [s.Away]) (36000 * 16 ^ s.K.toNat)) = true := by
            cases hh : amtB (s.Oil ++ [s.Away]) (36000 * 16 ^ s.K.toNat)
            · rfl
            · exact absurd ((rng_amt hK).1 hh) hr
          repeat ((conv => whnf); first
              | (refine And.intro (by first | omega | exact Nat.le_of_ble_eq_true rfl | (dsimp only [inK]; omega) | (simp only [mulS_eq]; omega) | (simp only [mulS_eq, setL_length]; omega) | (simp only [setL_length, List.length_map]; omega) | exact ⟨by omega, by omega, by first | exact Nat.le_of_ble_eq_true rfl | (dsimp only; omega) | (simp only [setL_length]; omega) | (simp only [setL_length, List.length_map]; omega)⟩ | exact ⟨by omega, by first | rfl | omega, by omega, Nat.le_of_ble_eq_true rfl, Nat.le_of_ble_eq_true rfl⟩ | exact ⟨rfl, rfl, rfl, Nat.le_of_ble_eq_true rfl, by first | rfl | omega | exact Nat.le_of_ble_eq_true rfl | (simp; done) | (simp; omega), by first | rfl | omega | exact Nat.le_of_ble_eq_true rfl | (simp; done) | (simp; omega), by omega, Nat.le_of_ble_eq_true rfl⟩ | exact Eq.refl true) ?_)
              | (refine Exists.intro _ (And.intro rfl ?_))
              | (refine br_t (by omega) ?_)
              | (refine br_f (by omega) ?_)
              | (refine bs_t (by omega) ?_)
              | (refine bs_f (by omega) ?_)
              | (refine fun (K' : K3) hK' => ?_)
              | (refine hK' _ _ _ ?_; clear hK' K')
              | (refine draw_kill [6] tok mixed (by kernel_rfl) ?_)
              | (refine draw_auto tok mixed (by kernel_rfl) ?_)
              | (refine HD_mk (fun _ h => between_k h) ?_)
              | (refine HD_mk (fun _ h => power_k hK h) ?_)
              | (refine HD_mk (fun _ h => clone_k (l := s.Oil) (by omega) rfl h) ?_)
              | (refine And.intro (And.intro rfl (chk_app _ s.Oil s.Away _ _)) ?_)
              | (refine HD_mk (fun _ h => amounts_k (l := s.Oil ++ [s.Away]) (by simp) (by simp; omega) (find_app rfl) h) ?_)
              | (refine br_bf hbt ?_)
              | (refine bs_bf hbt ?_)
              | (refine br_bt ham ?_)
              | (refine bs_bt ham ?_)
              | (refine And.intro (And.intro rfl rfl) ?_))
          intro ρ; show Value.bool _ = Value.bool _; rw [hno]
      · have hno := samB_false (s := s) (t := t) (fun h => hK h.1.1)
        have hbt : (!betwB 0 s.K 5) = true := by simp [betwB]; omega
        repeat ((conv => whnf); first
            | (refine And.intro (by first | omega | exact Nat.le_of_ble_eq_true rfl | (dsimp only [inK]; omega) | (simp only [mulS_eq]; omega) | (simp only [mulS_eq, setL_length]; omega) | (simp only [setL_length, List.length_map]; omega) | exact ⟨by omega, by omega, by first | exact Nat.le_of_ble_eq_true rfl | (dsimp only; omega) | (simp only [setL_length]; omega) | (simp only [setL_length, List.length_map]; omega)⟩ | exact ⟨by omega, by first | rfl | omega, by omega, Nat.le_of_ble_eq_true rfl, Nat.le_of_ble_eq_true rfl⟩ | exact ⟨rfl, rfl, rfl, Nat.le_of_ble_eq_true rfl, by first | rfl | omega | exact Nat.le_of_ble_eq_true rfl | (simp; done) | (simp; omega), by first | rfl | omega | exact Nat.le_of_ble_eq_true rfl | (simp; done) | (simp; omega), by omega, Nat.le_of_ble_eq_true rfl⟩ | exact Eq.refl true) ?_)
            | (refine Exists.intro _ (And.intro rfl ?_))
            | (refine br_t (by omega) ?_)
            | (refine br_f (by omega) ?_)
            | (refine bs_t (by omega) ?_)
            | (refine bs_f (by omega) ?_)
            | (refine fun (K' : K3) hK' => ?_)
            | (refine hK' _ _ _ ?_; clear hK' K')
            | (refine draw_kill [6] tok mixed (by kernel_rfl) ?_)
            | (refine draw_auto tok mixed (by kernel_rfl) ?_)
            | (refine HD_mk (fun _ h => between_k h) ?_)
            | (refine br_bt hbt ?_)
            | (refine bs_bt hbt ?_)
            | (refine And.intro (And.intro rfl rfl) ?_))
        intro ρ; show Value.bool _ = Value.bool _; rw [hno]
    · by_cases hK : 0 ≤ t.K ∧ t.K ≤ 5
      · have hbt : (!betwB 0 t.K 5) = false := by simp [betwB]; omega
        have hps := pow_bd t.K hK.1 hK.2
        by_cases hr : rngP t
        · have ham : (!amtB (t.Oil ++ [t.Away]) (36000 * 16 ^ t.K.toNat)) = false := by rw [(rng_amt hK).2 hr]; rfl
          repeat ((conv => whnf); first
              | (refine And.intro (by first | omega | exact Nat.le_of_ble_eq_true rfl | (dsimp only [inK]; omega) | (simp only [mulS_eq]; omega) | (simp only [mulS_eq, setL_length]; omega) | (simp only [setL_length, List.length_map]; omega) | exact ⟨by omega, by omega, by first | exact Nat.le_of_ble_eq_true rfl | (dsimp only; omega) | (simp only [setL_length]; omega) | (simp only [setL_length, List.length_map]; omega)⟩ | exact ⟨by omega, by first | rfl | omega, by omega, Nat.le_of_ble_eq_true rfl, Nat.le_of_ble_eq_true rfl⟩ | exact ⟨rfl, rfl, rfl, Nat.le_of_ble_eq_true rfl, by first | rfl | omega | exact Nat.le_of_ble_eq_true rfl | (simp; done) | (simp; omega), by first | rfl | omega | exact Nat.le_of_ble_eq_true rfl | (simp; done) | (simp; omega), by omega, Nat.le_of_ble_eq_true rfl⟩ | exact Eq.refl true) ?_)
              | (refine Exists.intro _ (And.intro rfl ?_))
              | (refine br_t (by omega) ?_)
              | (refine br_f (by omega) ?_)
              | (refine bs_t (by omega) ?_)
              | (refine bs_f (by omega) ?_)
              | (refine fun (K' : K3) hK' => ?_)
              | (refine hK' _ _ _ ?_; clear hK' K')
              | (refine draw_kill [6] tok mixed (by kernel_rfl) ?_)
              | (refine draw_auto tok mixed (by kernel_rfl) ?_)
              | (refine HD_mk (fun _ h => between_k h) ?_)
              | (refine HD_mk (fun _ h => power_k hK h) ?_)
              | (refine HD_mk (fun _ h => clone_k (l := t.Oil) (by omega) rfl h) ?_)
              | (refine And.intro (And.intro rfl (chk_app _ t.Oil t.Away _ _)) ?_)
              | (refine HD_mk (fun _ h => amounts_k (l := t.Oil ++ [t.Away]) (by simp) (by simp; omega) (find_app rfl) h) ?_)
              | (refine br_bf hbt ?_)
              | (refine bs_bf hbt ?_)
              | (refine br_bf ham ?_)
              | (refine bs_bf ham ?_)
              | (refine And.intro (And.intro rfl rfl) ?_))
          refine ⟨2, [], ⟨by omega, fun _ => h1 (by omega), fun _ => hr⟩, by omega, ?_⟩
          refine ⟨?_, ?_, rfl, rfl, Nat.le_of_ble_eq_true rfl⟩
          · repeat (first | exact trivial | refine And.intro (And.intro (by first | rfl) (And.intro rfl (by first | exact trivial | exact Nat.le_of_ble_eq_true rfl))) ?_)
          · repeat (first | exact trivial | refine And.intro (covE_id (Nat.le_of_ble_eq_true rfl) (by first | exact wf_ints _ _ | exact wf_bools _ _ | fail | simp [C.wf]) rfl (by first | rfl | (fail))) ?_)
        · have hno := samB_false (s := s) (t := t) (fun h => hr h.2.1)
          have ham : (!amtB (t.Oil ++ [t.Away]) (36000 * 16 ^ t.K.toNat)) = true := by
            cases hh : amtB (t.Oil ++ [t.Away]) (36000 * 16 ^ t.K.toNat)
            · rfl
            · exact absurd ((rng_amt hK).1 hh) hr
          repeat ((conv => whnf); first
              | (refine And.intro (by first | omega | exact Nat.le_of_ble_eq_true rfl | (dsimp only [inK]; omega) | (simp only [mulS_eq]; omega) | (simp only [mulS_eq, setL_length]; omega) | (simp only [setL_length, List.length_map]; omega) | exact ⟨by omega, by omega, by first | exact Nat.le_of_ble_eq_true rfl | (dsimp only; omega) | (simp only [setL_length]; omega) | (simp only [setL_length, List.length_map]; omega)⟩ | exact ⟨by omega, by first | rfl | omega, by omega, Nat.le_of_ble_eq_true rfl, Nat.le_of_ble_eq_true rfl⟩ | exact ⟨rfl, rfl, rfl, Nat.le_of_ble_eq_true rfl, by first | rfl | omega | exact Nat.le_of_ble_eq_true rfl | (simp; done) | (simp; omega), by first | rfl | omega | exact Nat.le_of_ble_eq_true rfl | (simp; done) | (simp; omega), by omega, Nat.le_of_ble_eq_true rfl⟩ | exact Eq.refl true) ?_)
              | (refine Exists.intro _ (And.intro rfl ?_))
              | (refine br_t (by omega) ?_)
              | (refine br_f (by omega) ?_)
              | (refine bs_t (by omega) ?_)
              | (refine bs_f (by omega) ?_)
              | (refine fun (K' : K3) hK' => ?_)
              | (refine hK' _ _ _ ?_; clear hK' K')
              | (refine draw_kill [6] tok mixed (by kernel_rfl) ?_)
              | (refine draw_auto tok mixed (by kernel_rfl) ?_)
              | (refine HD_mk (fun _ h => between_k h) ?_)
              | (refine HD_mk (fun _ h => power_k hK h) ?_)
              | (refine HD_mk (fun _ h => clone_k (l := t.Oil) (by omega) rfl h) ?_)
              | (refine And.intro (And.intro rfl (chk_app _ t.Oil t.Away _ _)) ?_)
              | (refine HD_mk (fun _ h => amounts_k (l := t.Oil ++ [t.Away]) (by simp) (by simp; omega) (find_app rfl) h) ?_)
              | (refine br_bf hbt ?_)
              | (refine bs_bf hbt ?_)
              | (refine br_bt ham ?_)
              | (refine bs_bt ham ?_)
              | (refine And.intro (And.intro rfl rfl) ?_))
          intro ρ; show Value.bool _ = Value.bool _; rw [hno]
      · have hno := samB_false (s := s) (t := t) (fun h => hK h.2.1.1)
        have hbt : (!betwB 0 t.K 5) = true := by simp [betwB]; omega
        repeat ((conv => whnf); first
            | (refine And.intro (by first | omega | exact Nat.le_of_ble_eq_true rfl | (dsimp only [inK]; omega) | (simp only [mulS_eq]; omega) | (simp only [mulS_eq, setL_length]; omega) | (simp only [setL_length, List.length_map]; omega) | exact ⟨by omega, by omega, by first | exact Nat.le_of_ble_eq_true rfl | (dsimp only; omega) | (simp only [setL_length]; omega) | (simp only [setL_length, List.length_map]; omega)⟩ | exact ⟨by omega, by first | rfl | omega, by omega, Nat.le_of_ble_eq_true rfl, Nat.le_of_ble_eq_true rfl⟩ | exact ⟨rfl, rfl, rfl, Nat.le_of_ble_eq_true rfl, by first | rfl | omega | exact Nat.le_of_ble_eq_true rfl | (simp; done) | (simp; omega), by first | rfl | omega | exact Nat.le_of_ble_eq_true rfl | (simp; done) | (simp; omega), by omega, Nat.le_of_ble_eq_true rfl⟩ | exact Eq.refl true) ?_)
            | (refine Exists.intro _ (And.intro rfl ?_))
            | (refine br_t (by omega) ?_)
            | (refine br_f (by omega) ?_)
            | (refine bs_t (by omega) ?_)
            | (refine bs_f (by omega) ?_)
            | (refine fun (K' : K3) hK' => ?_)
            | (refine hK' _ _ _ ?_; clear hK' K')
            | (refine draw_kill [6] tok mixed (by kernel_rfl) ?_)
            | (refine draw_auto tok mixed (by kernel_rfl) ?_)
            | (refine HD_mk (fun _ h => between_k h) ?_)
            | (refine br_bt hbt ?_)
            | (refine bs_bt hbt ?_)
            | (refine And.intro (And.intro rfl rfl) ?_))
        intro ρ; show Value.bool _ = Value.bool _; rw [hno]
    · have hrs := h1 (by omega)
      have hrt := h2 (by omega)
      have hbs := rng_bd hrs
      have hbt := rng_bd hrt
      cases heq : eqfB s.Oil t.Oil (16 ^ t.K.toNat) (16 ^ s.K.toNat)
      · have hno := samB_false (s := s) (t := t) (fun h => by have := eqfB_true h.2.2.1; rw [heq] at this; cases this)
        repeat ((conv => whnf); first
            | (refine And.intro (by first | omega | exact Nat.le_of_ble_eq_true rfl | (dsimp only [inK]; omega) | (simp only [mulS_eq]; omega) | (simp only [mulS_eq, setL_length]; omega) | (simp only [setL_length, List.length_map]; omega) | exact ⟨by omega, by omega, by first | exact Nat.le_of_ble_eq_true rfl | (dsimp only; omega) | (simp only [setL_length]; omega) | (simp only [setL_length, List.length_map]; omega)⟩ | exact ⟨by omega, by first | rfl | omega, by omega, Nat.le_of_ble_eq_true rfl, Nat.le_of_ble_eq_true rfl⟩ | exact ⟨rfl, rfl, rfl, Nat.le_of_ble_eq_true rfl, by first | rfl | omega | exact Nat.le_of_ble_eq_true rfl | (simp; done) | (simp; omega), by first | rfl | omega | exact Nat.le_of_ble_eq_true rfl | (simp; done) | (simp; omega), by omega, Nat.le_of_ble_eq_true rfl⟩ | exact Eq.refl true) ?_)
            | (refine Exists.intro _ (And.intro rfl ?_))
            | (refine br_t (by omega) ?_)
            | (refine br_f (by omega) ?_)
            | (refine bs_t (by omega) ?_)
            | (refine bs_f (by omega) ?_)
            | (refine fun (K' : K3) hK' => ?_)
            | (refine hK' _ _ _ ?_; clear hK' K')
            | (refine draw_auto tok mixed (by kernel_rfl) ?_)
            | (refine equalF_k hrs hrt (by omega) (by omega) rfl rfl rfl rfl ?_)
            | (refine br_bf heq ?_)
            | (refine bs_bf heq ?_)
            | (refine And.intro (And.intro rfl rfl) ?_))
        intro ρ; show Value.bool _ = Value.bool _; rw [hno]
      · have hsame : samB s t = prB s.Away t.Away (16 ^ t.K.toNat) (16 ^ s.K.toNat) := by
          cases hpr : prB s.Away t.Away (16 ^ t.K.toNat) (16 ^ s.K.toNat)
          · exact samB_false (fun h => by have h3 := h.2.2.2; rw [hpr] at h3; cases h3)
          · exact samB_true ⟨hrs, hrt, by simpa [eqfB] using heq, hpr⟩
        repeat ((conv => whnf); first
            | (refine And.intro (by first | omega | exact Nat.le_of_ble_eq_true rfl | (dsimp only [inK]; omega) | (simp only [mulS_eq]; omega) | (simp only [mulS_eq, setL_length]; omega) | (simp only [setL_length, List.length_map]; omega) | exact ⟨by omega, by omega, by first | exact Nat.le_of_ble_eq_true rfl | (dsimp only; omega) | (simp only [setL_length]; omega) | (simp only [setL_length, List.length_map]; omega)⟩ | exact ⟨by omega, by first | rfl | omega, by omega, Nat.le_of_ble_eq_true rfl, Nat.le_of_ble_eq_true rfl⟩ | exact ⟨rfl, rfl, rfl, Nat.le_of_ble_eq_true rfl, by first | rfl | omega | exact Nat.le_of_ble_eq_true rfl | (simp; done) | (simp; omega), by first | rfl | omega | exact Nat.le_of_ble_eq_true rfl | (simp; done) | (simp; omega), by omega, Nat.le_of_ble_eq_true rfl⟩ | exact Eq.refl true) ?_)
            | (refine Exists.intro _ (And.intro rfl ?_))
            | (refine br_t (by omega) ?_)
            | (refine br_f (by omega) ?_)
            | (refine bs_t (by omega) ?_)
            | (refine bs_f (by omega) ?_)
            | (refine fun (K' : K3) hK' => ?_)
            | (refine hK' _ _ _ ?_; clear hK' K')
            | (refine draw_auto tok mixed (by kernel_rfl) ?_)
            | (refine equalF_k hrs hrt (by omega) (by omega) rfl rfl rfl rfl ?_)
            | (refine br_bt heq ?_)
            | (refine bs_bt heq ?_)
            | (refine same1_k hrs hrt hbs.2 hbt.2 rfl rfl ?_)
            | (refine And.intro (And.intro rfl rfl) ?_))
        intro ρ; show Value.bool _ = Value.bool _; rw [hsame]
theorem Same_any (sv tv : Value) (s t : Slk) (w : World) (hs : SlkAt w sv s) (ht : SlkAt w tv t) (hn1 : s.Oil.length ≤ 1000) (hm1 : t.Oil.length ≤ 1000) :
    Calls Try.prog 42 #[sv, tv] w fun e w' => e = .returned (.bool (samB s t)) ∧ Below w.heap.size w w' := by
  obtain ⟨ao, c, rfl, hi, hn⟩ := hs
  obtain ⟨bo, d, rfl, hj, hm⟩ := ht
  let ρ : Env := fun l => match l with | 0 => (ao, c) | _ => (bo, d)
  have hp : Hp w.heap.size ρ w [⟨0, .ro 0, s.Oil.map C.i⟩, ⟨1, .ro 0, t.Oil.map C.i⟩] 2 := by
    refine Hp.ros (fun e he => ?_) rfl
    simp only [List.mem_cons, List.not_mem_nil, or_false] at he
    rcases he with rfl | rfl
    · exact ⟨rfl, by simp, wf_ints _ _, by rw [den_ints]; exact hi⟩
    · exact ⟨rfl, by simp, wf_ints _ _, by rw [den_ints]; exact hj⟩
  have h := same_spec s t hn1 hm1 ρ w hp (by
    intro v hv
    simp only [List.mem_cons, List.not_mem_nil, or_false] at hv
    rcases hv with rfl | rfl <;> simp [V.wf, A.wf, C.wf, C.i])
  refine (show Calls Try.prog 42 #[.agg #[.int .i64 s.K, .slice ao s.Oil.length c, .int .i64 s.Away], .agg #[.int .i64 t.K, .slice bo t.Oil.length d, .int .i64 t.Away]] w _ from h).mono ?_
  rintro e w' ⟨v, ρ', L', nx', rfl, h1, h2, h3, h4, h5, h6⟩
  refine ⟨?_, h4⟩
  rw [h6 ρ']
  rfl
end Go.Proofs.Ytnafllhgjidbkaa
