/- One operation that turns no memory: soundness. -/
import Derived.Test.YtnafllhgjidbkaaS5
namespace Go.Proofs.Ytnafllhgjidbkaa
open Go.RowKit
set_option linter.unusedVariables false
set_option linter.unusedSimpArgs false
section
variable {P : Program} {T : List (Nat × TD)} {H : Hnd} {w : World} {n0 : Nat} {ρ : Env} {L : List E} {nx : Nat} {a : Act} {next : Act → World → Prop} {Q : Exit → Act → World → Prop}
theorem lenC_ok (hT : TOK P T) {t : TypeId} {x : Option V} {K : V → Prop} (h : lenC T t x K) (ty : TypeId) : ∃ u v, x = some u ∧ K v ∧ v.wf nx ∧ (Builtin.len_ #[t] ty #[u.den ρ]).run P w = .ok (v.den ρ) w := by
  obtain ⟨d, hd, hh⟩ := onV_iff h
  clear h
  obtain ⟨i, z, _, _, _, _, _, _, _, hkd⟩ := lookT_ok hT hd
  split at hh
  · rename_i e l n hk
    rw [hk] at hkd
    exact ⟨_, _, rfl, hh, trivial, by simp [Builtin.len_, run_und hkd, V.den, A.den, C.den, goInt]⟩
  · rename_i e hk
    rw [hk] at hkd
    exact ⟨_, _, rfl, hh, trivial, by simp [Builtin.len_, run_und hkd, V.den, A.den, C.den, goInt]⟩
  · rename_i n e v hk
    rw [hk] at hkd
    exact ⟨v, _, rfl, hh, trivial, by simp only [Builtin.len_, List.getElem?_toArray, List.getElem?_cons_zero, Sem.run_bind, run_und hkd, Result.andThen, V.den, A.den, C.den, goInt]; rfl⟩
  · exact hh.elim
theorem callB_run {f : FuncId} (h : callB P f = true) (args : Array Value) : (callFunc f args).run P w = .ok (.enter f args) w := by
  unfold callB at h
  split at h
  · rename_i fn hf
    simp only [Bool.and_eq_true, Bool.not_eq_true'] at h
    have h1 : (fn.name == "runtime.NumGoroutine") = false := h.1
    simp only [callFunc, Sem.run_bind, run_program, Result.andThen, hf, h1, h.2, Bool.false_eq_true, if_false, Sem.run_pure]
  · cases h
theorem rdCall_ok (hT : TOK P T) (hH : ∀ g vs K, H g vs L nx K → CallK P n0 g vs L nx K) {s : S} (hp : Hp n0 ρ w L nx) {dst : Option Tmp} {c : Call} {ty : TypeId} {pos : String} {after : Array Edge} {guard : Option (Nat × Bool)} {K : V → List E → Nat → Prop}
    (hev : ∀ x ∈ c.operands, ∀ v, ev s x = some v → a.eval x = v.den ρ ∧ v.wf nx) (h : rdCall H T L nx s c K) (hK : Kont n0 L ρ w nx a dst next K) : (Oper.mk dst (.call c) ty pos after guard).wp P a w next Q := by
  obtain ⟨callee, args, argTypes⟩ := c
  unfold rdCall at h
  split at h
  · rename_i f hf
    simp only at hf
    subst hf
    split at h
    · rename_i g caps hg
      obtain ⟨vs, hvs, h1⟩ := onV_iff h
      clear h
      obtain ⟨hf1, hf2⟩ := hev f (by simp [Call.operands]) _ hg
      have hf3 : ∀ p ∈ caps, p.1 < nx := hf2
      obtain ⟨hv1, hv2⟩ := evs_ok hvs (fun x hx => hev x (by simp [Call.operands] at hx ⊢; exact .inr hx))
      have hc := hH _ _ _ h1
      have hrun := hc.run ρ w hp (fun v hv => by
        rcases List.mem_append.1 hv with hv | hv
        · exact hv2 v hv
        · obtain ⟨p, hp', rfl⟩ := List.mem_map.1 hv; exact hf3 p hp')
      have hargs : (#[] ++ args.map a.eval) ++ (caps.map (ptrD ρ)).toArray = ((vs ++ caps.map ptrV).map (V.den ρ)).toArray := by
        apply Array.ext'
        simp only [Array.toList_append, Array.toList_map, List.map_append, List.map_map, hv1]
        simp
        exact fun p _ _ => rfl
      have hex : (execOp a.eval (Oper.mk dst (.call ⟨.value f, args, argTypes⟩) ty pos after guard)).run P w = .ok (.enter g ((vs ++ caps.map ptrV).map (V.den ρ)).toArray) w := by
        simp only [execOp, resolve, hf1, V.den, A.den, C.den, Deferred.ofValue, Sem.run_bind, Sem.run_pure, Result.andThen, invoke, callB_run hc.ok]
        rw [← hargs]
      unfold Oper.wp
      rw [hex]
      refine Calls.mono hrun ?_
      rintro e w' ⟨v, new, nx', ρ', rfl, h1, h2, h3, h4, h5, h6⟩
      exact hK v new nx' ρ' w' h6 h1 h2 h3 h4 h5
    · exact h.elim
  · rename_i hb
    simp only at hb
    subst hb
    simp only at h
    split at h
    · rename_i x t hx ht
      obtain ⟨u, v, hu, hKv, hv, hr⟩ := lenC_ok (ρ := ρ) (w := w) (nx := nx) hT h ty
      obtain ⟨e1, _⟩ := hev x (by simp [Call.operands]; have : x ∈ args.toList := by rw [hx]; simp
                                  simpa using this) u hu
      have ha : args = #[x] := by apply Array.ext'; exact hx
      have ht' : argTypes = #[t] := by apply Array.ext'; exact ht
      subst ha ht'
      refine wp_value (u := v.den ρ) (w' := w) ?_ (hK.pure hv hKv)
      simp only [execOp, resolve, Sem.run_bind, Sem.run_pure, Result.andThen, invoke, builtin]
      simp [e1, hr, Result.andThen]
    · exact h.elim
  · rename_i hb
    simp only at hb
    subst hb
    simp only at h
    split at h
    · rename_i x y hx
      split at h
      · rename_i k x' k' y' hx' hy'
        have ha : args = #[x, y] := by apply Array.ext'; exact hx
        subst ha
        obtain ⟨e1, _⟩ := hev x (by simp [Call.operands]) _ hx'
        obtain ⟨e2, _⟩ := hev y (by simp [Call.operands]) _ hy'
        refine wp_value ?_ (hK.pure (v := V.c (.int k (if y' > x' then y' else x'))) trivial h)
        simp only [execOp, resolve, Sem.run_bind, Sem.run_pure, Result.andThen, invoke, builtin]
        simp [e1, e2, V.den, A.den, C.den, Builtin.max_, Builtin.max2, Result.andThen]
      · exact h.elim
    · exact h.elim
  · rename_i hb
    simp only at hb
    subst hb
    simp only at h
    split at h
    · rename_i x y hx
      split at h
      · rename_i k x' k' y' hx' hy'
        have ha : args = #[x, y] := by apply Array.ext'; exact hx
        subst ha
        obtain ⟨e1, _⟩ := hev x (by simp [Call.operands]) _ hx'
        obtain ⟨e2, _⟩ := hev y (by simp [Call.operands]) _ hy'
        refine wp_value ?_ (hK.pure (v := V.c (.int k (if y' < x' then y' else x'))) trivial h)
        simp only [execOp, resolve, Sem.run_bind, Sem.run_pure, Result.andThen, invoke, builtin]
        simp [e1, e2, V.den, A.den, C.den, Builtin.min_, Builtin.min2, Result.andThen]
      · exact h.elim
    · exact h.elim
  · exact h.elim
theorem rd_ok (hT : TOK P T) (hH : ∀ g vs K, H g vs L nx K → CallK P n0 g vs L nx K) {s : S} (hp : Hp n0 ρ w L nx) {o : Oper} {K : V → List E → Nat → Prop}
    (hev : ∀ x ∈ o.op.operands, ∀ v, ev s x = some v → a.eval x = v.den ρ ∧ v.wf nx) (h : rd H T L nx s o.op K) (hK : Kont n0 L ρ w nx a o.dst next K) : o.wp P a w next Q := by
  obtain ⟨dst, op, ty, pos, after, guard⟩ := o
  unfold rd at h
  split at h <;> first | exact h.elim | (rename_i hop; simp only at hop; subst hop; simp only at hev hK)
  case h_1 x => -- move
    obtain ⟨v, hv, h1⟩ := onV_iff h
    obtain ⟨e1, e2⟩ := hev x (by simp [Op.operands]) v hv
    exact wp_value (u := v.den ρ) (w' := w) (by simp [execOp, e1]) (hK.pure e2 h1)
  case h_2 x =>
    obtain ⟨v, hv, h1⟩ := onV_iff h
    obtain ⟨e1, e2⟩ := hev x (by simp [Op.operands]) v hv
    exact wp_value (u := v.den ρ) (w' := w) (by simp [execOp, e1]) (hK.pure e2 h1)
  case h_3 c x y =>
    have key : ∀ p : Bool, a.eval c = .bool p → (p = true → onV (ev s x) fun v => K v [] nx) → (p = false → onV (ev s y) fun v => K v [] nx) → (Oper.mk dst (.pick c x y) ty pos after guard).wp P a w next Q := by
      intro p hp1 h1 h2
      cases p with
      | true =>
        obtain ⟨v, hv, h3⟩ := onV_iff (h1 rfl)
        obtain ⟨e1, e2⟩ := hev x (by simp [Op.operands]) v hv
        exact wp_value (u := v.den ρ) (w' := w) (by simp [execOp, hp1, asBool, e1]) (hK.pure e2 h3)
      | false =>
        obtain ⟨v, hv, h3⟩ := onV_iff (h2 rfl)
        obtain ⟨e1, e2⟩ := hev y (by simp [Op.operands]) v hv
        exact wp_value (u := v.den ρ) (w' := w) (by simp [execOp, hp1, asBool, e1]) (hK.pure e2 h3)
    split at h
    · rename_i hc
      exact key true (hev c (by simp [Op.operands]) _ hc).1 (fun _ => h) (fun hh => by cases hh)
    · rename_i hc
      exact key false (hev c (by simp [Op.operands]) _ hc).1 (fun hh => by cases hh) (fun _ => h)
    · rename_i p hc
      exact key p (hev c (by simp [Op.operands]) _ hc).1 h.1 h.2
    · exact h.elim
  case h_4 t => -- alloc
    obtain ⟨d, hd, h1⟩ := onV_iff h
    have hd' := lookT_ok hT hd
    obtain ⟨z, hz1, hz2⟩ := run_zero (w := w) hd'
    obtain ⟨_, _, _, _, _, _, _, _, hzw, _⟩ := hd'
    have hw1 : ∀ c ∈ d.zero, c.wf nx := fun c hc => C.wf_mono (Nat.zero_le _) (hzw c hc)
    refine wp_value (u := V.den (ρ.put nx (some ⟨w.heap.size, 0, none⟩) 0) (V.c (.ptr nx 0))) (w' := w.alloc (.cells (d.zero.map (C.den ρ)).toArray t)) ?_ (hK _ _ _ _ _ h1 (by omega) (Nat.lt_succ_self nx) (Env.put_agr _ _ _ _) ((Below.refl _ _).alloc (Nat.le_refl _) _) (own_new t hw1 hp.base))
    simp only [execOp, Instr.alloc, Sem.run_bind, hz1, Result.andThen, newVar, hz2 ρ, run_newRow, Sem.run_pure]
    simp [V.den, A.den, C.den, ptrD, Env.put_same, Addr.add]
  case h_5 t x => -- box
    split at h
    · rename_i v hv
      obtain ⟨e1, e2⟩ := hev x (by simp [Op.operands]) _ hv
      have hw1 := A.cells_wf (c := v) e2
      refine wp_value (u := V.den (ρ.put nx (some ⟨w.heap.size, 0, none⟩) 0) (V.c (.ptr nx 0))) (w' := w.alloc (.cells (v.cells.map (C.den ρ)).toArray t)) ?_ (hK _ _ _ _ _ h (by omega) (Nat.lt_succ_self nx) (Env.put_agr _ _ _ _) ((Below.refl _ _).alloc (Nat.le_refl _) _) (own_new t hw1 hp.base))
      simp only [execOp, Instr.box, e1, Sem.run_bind, Result.andThen, newVar, V.den, A.cells_den (n := nx) (c := v) e2 ρ, run_newRow, Sem.run_pure]
      simp [A.den, C.den, ptrD, Env.put_same, Addr.add]
    · exact h.elim
  case h_6 t parts => -- build
    obtain ⟨v, h1, h2, h3⟩ := rdBuild_ok (ρ := ρ) (w := w) (a := a) (nx := nx) hT (fun p hp' v hv => hev p.2 (by simp [Op.operands]; exact ⟨p.1, by simpa using hp'⟩) v hv) h
    exact wp_value (run_v h3) (hK.pure h2 h1)
  case h_7 t n parts =>
    obtain ⟨v, new, nx', ρ', w', h1, h2, h3, h4, h5, h6, h7⟩ := rdBuildS_ok (L := L) (ρ := ρ) (w := w) (a := a) (nx := nx) hT hp.base (fun p hp' v hv => hev p.2 (by simp [Op.operands]; exact ⟨p.1, by simpa using hp'⟩) v hv) h
    exact wp_value (run_v h7) (hK v new nx' ρ' w' h1 h2 h3 h4 h5 h6)
  case h_8 t x => -- load
    obtain ⟨d, hd, h1⟩ := onV_iff h
    obtain ⟨v, u, hu, h2, h3, h4⟩ := rdLoad_ok hp (lookT_ok hT hd) h1
    obtain ⟨e1, _⟩ := hev x (by simp [Op.operands]) u hu
    rw [← e1] at h4
    exact wp_value (run_v h4) (hK.pure h3 h2)
  case h_9 op t x y ty' =>
    obtain ⟨c, u, v, hu, hv, h2, h3, h4, h5⟩ := rdBin_ok (ρ := ρ) (w := w) hT h
    obtain ⟨e1, _⟩ := hev x (by simp [Op.operands]) u hu
    obtain ⟨e2, _⟩ := hev y (by simp [Op.operands]) v hv
    refine wp_value (u := c.den ρ) (w' := w) ?_ (hK.pure (v := V.c c) (h3 nx) h2)
    simp only [execOp, e1, e2, Sem.run_bind, h5, Result.andThen, h4, Sem.run_pure]
  case h_10 op t x =>
    obtain ⟨v, u, hu, h2, h3, h4⟩ := rdUn_ok (ρ := ρ) (w := w) (P := P) (nx := nx) h
    obtain ⟨e1, _⟩ := hev x (by simp [Op.operands]) u hu
    rw [← e1] at h4
    exact wp_value (run_v h4) (hK.pure h3 h2)
  case h_11 t t' x =>
    obtain ⟨v, u, hu, h2, h3, h4⟩ := rdConv_ok (ρ := ρ) (w := w) (nx := nx) hT h
    obtain ⟨e1, _⟩ := hev x (by simp [Op.operands]) u hu
    rw [← e1] at h4
    exact wp_value (run_v h4) (hK.pure h3 h2)
  case h_12 t x f =>
    obtain ⟨v, u, hu, h2, h3, h4⟩ := rdFldA_ok (w := w) hT hp h
    obtain ⟨e1, e2⟩ := hev x (by simp [Op.operands]) u hu
    rw [← e1] at h4
    exact wp_value (run_v h4) (hK.pure (h3 e2) h2)
  case h_13 t x f =>
    obtain ⟨v, u, hu, h2, h3, h4⟩ := rdFld_ok (ρ := ρ) (w := w) (nx := nx) hT (fun u hu => (hev x (by simp [Op.operands]) u hu).2) h
    obtain ⟨e1, e2⟩ := hev x (by simp [Op.operands]) u hu
    rw [← e1] at h4
    exact wp_value (run_v h4) (hK.pure h3 h2)
  case h_14 t x i =>
    obtain ⟨v, u, j, hu, hj, h2, h3, h4⟩ := rdIdxA_ok (w := w) hT hp h
    obtain ⟨e1, e2⟩ := hev x (by simp [Op.operands]) u hu
    obtain ⟨e3, _⟩ := hev i (by simp [Op.operands]) j hj
    rw [← e1, ← e3] at h4
    exact wp_value (run_v h4) (hK.pure (h3 e2) h2)
  case h_15 t x i =>
    obtain ⟨v, u, j, hu, hj, h2, h3, h4⟩ := rdIdx_ok (ρ := ρ) (w := w) (nx := nx) hT (fun u hu => (hev x (by simp [Op.operands]) u hu).2) h
    obtain ⟨e1, e2⟩ := hev x (by simp [Op.operands]) u hu
    obtain ⟨e3, _⟩ := hev i (by simp [Op.operands]) j hj
    rw [← e1, ← e3] at h4
    exact wp_value (run_v h4) (hK.pure h3 h2)
  case h_16 x i =>
    split at h
    · rename_i l hl
      obtain ⟨c, hc, h1⟩ := onV_iff h
      obtain ⟨e1, e2⟩ := hev x (by simp [Op.operands]) _ hl
      refine wp_value (u := c.den ρ) (w' := w) ?_ (hK.pure (v := .a c) (e2 c (List.mem_of_getElem? hc)) h1)
      simp [execOp, Instr.extract, e1, V.den, hc, Result.andThen]
    · exact h.elim
  case h_17 t l c =>
    obtain ⟨u, u', v, new, nx', ρ', w', hu, hu', h1, h2, h3, h4, h5, h6, h7⟩ := rdMake_ok (L := L) (ρ := ρ) (w := w) (nx := nx) hT hp.base h
    obtain ⟨e1, _⟩ := hev l (by simp [Op.operands]) u hu
    obtain ⟨e3, _⟩ := hev c (by simp [Op.operands]) u' hu'
    rw [← e1, ← e3] at h7
    exact wp_value (run_v h7) (hK v new nx' ρ' w' h1 h2 h3 h4 h5 h6)
  case h_18 t x lo hi =>
    obtain ⟨v, new, nx', ρ', h1, h2, h3, h4, h6, h7⟩ := rdSlice_ok (a := a) hT hp (fun y hy v hv => hev y (by
      rcases hy with rfl | rfl | rfl <;> simp [Op.operands]) v hv) h
    exact wp_value (run_v h7) (hK v new nx' ρ' w h1 h2 h3 h4 (Below.refl _ _) h6)
  case h_19 f first caps =>
    split at h
    · rename_i hfi
      obtain ⟨vs, hvs, h1⟩ := onV_iff h
      obtain ⟨cp, hcp, h2⟩ := onV_iff h1
      obtain ⟨e1, e2⟩ := evs_ok (a := a) hvs (fun x hx => hev x (by simp [Op.operands]; exact .inr (by simpa using hx)))
      obtain ⟨e3, e4⟩ := capsOf_ok ρ hcp e2
      have hf0 : first = #[] := by apply Array.ext'; exact hfi
      subst hf0
      refine wp_value (u := V.den ρ (V.c (.fn f cp))) (w' := w) ?_ (hK.pure (v := V.c (.fn f cp)) e4 h2)
      have : caps.map a.eval = (cp.map (ptrD ρ)).toArray := by apply Array.ext'; rw [← e3, ← e1]; simp
      simp [execOp, Instr.makeFunc, V.den, A.den, C.den, this, Result.andThen]
    · exact h.elim
  case h_20 x =>
    split at h
    · rename_i l o hx
      obtain ⟨e, he, h0, h1⟩ := onV_iff h
      obtain ⟨e1, e2⟩ := hev x (by simp [Op.operands]) _ hx
      obtain ⟨hok, hl, hm⟩ := hp.entry he
      obtain ⟨b, off, ha⟩ := hok.addr h0
      rw [hl] at ha
      refine wp_value (u := V.den ρ (V.c (.ptr l o))) (w' := w) ?_ (hK.pure (v := V.c (.ptr l o)) e2 h1)
      simp [execOp, e1, V.den, A.den, C.den, ptrD, ha]
    · rename_i f cp hx
      obtain ⟨e1, e2⟩ := hev x (by simp [Op.operands]) _ hx
      refine wp_value (u := V.den ρ (V.c (.fn f cp))) (w' := w) ?_ (hK.pure (v := V.c (.fn f cp)) e2 h)
      simp [execOp, e1, V.den, A.den, C.den]
    · exact h.elim
  case h_21 c => exact rdCall_ok hT hH hp hev h hK
end
end Go.Proofs.Ytnafllhgjidbkaa
