/- Regions that draw: whatever order comes, the heads leave what the text's order leaves. -/
import Derived.Test.YtnafllhgjidbkaaS11
namespace Go.Proofs.Ytnafllhgjidbkaa
open Go.RowKit
set_option linter.unusedVariables false
set_option linter.unusedSimpArgs false
def apartB (ops : Array Oper) (k i : Nat) : Bool :=
  match ops[k]?, ops[i]? with
  | some x, some y => x.apart ops y
  | _, _ => false
def dneB (ops : Array Oper) (k i : Nat) : Bool :=
  match ops[k]?, ops[i]? with
  | some x, some y => (match x.dst, y.dst with | some d, some e => !Nat.beq d e | _, _ => true)
  | _, _ => false
def edgesB (ops : Array Oper) (i : Nat) : Bool :=
  match ops[i]? with
  | some o => o.after.all fun e => !Region.binds .any e || Nat.blt e.on i
  | none => false
/-- The heads: whatever does not wait for another shares no slot with it. -/
def headB (ops : Array Oper) (n : Nat) : Bool :=
  (List.range n).all fun i => edgesB ops i && (List.range i).all fun k => (Region.waitsFor .any ops i k || apartB ops k i) && dneB ops k i
def listedN (n m : Nat) : Array Bool := (List.replicate n true ++ List.replicate m false).toArray
def drawB (ops : Array Oper) (n : Nat) : Bool :=
  decide (n ≤ ops.size) && headB ops n && (decide (n = ops.size) || (Region.sinkB .any ops n && Region.chainB .any ops n)) && Region.seqB .any ops (ops.size - n) n (listedN n (ops.size - n))
section
variable {P : Program} {T : List (Nat × TD)} {n0 N nx0 : Nat} {all : List Oper} {L0 : List E} {s0 : S} {ds : List Stp} {n : Nat}
theorem headB_spec (h : headB all.toArray n = true) {i k : Nat} (hi : i < n) (hk : k < i) :
    (Region.waitsFor .any all.toArray i k = true ∨ ∃ x y, all[k]? = some x ∧ all[i]? = some y ∧ x.apart all.toArray y = true) ∧ (∀ d, gslot all k = some d → gslot all i ≠ some d) := by
  have h1 := List.all_eq_true.1 h i (List.mem_range.2 hi)
  simp only [Bool.and_eq_true] at h1
  have h2 := List.all_eq_true.1 h1.2 k (List.mem_range.2 hk)
  simp only [Bool.and_eq_true, Bool.or_eq_true] at h2
  refine ⟨h2.1.imp id (fun h3 => ?_), fun d hd he => ?_⟩
  · unfold apartB at h3
    split at h3
    · rename_i x y hx hy
      exact ⟨x, y, by simpa using hx, by simpa using hy, h3⟩
    · cases h3
  · have h3 := h2.2
    unfold dneB at h3
    unfold gslot at hd he
    split at h3
    · rename_i x y hx hy
      simp only [List.getElem?_toArray] at hx hy
      rw [hx] at hd
      rw [hy] at he
      simp only at hd he
      rw [hd, he] at h3
      simp at h3
    · cases h3
theorem headB_edges (h : headB all.toArray n = true) {i : Nat} (hi : i < n) {o : Oper} (ho : all[i]? = some o) : ∀ e ∈ o.after, Region.binds .any e = true → e.on < i := by
  have h1 := List.all_eq_true.1 h i (List.mem_range.2 hi)
  simp only [Bool.and_eq_true] at h1
  have h2 := h1.1
  unfold edgesB at h2
  simp only [List.getElem?_toArray, ho] at h2
  intro e he hb
  have h3 := Array.all_eq_true'.1 h2 e he
  simp only [hb, Bool.not_true, Bool.false_or] at h3
  exact Nat.le_of_ble_eq_true h3
theorem gslot_some {i : Nat} {o : Oper} (ho : all[i]? = some o) : gslot all i = o.dst := by simp [gslot, ho]
/-- The state once the operations D have run. -/
structure DSt (n0 N nx0 : Nat) (all : List Oper) (L0 : List E) (s0 : S) (ds : List Stp) (n ny : Nat) (ρ0 : Env) (w0 : World) (D : Nat → Bool) (ρ : Env) (a : Act) (w : World) : Prop where
  size : a.tmps.size = N
  defers : a.defers = []
  agr : AgrLt nx0 ρ0 ρ
  bel : Below w0.heap.size w0 w
  hp : Hp n0 ρ w (L0 ++ (List.range n).flatMap fun j => bif D j then (match ds[j]? with | some st => st.new | none => []) else []) ny
  wfd : ∀ j st, ds[j]? = some st → D j = true → st.v.wf st.hi ∧ ∀ e ∈ st.new, (st.lo ≤ e.lab ∧ e.lab < st.hi) ∧ ∀ c ∈ e.cs, c.wf st.hi
  done : ∀ j st d, ds[j]? = some st → D j = true → gslot all j = some d → a.tmps[d]? = some (st.v.den ρ)
  old : ∀ t v, look s0 t = some v → (∀ j, j < n → D j = true → gslot all j ≠ some t) → a.tmps[t]? = some (v.den ρ)
theorem range_disj (hP : ∀ j st, ds[j]? = some st → PStep P n0 N all L0 s0 nx0 ds j st) {i j : Nat} {si sj : Stp} (hi : ds[i]? = some si) (hj : ds[j]? = some sj) (hne : i ≠ j) {l : Nat} (h1 : si.lo ≤ l ∧ l < si.hi) : ¬ (sj.lo ≤ l ∧ l < sj.hi) := by
  rcases Nat.lt_or_gt_of_ne hne with h | h
  · have := (hP j sj hj).disj i si h hi; omega
  · have := (hP i si hi).disj j sj h hj; omega
/-- The labels of what has run do not lie among those of an operation that has not. -/
theorem fine_off (hP : ∀ j st, ds[j]? = some st → PStep P n0 N all L0 s0 nx0 ds j st) {D : Nat → Bool} (hc : Closed all fun j => D j = true) {i j : Nat} {si sj : Stp} (hi : ds[i]? = some si) (hj : ds[j]? = some sj) (hDi : D i = false) (hDj : D j = true)
    (hw : sj.v.wf sj.hi ∧ ∀ e ∈ sj.new, (sj.lo ≤ e.lab ∧ e.lab < sj.hi) ∧ ∀ c ∈ e.cs, c.wf sj.hi) :
    sj.v.labs (fun l => ¬ (si.lo ≤ l ∧ l < si.hi)) ∧ ∀ e ∈ sj.new, ∀ c ∈ e.cs, c.labs (fun l => ¬ (si.lo ≤ l ∧ l < si.hi)) := by
  have hne : i ≠ j := fun e => by rw [e, hDj] at hDi; cases hDi
  have hq := hP j sj hj
  have hlo := (hP i si hi).lo
  rcases hq.fine with hf | ⟨f1, f2⟩
  · have key : ∀ l, l < sj.hi → ¬ (si.lo ≤ l ∧ l < si.hi) := fun l hl hh => by
      by_cases hl2 : l < nx0
      · omega
      · exact range_disj hP hi hj hne hh ⟨by omega, hl⟩
    exact ⟨V.labs_of_wf key hw.1, fun e he c hc => C.labs_of_wf key ((hw.2 e he).2 c hc)⟩
  · have key : ∀ l, LabP ds nx0 sj l → ¬ (si.lo ≤ l ∧ l < si.hi) := fun l hl hh => by
      rcases hl with hl | hl | ⟨k, sk, hk, hb, hl⟩
      · omega
      · exact range_disj hP hi hj hne hh hl
      · obtain ⟨o, ho, _, hanc, _⟩ := hq.oper
        have hDk := hanc _ hc (fun e he hbd => hc j o ho hDj e he hbd) k hb
        have hne2 : i ≠ k := fun e => by rw [e, hDk] at hDi; cases hDi
        exact range_disj hP hi hk hne2 hh hl
    exact ⟨V.labs_mono key f1, fun e he c hc => C.labs_mono key (f2 e he c hc)⟩
/-- One head more. -/
theorem DSt.step (hP : ∀ j st, ds[j]? = some st → PStep P n0 N all L0 s0 nx0 ds j st) (hn : ds.length = n) (hH : headB all.toArray n = true) {ny : Nat} (hny : ∀ (j : Nat) (st : Stp), ds[j]? = some st → st.hi ≤ ny) {ρ0 ρ : Env} {w0 w : World} {a : Act} {D : Nat → Bool}
    (hL0 : ∀ e ∈ L0, e.lab < nx0 ∧ ∀ c ∈ e.cs, c.wf nx0) (hs0 : ∀ t v, look s0 t = some v → v.wf nx0)
    (h : DSt n0 N nx0 all L0 s0 ds n ny ρ0 w0 D ρ a w) (hc : Closed all fun j => D j = true) {i : Nat} (hi : i < n) (hDi : D i = false) (hdeps : ∀ o, all[i]? = some o → ∀ e ∈ o.after, Region.binds .any e = true → D e.on = true)
    {next : Act → World → Prop} {Q : Exit → Act → World → Prop} (hK : ∀ ρ' a' w', DSt n0 N nx0 all L0 s0 ds n ny ρ0 w0 (fun j => Nat.beq j i || D j) ρ' a' w' → next a' w') : wpOp P all.toArray Q i next a w := by
  obtain ⟨st, hst⟩ : ∃ st, ds[i]? = some st := ⟨ds[i]'(by omega), List.getElem?_eq_getElem (by omega)⟩
  obtain ⟨⟨o, ho, hdst, hanc, si, Ai, hlook, hAi, hgood⟩, hle, hlo, hdisj, hfine⟩ := hP i st hst
  have hdep := hdeps o ho
  have hancD := hanc _ hc hdep
  -- a writer ahead has run, one behind has not
  have hmet : ∀ t, t ∈ o.looksAt all.toArray → ∀ v, look si t = some v → a.tmps[t]? = some (v.den ρ) ∧ v.wf st.lo := by
    intro t ht v hv
    rcases hlook t v hv with ⟨j, sj, hj, hsj, hg, hden, hwf⟩ | ⟨hnone, v0, hv0, hden, hwf⟩
    · have hDj : D j = true := by
        rcases (headB_spec hH hi hj).1 with hw | ⟨x, y, hx, hy, hap⟩
        · obtain ⟨oj, hoj, e, he, hb, hon⟩ := Region.waitsFor_spec hw
          simp only [List.getElem?_toArray, ho, Option.some.injEq] at hoj
          subst hoj
          rw [← hon]; exact hdep e he hb
        · obtain ⟨h1, _, _⟩ := Oper.apart_spec hap
          rw [ho] at hy; cases hy
          rw [gslot_some hx] at hg
          exact absurd ht (h1 t hg)
      refine ⟨by rw [hden ρ]; exact h.done j sj t hsj hDj hg, hwf _ ?_⟩
      exact V.wf_mono (hdisj j sj hj hsj) (h.wfd j sj hsj hDj).1
    · have hno : ∀ j, j < n → D j = true → gslot all j ≠ some t := by
        intro j hj hDj hg
        rcases Nat.lt_trichotomy j i with hji | hji | hji
        · exact hnone j hji hg
        · rw [hji] at hDj; rw [hDj] at hDi; cases hDi
        · rcases (headB_spec hH hj hji).1 with hw | ⟨x, y, hx, hy, hap⟩
          · obtain ⟨oj, hoj, e, he, hb, hon⟩ := Region.waitsFor_spec hw
            simp only [List.getElem?_toArray] at hoj
            have := hc j oj hoj hDj e he hb
            simp only [hon] at this
            rw [this] at hDi; cases hDi
          · obtain ⟨_, _, h3⟩ := Oper.apart_spec hap
            rw [ho] at hx; cases hx
            rw [gslot_some hy] at hg
            exact absurd ht (h3 t hg)
      exact ⟨by rw [hden ρ]; exact h.old t v0 hv0 hno, hwf _ (V.wf_mono hlo (hs0 t v0 hv0))⟩
  have hmemD : ∀ e, e ∈ (L0 ++ (List.range n).flatMap fun j => bif D j then (match ds[j]? with | some st => st.new | none => []) else []) → e ∈ L0 ∨ ∃ j sj, ds[j]? = some sj ∧ D j = true ∧ e ∈ sj.new := by
    intro e he
    rcases List.mem_append.1 he with he | he
    · exact .inl he
    · obtain ⟨j, hj, he⟩ := List.mem_flatMap.1 he
      cases hD : D j with
      | false => rw [hD] at he; cases he
      | true =>
        rw [hD] at he
        simp only [cond_true] at he
        cases hds : ds[j]? with
        | none => rw [hds] at he; cases he
        | some sj => rw [hds] at he; exact .inr ⟨j, sj, hds, hD, he⟩
  have hinD : ∀ e j sj, ds[j]? = some sj → D j = true → e ∈ sj.new → e ∈ (L0 ++ (List.range n).flatMap fun j => bif D j then (match ds[j]? with | some st => st.new | none => []) else []) := by
    intro e j sj hj hD he
    have hjn : j < n := by rw [← hn]; exact (List.getElem?_eq_some_iff.1 hj).1
    exact List.mem_append.2 (.inr (List.mem_flatMap.2 ⟨j, List.mem_range.2 hjn, by rw [hD, hj]; exact he⟩))
  have hsub : ∀ e ∈ Ai, e ∈ (L0 ++ (List.range n).flatMap fun j => bif D j then (match ds[j]? with | some st => st.new | none => []) else []) := by
    intro e he
    rcases hAi e he with he | ⟨j, sj, hj, hsj, hb, he⟩
    · exact List.mem_append.2 (.inl he)
    · exact hinD e j sj hsj (hancD j hb) he
  have hpA : Hp n0 ρ w Ai st.lo := by
    refine ⟨h.hp.base, fun e he => h.hp.ok e (hsub e he), fun e he => ?_, fun e he e' he' => h.hp.fn e (hsub e he) e' (hsub e' he'), fun e he e' he' => h.hp.apart e (hsub e he) e' (hsub e' he')⟩
    rcases hAi e he with he | ⟨j, sj, hj, hsj, hb, he⟩
    · have := hL0 e he; exact ⟨Nat.lt_of_lt_of_le this.1 hlo, fun c hc => C.wf_mono hlo (this.2 c hc)⟩
    · have h1 := (h.wfd j sj hsj (hancD j hb)).2 e he
      have h2 := hdisj j sj hj hsj
      exact ⟨Nat.lt_of_lt_of_le h1.1.2 h2, fun c hc => C.wf_mono h2 (h1.2 c hc)⟩
  refine hgood ρ a w hmet hpA next Q ?_
  intro ρ' w' hvw hagr hb hnews
  have hoff : ∀ l, ¬ (st.lo ≤ l ∧ l < st.hi) → ρ' l = ρ l := fun l hl => hagr l hl
  have hlow : ∀ l, l < nx0 → ρ' l = ρ l := fun l hl => hagr l (by omega)
  have hfo : ∀ j sj, ds[j]? = some sj → D j = true → sj.v.labs (fun l => ¬ (st.lo ≤ l ∧ l < st.hi)) ∧ ∀ e ∈ sj.new, ∀ c ∈ e.cs, c.labs (fun l => ¬ (st.lo ≤ l ∧ l < st.hi)) := fun j sj hj hDj => fine_off hP hc hst hj hDi hDj (h.wfd j sj hj hDj)
  apply hK ρ'
  have hbeq : ∀ j, (Nat.beq j i || D j) = true → j = i ∨ D j = true := fun j hj => by
    simp only [Bool.or_eq_true] at hj
    exact hj.imp Nat.eq_of_beq_eq_true id
  refine ⟨?_, ?_, ?_, ?_, ?_, ?_, ?_, ?_⟩
  · cases hd : o.dst <;> simp [Act.put, h.size]
  · cases hd : o.dst <;> simp [Act.put, h.defers]
  · exact fun l hl => (hlow l hl).trans (h.agr l hl)
  · exact h.bel.trans (hb.mono h.bel.size)
  · refine (h.hp.news hsub hnews hb hagr (fun e he => ?_) (hny i st hst)).mono (fun e he => ?_) (Nat.le_refl _)
    · rcases hmemD e he with he | ⟨j, sj, hj, hDj, he⟩
      · have := hL0 e he
        exact ⟨by omega, fun c hc => C.den_labs hlow (C.labs_of_wf (fun l hl => hl) (this.2 c hc))⟩
      · have h1 := (h.wfd j sj hj hDj).2 e he
        have hne : j ≠ i := fun e => by rw [e] at hDj; rw [hDj] at hDi; cases hDi
        exact ⟨range_disj hP hj hst hne h1.1, fun c hc => C.den_labs hoff ((hfo j sj hj hDj).2 e he c hc)⟩
    · rcases List.mem_append.1 he with he | he
      · exact List.mem_append.2 (.inr (List.mem_append.2 (.inl he)))
      · obtain ⟨j, hj, he⟩ := List.mem_flatMap.1 he
        cases hD : (Nat.beq j i || D j) with
        | false => rw [hD] at he; cases he
        | true =>
          rw [hD] at he
          simp only [cond_true] at he
          cases hds : ds[j]? with
          | none => rw [hds] at he; cases he
          | some sj =>
            rw [hds] at he
            rcases hbeq j hD with rfl | hDj
            · rw [hst] at hds; cases hds; exact List.mem_append.2 (.inl he)
            · exact List.mem_append.2 (.inr (hinD e j sj hds hDj he))
  · intro j sj hj hDj
    rcases hbeq j hDj with rfl | hDj
    · rw [hst] at hj; cases hj
      exact ⟨hvw, hnews.wf⟩
    · exact h.wfd j sj hj hDj
  · intro j sj d hj hDj hg
    rcases hbeq j hDj with rfl | hDj
    · rw [hst] at hj; cases hj
      rw [gslot_some ho] at hg
      rw [hg] at hdst ⊢
      have hd' : d < N := Nat.le_of_ble_eq_true hdst
      simp [Act.put, h.size, hd']
    · have hne : j ≠ i := fun e => by rw [e] at hDj; rw [hDj] at hDi; cases hDi
      have hjn : j < n := by rw [← hn]; exact (List.getElem?_eq_some_iff.1 hj).1
      have hdn : o.dst ≠ some d := by
        rw [← gslot_some ho]
        rcases Nat.lt_or_gt_of_ne hne with hlt | hlt
        · exact (headB_spec hH hi hlt).2 d hg
        · intro he; exact (headB_spec hH hjn hlt).2 d he hg
      have h1 := h.done j sj d hj hDj hg
      have h2 : (a.put o.dst (st.v.den ρ')).tmps[d]? = a.tmps[d]? := by
        cases hd : o.dst with
        | none => rfl
        | some x =>
          rw [hd] at hdn
          simp only [Act.put]
          rw [Array.getElem?_setIfInBounds_ne (fun e => hdn (by rw [e]))]
      rw [h2, h1, V.den_labs hoff (hfo j sj hj hDj).1]
  · intro t v hv hnone
    have h1 := h.old t v hv (fun j hj hDj => hnone j hj (by rw [hDj]; simp))
    have hdn : o.dst ≠ some t := by rw [← gslot_some ho]; exact hnone i hi (by simp)
    have h2 : (a.put o.dst (st.v.den ρ')).tmps[t]? = a.tmps[t]? := by
      cases hd : o.dst with
      | none => rfl
      | some x =>
        rw [hd] at hdn
        simp only [Act.put]
        rw [Array.getElem?_setIfInBounds_ne (fun e => hdn (by rw [e]))]
    rw [h2, h1, V.den_labs hlow (V.labs_of_wf (fun l hl => hl) (hs0 t v hv))]
end
end Go.Proofs.Ytnafllhgjidbkaa
