/- Renaming, loops, functions. -/
import Derived.Test.YtnafllhgjidbkaaS13
namespace Go.Proofs.Ytnafllhgjidbkaa
open Go.RowKit
set_option linter.unusedVariables false
set_option linter.unusedSimpArgs false
/-- A renaming of labels: a label of the new state ↦ that of the old one; none: nothing lies there yet. -/
abbrev Rn := List (Nat × Option Nat)
def renL (R : Rn) (l : Nat) : Option Nat :=
  match R with
  | [] => some l
  | p :: r => bif Nat.beq p.1 l then p.2 else renL r l
/-- The old symbol that a new one stands for. -/
def C.ren (R : Rn) : C → Option C
  | .ptr l o => match renL R l with | some l' => some (.ptr l' o) | none => none
  | .sl l n => match renL R l with
    | some l' => some (.sl l' n)
    | none => match n with
      | 0 => some .nil
      | _ => none
  | .fn f caps => match R with
    | [] => some (.fn f caps)
    | _ => (match seqO (caps.map fun p => match renL R p.1 with | some l => some (l, p.2) | none => none) with | some m => some (.fn f m) | none => none)
  | c => some c
def A.ren (R : Rn) : A → Option A
  | .c x => (match x.ren R with | some y => some (.c y) | none => none)
  | .agg l => (match seqO (l.map (C.ren R)) with | some m => some (.agg m) | none => none)
def V.ren (R : Rn) : V → Option V
  | .a x => (match x.ren R with | some y => some (.a y) | none => none)
  | .tup l => (match seqO (l.map (A.ren R)) with | some m => some (.tup m) | none => none)
def renE (R : Rn) (ρ : Env) : Env := fun l => match renL R l with | some l' => ρ l' | none => (none, 0)
theorem C.ren_den {R : Rn} {c c' : C} (h : c.ren R = some c') (ρ : Env) : c.den (renE R ρ) = c'.den ρ := by
  cases c with
  | ptr l o =>
    simp only [C.ren] at h
    cases hr : renL R l with
    | none => rw [hr] at h; cases h
    | some l' => rw [hr] at h; cases h; simp only [C.den, ptrD, renE, hr]
  | sl l n =>
    simp only [C.ren] at h
    cases hr : renL R l with
    | none =>
      rw [hr] at h
      cases n with
      | zero => cases h; simp only [C.den, renE, hr]
      | succ n => cases h
    | some l' => rw [hr] at h; cases h; simp only [C.den, renE, hr]
  | fn f caps =>
    simp only [C.ren] at h
    split at h
    · cases h; rfl
    · split at h
      · rename_i m hm
        cases h
        obtain ⟨h1, h2⟩ := seqO_ok hm
        simp only [C.den]
        congr 2
        apply List.ext_getElem
        · simpa using h1
        · intro i hi hi'
          have h3 := h2 i (by simpa using hi) (by simpa using hi')
          simp only [List.getElem_map, ptrD]
          split at h3
          · rename_i l' hl
            cases h3' : m[i]'(by simpa using hi') with
            | mk a b =>
              rw [h3'] at h3
              cases h3
              simp only [renE, hl]
          · cases h3
      · cases h
  | _ => cases h; rfl
theorem cells_ren {R : Rn} {l m : List C} (h : seqO (l.map (C.ren R)) = some m) (ρ : Env) : l.map (C.den (renE R ρ)) = m.map (C.den ρ) := by
  obtain ⟨h1, h2⟩ := seqO_ok h
  apply List.ext_getElem
  · simpa using h1
  · intro i hi hi'
    simpa using C.ren_den (h2 i (by simpa using hi) (by simpa using hi')) ρ
theorem A.ren_den {R : Rn} {c c' : A} (h : c.ren R = some c') (ρ : Env) : c.den (renE R ρ) = c'.den ρ := by
  cases c with
  | c x =>
    simp only [A.ren] at h
    cases hx : x.ren R with
    | none => rw [hx] at h; cases h
    | some y => rw [hx] at h; cases h; exact C.ren_den hx ρ
  | agg l =>
    simp only [A.ren] at h
    split at h
    · rename_i m hm; cases h; simp only [A.den]; rw [cells_ren hm]
    · cases h
theorem V.ren_den {R : Rn} {c c' : V} (h : c.ren R = some c') (ρ : Env) : c.den (renE R ρ) = c'.den ρ := by
  cases c with
  | a x =>
    simp only [V.ren] at h
    cases hx : x.ren R with
    | none => rw [hx] at h; cases h
    | some y => rw [hx] at h; cases h; exact A.ren_den hx ρ
  | tup l =>
    simp only [V.ren] at h
    split at h
    · rename_i m hm
      cases h
      obtain ⟨h1, h2⟩ := seqO_ok hm
      simp only [V.den]
      congr 2
      apply List.ext_getElem
      · simpa using h1
      · intro i hi hi'
        simpa using A.ren_den (h2 i (by simpa using hi) (by simpa using hi')) ρ
    · cases h
/-- The slots of the new state, in the old one. -/
def covS (R : Rn) (nx : Nat) (s : S) : S → Prop
  | [] => True
  | p :: r => (look s p.1 = p.2.ren R ∧ (look s p.1).isSome = true ∧ p.2.wf nx) ∧ covS R nx s r
/-- The cells of one entry, in the old state. -/
def covC (R : Rn) (cs : List C) (cs' : List C) : Prop := cs' = cs ∧ R = [] ∨ seqO (cs.map (C.ren R)) = some cs'
def covE (R : Rn) (nx : Nat) (L : List E) (e : E) : Prop :=
  e.lab < nx ∧ (∀ c ∈ e.cs, c.wf nx) ∧
  match renL R e.lab with
  | some l => ∃ cs', find L l = some ⟨l, e.kd, cs'⟩ ∧ seqO (e.cs.map (C.ren R)) = some cs'
  | none => e.cs = [] ∧ ∃ t z, e.kd = .vec t z
def covL (R : Rn) (nx : Nat) (L : List E) : List E → Prop
  | [] => True
  | e :: r => covE R nx L e ∧ covL R nx L r
/-- No two labels of the new state name one of the old. -/
def injB (R : Rn) : List E → Bool
  | [] => true
  | e :: r => r.all (fun e' => !(Nat.beq e'.lab e.lab) && (match renL R e.lab, renL R e'.lab with | some a, some b => !(Nat.beq a b) | _, _ => true)) && injB R r
def fixB (R : Rn) (na : Nat) : Bool := R.all fun p => Nat.ble na p.1
structure Enter (R : Rn) (na nx' : Nat) (s : S) (L : List E) (s' : S) (L' : List E) : Prop where
  s : covS R nx' s s'
  l : covL R nx' L L'
  inj : injB R L' = true
  fix : fixB R na = true
  na : na ≤ nx'
theorem seqO_id {l : List C} : seqO (l.map (C.ren [])) = some l := by
  induction l with
  | nil => rfl
  | cons c r ih =>
    have : c.ren [] = some c := by cases c <;> rfl
    simp only [List.map_cons, this, seqO, ih]
theorem exists_least (p : Nat → Prop) : (∃ n, p n) → ∃ n, p n ∧ ∀ m, p m → n ≤ m := by
  rintro ⟨n, hn⟩
  induction n using Nat.strongRecOn with
  | _ n ih =>
    by_cases h : ∃ m, m < n ∧ p m
    · obtain ⟨m, h1, h2⟩ := h; exact ih m h1 h2
    · exact ⟨n, hn, fun m hm => by
        rcases Nat.lt_or_ge m n with h1 | h1
        · exact absurd ⟨m, h1, hm⟩ h
        · exact h1⟩
open Classical in
noncomputable def leastP (p : Nat → Prop) : Nat := if h : ∃ n, p n then Classical.choose (exists_least p h) else 0
theorem leastP_spec (p : Nat → Prop) (h : ∃ n, p n) : p (leastP p) ∧ ∀ m, p m → leastP p ≤ m := by
  unfold leastP
  rw [dif_pos h]
  exact Classical.choose_spec (exists_least p h)
section
variable {P : Program} {T : List (Nat × TD)} {n0 N na : Nat}
theorem covS_look {R : Rn} {nx : Nat} {s : S} : ∀ {s' : S}, covS R nx s s' → ∀ t v, look s' t = some v → ∃ u, look s t = some u ∧ v.ren R = some u ∧ v.wf nx
  | [], _, t, v, h => by cases h
  | p :: r, hc, t, v, h => by
    simp only [look] at h
    cases hb : Nat.beq p.1 t with
    | true =>
      rw [hb] at h
      cases h
      have := Nat.eq_of_beq_eq_true hb
      subst this
      obtain ⟨⟨h1, h2, h3⟩, _⟩ := hc
      obtain ⟨u, hu⟩ := Option.isSome_iff_exists.1 h2
      exact ⟨u, hu, by rw [← h1, hu], h3⟩
    | false => rw [hb] at h; exact covS_look hc.2 t v h
theorem covL_mem {R : Rn} {nx : Nat} {L : List E} : ∀ {L' : List E}, covL R nx L L' → ∀ e ∈ L', covE R nx L e
  | [], _, e, h => by cases h
  | x :: r, hc, e, h => by
    rcases List.mem_cons.1 h with rfl | h
    · exact hc.1
    · exact covL_mem hc.2 e h
theorem injB_spec {R : Rn} : ∀ {L : List E}, injB R L = true → ∀ e ∈ L, ∀ e' ∈ L, (e'.lab = e.lab ∨ ∃ a, renL R e.lab = some a ∧ renL R e'.lab = some a) → e' = e
  | [], _, e, he, e', he', h => by cases he
  | x :: r, hi, e, he, e', he', h => by
    simp only [injB, Bool.and_eq_true] at hi
    have key : ∀ y ∈ r, ¬ (y.lab = x.lab ∨ ∃ a, renL R x.lab = some a ∧ renL R y.lab = some a) := by
      intro y hy hh
      have h1 := List.all_eq_true.1 hi.1 y hy
      simp only [Bool.and_eq_true] at h1
      rcases hh with hh | ⟨a, ha, hb⟩
      · rw [hh] at h1; simp at h1
      · rw [ha, hb] at h1; simp at h1
    rcases List.mem_cons.1 he with h1 | h1 <;> rcases List.mem_cons.1 he' with h2 | h2
    · rw [h1, h2]
    · subst h1; exact absurd h (key e' h2)
    · subst h2; exact absurd (h.imp Eq.symm (fun ⟨a, q1, q2⟩ => ⟨a, q2, q1⟩)) (key e h1)
    · exact injB_spec hi.2 e h1 e' h2 h
theorem fixB_spec {R : Rn} {na : Nat} (h : fixB R na = true) {l : Nat} (hl : l < na) : renL R l = some l := by
  induction R with
  | nil => rfl
  | cons p r ih =>
    simp only [fixB, List.all_cons, Bool.and_eq_true] at h
    have hp := Nat.le_of_ble_eq_true h.1
    simp only [renL]
    cases hb : Nat.beq p.1 l with
    | true => have := Nat.eq_of_beq_eq_true hb; omega
    | false => exact ih h.2
theorem Enter.state {R : Rn} {nx nx' : Nat} {s s' : S} {L L' : List E} (h : Enter R na nx' s L s' L') {ρ : Env} {a : Act} {w : World} (hs : SlOK N ρ a s nx) (hp : Hp n0 ρ w L nx) :
    SlOK N (renE R ρ) a s' nx' ∧ Hp n0 (renE R ρ) w L' nx' ∧ AgrLt na ρ (renE R ρ) := by
  have hE : ∀ e ∈ L', EOK n0 (renE R ρ) w e ∧ ((∃ l e0, renL R e.lab = some l ∧ e0 ∈ L ∧ e0.lab = l ∧ e0.kd = e.kd ∧ (e0.cs = [] ↔ e.cs = [])) ∨ renL R e.lab = none) := by
    intro e he
    obtain ⟨h1, h2, h3⟩ := covL_mem h.l e he
    cases hr : renL R e.lab with
    | none =>
      rw [hr] at h3
      obtain ⟨h4, t, z, h5⟩ := h3
      refine ⟨?_, .inr rfl⟩
      obtain ⟨lab, kd, cs⟩ := e
      simp only at h4 h5 hr
      subst h4 h5
      refine ⟨0, ?_⟩
      have : (renE R ρ) lab = (none, 0) := by simp only [renE, hr]
      rw [this]
      exact World.ownsRow_nil w n0 t z
    | some l =>
      rw [hr] at h3
      obtain ⟨cs', h4, h5⟩ := h3
      have hm := find_mem h4
      have hok := hp.ok _ hm.1
      have hc := cells_ren h5 ρ
      have hl : (renE R ρ) e.lab = ρ l := by simp only [renE, hr]
      have hlen := (seqO_ok h5).1
      refine ⟨?_, .inl ⟨l, _, rfl, hm.1, rfl, rfl, ?_⟩⟩
      · obtain ⟨lab, kd, cs⟩ := e
        simp only at hok hl hc hlen
        cases kd <;> simp only [EOK] at hok ⊢
        · rw [hl, hc]; exact ⟨hok.1, by rw [hlen]; exact hok.2⟩
        · rw [hl, hc]; exact hok
        · rw [hl, hc]; exact hok
      · simp only
        constructor
        · intro h0; subst h0; exact List.length_eq_zero_iff.1 hlen
        · intro h0; rw [h0] at hlen; exact List.length_eq_zero_iff.1 hlen.symm
  refine ⟨⟨hs.size, hs.defers, fun t v hv => ?_⟩, ⟨hp.base, fun e he => (hE e he).1, fun e he => ⟨(covL_mem h.l e he).1, (covL_mem h.l e he).2.1⟩, fun e he e' he' hl => injB_spec h.inj e he e' he' (.inl hl), ?_⟩, fun l hl => by simp only [renE, fixB_spec h.fix hl]⟩
  · obtain ⟨u, h1, h2, h3⟩ := covS_look h.s t v hv
    exact ⟨by rw [(hs.ok t u h1).1, V.ren_den h2 ρ], h3⟩
  · intro e he e' he' hro hne hcs b hb hb'
    have hbl : ∀ x : E, ∀ l, renL R x.lab = some l → blk (renE R ρ) x.lab = blk ρ l := fun x l hl => by simp only [blk, renE, hl]
    have hbn : ∀ x : E, renL R x.lab = none → blk (renE R ρ) x.lab = none := fun x hl => by simp only [blk, renE, hl]; rfl
    rcases (hE e he).2 with ⟨l, e0, h1, h2, h3, h4, h5⟩ | h1
    · rcases (hE e' he').2 with ⟨l', e0', g1, g2, g3, g4, g5⟩ | g1
      · rw [hbl e l h1, ← h3] at hb
        rw [hbl e' l' g1, ← g3] at hb'
        refine hp.apart e0 h2 e0' g2 (by rw [h4]; exact hro) ?_ (fun hr0 h0 => hcs (by rw [← g4]; exact hr0) (g5.1 h0)) b hb hb'
        intro heq
        have := injB_spec h.inj e he e' he' (.inr ⟨l, h1, by rw [g1, ← g3, heq, h3]⟩)
        exact hne (by rw [this])
      · rw [hbn e' g1] at hb'; cases hb'
    · rw [hbn e h1] at hb; cases hb
/-- On from a state that says less, or names otherwise. -/
theorem Tri.enter {code : Code} {K : Kt} {R : Rn} {nx nx' : Nat} {s s' : S} {L L' : List E} (h : Tri P n0 N na code K s' L' nx') (he : Enter R na nx' s L s' L') : Tri P n0 N na code K s L nx := by
  refine ⟨fun ρ a w hna hs hp => ?_⟩
  obtain ⟨h1, h2, h3⟩ := he.state hs hp
  exact wp_mono (h.run _ a w he.na h1 h2) fun e a' w' hf => Fin.trans h3 (Below.refl _ _) hf
/-- A loop: at its head the state is S' g, L' g for some g that meets I. -/
theorem Tri.loop {γ : Type} {body : Code} {K : Kt} (I : γ → Prop) (S' : γ → S) (L' : γ → List E) (nx' : Nat) (μ : γ → Nat) (g0 : γ) {R0 : Rn} {nx : Nat} {s : S} {L : List E} (h0 : I g0) (he : Enter R0 na nx' s L (S' g0) (L' g0))
    (round : ∀ g, I g → Tri P n0 N na body (fun e s2 L2 nx2 => match e with
      | .normal => ∃ g' R, I g' ∧ μ g' < μ g ∧ Enter R na nx' s2 L2 (S' g') (L' g')
      | e => K e s2 L2 nx2) (S' g) (L' g) nx') : Tri P n0 N na (.loop body) K s L nx := by
  refine Tri.enter (R := R0) ?_ he
  refine ⟨fun ρ0 a0 w0 hna hs0 hp0 => ?_⟩
  let J : Nat → Act → World → Prop := fun m a w => ∃ g ρ, μ g = m ∧ I g ∧ SlOK N ρ a (S' g) nx' ∧ Hp n0 ρ w (L' g) nx' ∧ AgrLt na ρ0 ρ ∧ Below n0 w0 w
  refine wp_loop (I := fun a w => ∃ m, J m a w) (μ := fun a w => leastP fun m => J m a w) ⟨_, g0, ρ0, rfl, h0, hs0, hp0, AgrLt.refl _ _, Below.refl _ _⟩ ?_
  intro a w hI
  obtain ⟨h1, h2⟩ := leastP_spec (fun m => J m a w) hI
  obtain ⟨g, ρ, hm, hg, hs, hp, ha, hb⟩ := h1
  refine wp_mono ((round g hg).run ρ a w hna hs hp) ?_
  rintro e a' w' ⟨ρ', s2, L2, nx2, q1, q2, q3, q4, q5, q6⟩
  cases e with
  | normal =>
    obtain ⟨g', R, hg', hlt, hent⟩ := q6
    obtain ⟨r1, r2, r3⟩ := hent.state q3 q4
    have hJ : J (μ g') a' w' := ⟨g', renE R ρ', rfl, hg', r1, r2, (ha.trans q2 (Nat.le_refl _)).trans r3 (Nat.le_refl _), hb.trans q5⟩
    exact ⟨⟨_, hJ⟩, by
      have h3 := (leastP_spec (fun m => J m a' w') ⟨_, hJ⟩).2 _ hJ
      show leastP (fun m => J m a' w') < leastP (fun m => J m a w)
      rw [← hm]; omega⟩
  | _ => exact ⟨ρ', s2, L2, nx2, q1, ha.trans q2 (Nat.le_refl _), q3, q4, hb.trans q5, q6⟩
/-- What a function gives back. -/
def resA (T : List (Nat × TD)) (s : S) (L : List E) (l : List ResultVar) (K : List A → Prop) : Prop :=
  match l with
  | [] => K []
  | .tmp t :: r => (match look s t with
    | some (.a x) => resA T s L r fun m => K (x :: m)
    | _ => False)
  | .cell t ty :: r => onV (lookT T ty) fun d => rdLoad L d (look s t) fun v => (match v with
    | .a x => resA T s L r fun m => K (x :: m)
    | _ => False)
def tupV (l : List A) : V :=
  match l with
  | [x] => .a x
  | l => .tup l
theorem resA_ok (hT : TOK P T) {ρ : Env} {a : Act} {w : World} {s : S} {L : List E} {nx : Nat} (hs : SlOK N ρ a s nx) (hp : Hp n0 ρ w L nx) : ∀ {l : List ResultVar} {K : List A → Prop}, resA T s L l K →
    ∃ m, K m ∧ (∀ x ∈ m, x.wf nx) ∧ m.length = l.length ∧ (l.mapM (m := Sem) fun
      | .tmp t => pure (a.tmps.getD t undef)
      | .cell t ty => do loadVar ty (← asAddr (a.tmps.getD t undef))).run P w = .ok (m.map (A.den ρ)) w
  | [], K, h => ⟨[], h, by simp, rfl, rfl⟩
  | .tmp t :: r, K, h => by
    simp only [resA] at h
    split at h
    · rename_i x hx
      obtain ⟨m, h1, h2, h3, h4⟩ := resA_ok hT hs hp h
      obtain ⟨e1, e2⟩ := hs.ok t _ hx
      refine ⟨x :: m, h1, fun y hy => ?_, by simp [h3], ?_⟩
      · rcases List.mem_cons.1 hy with rfl | hy
        · exact e2
        · exact h2 y hy
      · have hg : a.tmps.getD t undef = x.den ρ := by simp [e1, V.den]
        simp only [List.mapM_cons, Sem.run_bind, Sem.run_pure, Result.andThen, hg, h4, List.map_cons]
    · exact h.elim
  | .cell t ty :: r, K, h => by
    obtain ⟨d, hd, h1⟩ := onV_iff h
    obtain ⟨v, u, hu, h2, h3, h4⟩ := rdLoad_ok hp (lookT_ok hT hd) h1
    split at h2
    · rename_i x
      obtain ⟨m, g1, g2, g3, g4⟩ := resA_ok hT hs hp h2
      obtain ⟨e1, e2⟩ := hs.ok t _ hu
      refine ⟨x :: m, g1, fun y hy => ?_, by simp [g3], ?_⟩
      · rcases List.mem_cons.1 hy with rfl | hy
        · exact h3
        · exact g2 y hy
      · have hg : a.tmps.getD t undef = u.den ρ := by simp [e1]
        have h5 : (do loadVar ty (← asAddr (u.den ρ)) : Sem Value).run P w = .ok (x.den ρ) w := by
          have h6 : (Instr.loadAt ty (u.den ρ)).run P w = .ok (x.den ρ) w := h4
          unfold Instr.loadAt at h6
          rw [Sem.run_bind] at h6 ⊢
          cases hq : u.den ρ with
          | pointer ad =>
            rw [hq] at h6
            cases ad with
            | none => simp [Instr.sureAddr] at h6
            | some ad => exact h6
          | _ => rw [hq] at h6; simp [Instr.sureAddr] at h6
        simp only [List.mapM_cons, hg]
        rw [Sem.run_bind, h5]
        simp only [Result.andThen, Sem.run_bind, g4, Sem.run_pure, List.map_cons]
    · exact h2.elim
def enterS (l : List V) (k : Nat) : S :=
  match l with
  | [] => []
  | v :: r => (k, v) :: enterS r (k + 1)
theorem enterS_look : ∀ {l : List V} {k t : Nat} {v : V}, look (enterS l k) t = some v → k ≤ t ∧ l[t - k]? = some v
  | [], k, t, v, h => by cases h
  | x :: r, k, t, v, h => by
    simp only [enterS, look] at h
    cases hb : Nat.beq k t with
    | true =>
      rw [hb] at h; cases h
      have := Nat.eq_of_beq_eq_true hb
      subst this
      simp
    | false =>
      rw [hb] at h
      obtain ⟨h1, h2⟩ := enterS_look h
      refine ⟨by omega, ?_⟩
      rw [show t - k = (t - (k + 1)) + 1 by omega]
      simpa using h2
/-- A function, from its body. -/
theorem calls_vc (hT : TOK P T) {f : FuncId} {fn : Func} {code : Code} {vs : List V} {w : World} {L : List E} {ρ0 : Env} {Q : V → List E → Nat → Prop} (hf : P.funcs[f]? = some fn) (hb : fn.body = some code) (hN : fn.ntmps = N) (hlen : vs.length ≤ N)
    (hp : Hp w.heap.size ρ0 w L na) (hv : ∀ v ∈ vs, v.wf na)
    (h : Tri P w.heap.size N na code (fun e s' L' nx' => match e with
      | .normal => resA T s' L' fn.results.toList fun l => Q (tupV l) L' nx'
      | .ret => resA T s' L' fn.results.toList fun l => Q (tupV l) L' nx'
      | _ => False) (enterS vs 0) L na) :
    Calls P f (vs.map (V.den ρ0)).toArray w fun e w' => ∃ v ρ' L' nx', e = .returned (v.den ρ') ∧ na ≤ nx' ∧ v.wf nx' ∧ AgrLt na ρ0 ρ' ∧ Below w.heap.size w w' ∧ Hp w.heap.size ρ' w' L' nx' ∧ Q v L' nx' := by
  refine calls_of_wp hf hb ?_
  have hs : SlOK N ρ0 { tmps := (vs.map (V.den ρ0)).toArray ++ Array.replicate (fn.ntmps - (vs.map (V.den ρ0)).toArray.size) undef, defers := [] } (enterS vs 0) na := by
    refine ⟨by simp [hN]; omega, rfl, fun t v hv' => ?_⟩
    obtain ⟨_, h2⟩ := enterS_look hv'
    simp only [Nat.sub_zero] at h2
    have hlt := (List.getElem?_eq_some_iff.1 h2).1
    refine ⟨?_, hv v (List.mem_of_getElem? h2)⟩
    have h3 : vs[t] = v := (List.getElem?_eq_some_iff.1 h2).2
    simp [Array.getElem?_append, hlt, h3]
  refine wp_mono (h.run ρ0 _ w (Nat.le_refl _) hs hp) ?_
  have key : ∀ {a' : Act} {w' : World} {ρ' : Env} {s' : S} {L' : List E} {nx' : Nat}, na ≤ nx' → AgrLt na ρ0 ρ' → SlOK N ρ' a' s' nx' → Hp w.heap.size ρ' w' L' nx' → Below w.heap.size w w' → resA T s' L' fn.results.toList (fun l => Q (tupV l) L' nx') →
      a'.defers = [] ∧ ∃ v, (results fn a'.tmps).run P w' = .ok v w' ∧ ∃ u ρ' L' nx', Ending.returned v = .returned (u.den ρ') ∧ na ≤ nx' ∧ u.wf nx' ∧ AgrLt na ρ0 ρ' ∧ Below w.heap.size w w' ∧ Hp w.heap.size ρ' w' L' nx' ∧ Q u L' nx' := by
    intro a' w' ρ' s' L' nx' h1 h2 h3 h4 h5 h6
    obtain ⟨m, g1, g2, g3, g4⟩ := resA_ok hT h3 h4 h6
    refine ⟨h3.defers, (tupV m).den ρ', ?_, tupV m, ρ', L', nx', rfl, h1, ?_, h2, h5, h4, g1⟩
    · have hrun : (fn.results.mapM (m := Sem) fun
          | .tmp t => pure (a'.tmps.getD t undef)
          | .cell a t => do loadVar t (← asAddr (a'.tmps.getD a undef))).run P w' = .ok (m.map (A.den ρ')).toArray w' := by
        rw [Array.mapM_eq_mapM_toList, Sem.run_map, g4]; rfl
      simp only [results]
      rw [Sem.run_bind]
      refine (congrArg (fun r => Result.andThen r _) hrun).trans ?_
      simp only [Result.andThen, Sem.run_pure]
      congr 1
      match m with
      | [] => rfl
      | [x] => rfl
      | x :: y :: r => simp [tupV, V.den]
    · unfold tupV
      split
      · exact g2 _ (by simp)
      · exact g2
  rintro e a' w' ⟨ρ', s', L', nx', h1, h2, h3, h4, h5, h6⟩
  cases e with
  | normal => exact key h1 h2 h3 h4 h5 h6
  | ret => exact key h1 h2 h3 h4 h5 h6
  | exit id => exact h6.elim
  | goto l => exact h6.elim
  | panic c => exact h6.elim
  | outgrown => exact h6.elim
end
end Go.Proofs.Ytnafllhgjidbkaa
