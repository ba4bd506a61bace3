/- Calls: from a function's walk to its callers. -/
import Derived.Test.YtnafllhgjidbkaaS14
namespace Go.Proofs.Ytnafllhgjidbkaa
open Go.RowKit
set_option linter.unusedVariables false
set_option linter.unusedSimpArgs false
/-- What a function's walk shows. -/
def Spec (P : Program) (f : FuncId) (vs : List V) (L : List E) (na : Nat) (Q : V → List E → Nat → Prop) : Prop :=
  ∀ (ρ : Env) (w : World), Hp w.heap.size ρ w L na → (∀ v ∈ vs, v.wf na) → Calls P f (vs.map (V.den ρ)).toArray w fun e w' =>
    ∃ v ρ' L' nx', e = .returned (v.den ρ') ∧ na ≤ nx' ∧ v.wf nx' ∧ AgrLt na ρ ρ' ∧ Below w.heap.size w w' ∧ Hp w.heap.size ρ' w' L' nx' ∧ Q v L' nx'
/-- A callee's entries, that are read alone, in the caller's state. -/
def roE (R : Rn) (nx : Nat) (L : List E) (e : E) : Prop :=
  match e.kd with
  | .ro z => e.lab < nx ∧ (∀ c ∈ e.cs, c.wf nx) ∧ (match renL R e.lab with
    | some l => ∃ k cs', find L l = some ⟨l, k, cs'⟩ ∧ (z = 0 ∨ k.z = some z) ∧ seqO (e.cs.map (C.ren R)) = some cs'
    | none => e.cs = [])
  | _ => False
def roL (R : Rn) (nx : Nat) (L : List E) : List E → Prop
  | [] => True
  | e :: r => roE R nx L e ∧ roL R nx L r
def renVs (R : Rn) (l : List V) : Option (List V) := seqO (l.map (V.ren R))
def inLab (nx nx2 l : Nat) : Bool := Nat.ble nx l && Nat.blt l nx2
/-- The result in the caller's names. -/
structure Ret (Rr : Rn) (nx nx2 : Nat) (v : V) (L : List E) (v' : V) (new : List E) : Prop where
  le : nx ≤ nx2
  v : v'.ren Rr = some v
  vc : v'.chk (inLab nx nx2) = true
  l : covL Rr nx2 L new
  inj : injB Rr new = true
  lc : (new.all fun e => inLab nx nx2 e.lab && !e.kd.isRo && e.cs.all (C.chk (inLab nx nx2))) = true
section
variable {P : Program} {n0 : Nat}
theorem C.wf_of_ren {R : Rn} {c c' : C} {m n : Nat} {p : Nat → Bool} (h : c.ren R = some c') (hw : c'.wf m) (hc : c.chk p = true) (hp : ∀ l, p l = true → l < n) : c.wf n := by
  cases c <;> simp only [C.chk, C.wf] at *
  case ptr l o => exact hp _ hc
  case sl l o => exact hp _ hc
  case fn f caps => exact fun q hq => hp _ (List.all_eq_true.1 hc q hq)
  case v x => cases h; exact hw
theorem A.wf_of_ren {R : Rn} {c c' : A} {m n : Nat} {p : Nat → Bool} (h : c.ren R = some c') (hw : c'.wf m) (hc : c.chk p = true) (hp : ∀ l, p l = true → l < n) : c.wf n := by
  cases c with
  | c x =>
    simp only [A.ren] at h
    cases hx : x.ren R with
    | none => rw [hx] at h; cases h
    | some y => rw [hx] at h; cases h; exact C.wf_of_ren hx hw hc hp
  | agg l =>
    simp only [A.ren] at h
    split at h
    · rename_i k hk
      cases h
      obtain ⟨h1, h2⟩ := seqO_ok hk
      intro x hx
      obtain ⟨i, hi, rfl⟩ := List.mem_iff_getElem.1 hx
      exact C.wf_of_ren (h2 i hi (by omega)) (hw _ (List.getElem_mem _)) (List.all_eq_true.1 hc _ hx) hp
    · cases h
theorem V.wf_of_ren {R : Rn} {c c' : V} {m n : Nat} {p : Nat → Bool} (h : c.ren R = some c') (hw : c'.wf m) (hc : c.chk p = true) (hp : ∀ l, p l = true → l < n) : c.wf n := by
  cases c with
  | a x =>
    simp only [V.ren] at h
    cases hx : x.ren R with
    | none => rw [hx] at h; cases h
    | some y => rw [hx] at h; cases h; exact A.wf_of_ren hx hw hc hp
  | tup l =>
    simp only [V.ren] at h
    split at h
    · rename_i k hk
      cases h
      obtain ⟨h1, h2⟩ := seqO_ok hk
      intro x hx
      obtain ⟨i, hi, rfl⟩ := List.mem_iff_getElem.1 hx
      exact A.wf_of_ren (h2 i hi (by omega)) (hw _ (List.getElem_mem _)) (List.all_eq_true.1 hc _ hx) hp
    · cases h
theorem roL_mem {R : Rn} {nx : Nat} {L : List E} : ∀ {L' : List E}, roL R nx L L' → ∀ e ∈ L', roE R nx L e
  | [], _, e, h => by cases h
  | x :: r, hc, e, h => by
    rcases List.mem_cons.1 h with rfl | h
    · exact hc.1
    · exact roL_mem hc.2 e h
theorem EOK.base {n1 : Nat} {ρ : Env} {w : World} {e : E} (h : EOK n1 ρ w e) (hn : n0 ≤ n1) : EOK n0 ρ w e := by
  obtain ⟨lab, kd, cs⟩ := e
  cases kd with
  | ro z => exact h
  | own t => obtain ⟨b, e1, e2, e3⟩ := h; exact ⟨b, e1, by omega, e3⟩
  | vec t z =>
    obtain ⟨n, h1, h2⟩ := h
    exact ⟨n, h1, h2.imp id fun ⟨g, cap, cur, q1, q2, q3⟩ => ⟨g, cap, cur, q1, by omega, q3⟩⟩
theorem EOK.blk_ge {n1 : Nat} {ρ : Env} {w : World} {e : E} (h : EOK n1 ρ w e) (hk : e.kd.isRo = false) : ∀ b, blk ρ e.lab = some b → n1 ≤ b := by
  intro b hb
  obtain ⟨lab, kd, cs⟩ := e
  cases kd with
  | ro z => cases hk
  | own t =>
    obtain ⟨b', e1, e2, e3⟩ := h
    simp only [blk, e1, Option.map_some, Option.some.injEq] at hb
    omega
  | vec t z =>
    obtain ⟨n, hw⟩ := h
    simp only [blk] at hb
    obtain ⟨a, ha, hab⟩ := Option.map_eq_some_iff.1 hb
    exact (hw.lt b (by simp only [ha, Value.ownBlock, hab])).1
theorem EOK.toRo {n1 : Nat} {ρ : Env} {w : World} {l z : Nat} {k : Kd} {cs : List C} (h : EOK n1 ρ w ⟨l, k, cs⟩) (hz : z = 0 ∨ k.z = some z) : EOK n0 ρ w ⟨l, .ro z, cs⟩ := by
  refine ⟨fun hne => ?_, ?_⟩
  · have hlen : 0 < cs.length := by
      rcases Nat.eq_zero_or_pos cs.length with h0 | h0
      · exfalso; apply hne; rw [List.length_eq_zero_iff.1 h0]; rfl
      · exact h0
    obtain ⟨b, off, e1, e2, _⟩ := h.read (o := 0) (c := cs[0]) (by simp [hlen])
    refine ⟨b, off, e1, e2, fun i hi => ?_⟩
    have hi' : i < cs.length := by simpa using hi
    obtain ⟨b', off', f1, _, f3⟩ := h.read (o := i) (c := cs[i]) (by simp [hi'])
    simp only at e1 f1
    rw [e1] at f1; cases f1
    rw [f3]; simp [List.getD_eq_getElem?_getD, hi']
  · rcases hz with hz | hz
    · exact .inl hz
    · by_cases hz0 : 0 < z
      · right
        -- the room of what lies there
        cases k with
        | ro k =>
          cases k with
          | zero => cases hz
          | succ k =>
            cases hz
            rcases h.2 with h2 | h2
            · omega
            · exact h2
        | own t => cases hz
        | vec t k =>
          cases hz
          obtain ⟨n, h1, h2⟩ := h
          simp only [List.length_map] at h1
          simp only
          rw [h1]
          rcases h2 with ⟨h3, h4⟩ | ⟨g, cap, cur, h3, _, _, h5, _⟩
          · subst h4; simp
          · have h6 := congrArg (fun v => match v with | Value.slice _ _ c => c | _ => 0) h3
            simp only at h6
            exact Nat.mul_le_mul_right _ (by omega)
      · left; omega
theorem callee_run {f : FuncId} {vs vs' : List V} {Lc L : List E} {nac nx : Nat} {R : Rn} {Q : V → List E → Nat → Prop} (spec : Spec P f vs Lc nac Q) (hv : renVs R vs = some vs') (hvw : ∀ v ∈ vs, v.wf nac) (hL : roL R nac L Lc) (hLc : injB [] Lc = true)
    {ρ : Env} {w : World} (hp : Hp n0 ρ w L nx) : Calls P f (vs'.map (V.den ρ)).toArray w fun e w' =>
    ∃ v ρ' L' nx', e = .returned (v.den ρ') ∧ nac ≤ nx' ∧ v.wf nx' ∧ AgrLt nac (renE R ρ) ρ' ∧ Below w.heap.size w w' ∧ Hp w.heap.size ρ' w' L' nx' ∧ Q v L' nx' := by
  have hE : ∀ e ∈ Lc, EOK w.heap.size (renE R ρ) w e ∧ e.kd.isRo = true := by
    intro e he
    have h := roL_mem hL e he
    obtain ⟨lab, kd, cs⟩ := e
    cases kd with
    | own t => exact h.elim
    | vec t z => exact h.elim
    | ro z =>
      obtain ⟨h1, h2, h3⟩ := h
      simp only at h3
      refine ⟨?_, rfl⟩
      cases hr : renL R lab with
      | none =>
        rw [hr] at h3
        subst h3
        exact ⟨fun hne => absurd rfl hne, .inr (Nat.zero_le _)⟩
      | some l =>
        rw [hr] at h3
        obtain ⟨k, cs', h4, h5, h6⟩ := h3
        have hm := find_mem h4
        have hk := (hp.ok _ hm.1).toRo (n0 := w.heap.size) h5
        have hl : (renE R ρ) lab = ρ l := by simp only [renE, hr]
        simp only [EOK] at hk ⊢
        rw [hl, cells_ren h6 ρ, (seqO_ok h6).1]; exact hk
  have hpc : Hp w.heap.size (renE R ρ) w Lc nac := by
    refine ⟨Nat.le_refl _, fun e he => (hE e he).1, fun e he => ?_, fun e he e' he' hl => ?_, fun e he e' he' hro => ?_⟩
    · have h := roL_mem hL e he
      obtain ⟨lab, kd, cs⟩ := e
      cases kd with
      | ro z => exact ⟨h.1, h.2.1⟩
      | own t => exact h.elim
      | vec t z => exact h.elim
    · exact injB_spec hLc e he e' he' (.inl hl)
    · rw [(hE e he).2] at hro; cases hro
  obtain ⟨hv1, hv2⟩ := seqO_ok hv
  have hargs : vs'.map (V.den ρ) = vs.map (V.den (renE R ρ)) := by
    apply List.ext_getElem
    · simpa using hv1.symm
    · intro i hi hi'
      simpa using (V.ren_den (hv2 i (by simpa using hi') (by simpa using hi)) ρ).symm
  rw [hargs]
  exact spec (renE R ρ) w hpc hvw
theorem CallK.mk' {f : FuncId} {vs vs' : List V} {Lc L : List E} {nac nx : Nat} {R : Rn} {K Q : V → List E → Nat → Prop} (hok : callB P f = true) (spec : Spec P f vs Lc nac Q) (hv : renVs R vs = some vs') (hvw : ∀ v ∈ vs, v.wf nac) (hL : roL R nac L Lc) (hLc : injB [] Lc = true)
    (hQ : ∀ v L' nx', v.wf nx' → Q v L' nx' → ∃ v' new nx2 Rr, Ret Rr nx nx2 v L' v' new ∧ K v' new nx2) : CallK P n0 f vs' L nx K := by
  refine ⟨hok, fun ρ w hp hvw' => ?_⟩
  refine (callee_run spec hv hvw hL hLc hp).mono ?_
  rintro e w' ⟨v, ρ', L', nx', rfl, h1, h2, h3, h4, h5, h6⟩
  obtain ⟨v', new, nx2, Rr, hret, hK⟩ := hQ v L' nx' h2 h6
  have hin : ∀ {l : Nat}, inLab nx nx2 l = true → nx ≤ l ∧ l < nx2 := fun h => by
    simp only [inLab, Bool.and_eq_true] at h
    exact ⟨Nat.le_of_ble_eq_true h.1, Nat.le_of_ble_eq_true h.2⟩
  let ρ2 : Env := fun l => bif inLab nx nx2 l then renE Rr ρ' l else ρ l
  have hρ2 : ∀ l, inLab nx nx2 l = true → ρ2 l = renE Rr ρ' l := fun l hl => by simp only [ρ2, hl, cond_true]
  have hagr : Agr nx nx2 ρ ρ2 := fun l hl => by
    have : inLab nx nx2 l = false := by
      cases hb : inLab nx nx2 l with
      | false => rfl
      | true => exact absurd (hin hb) hl
    simp only [ρ2, this, cond_false]
  have hden : ∀ c : C, c.chk (inLab nx nx2) = true → c.den ρ2 = c.den (renE Rr ρ') := fun c hc => C.den_labs (q := fun l => inLab nx nx2 l = true) hρ2 (C.labs_of_chk (fun l hl => hl) hc)
  have hnew : ∀ e ∈ new, inLab nx nx2 e.lab = true ∧ e.kd.isRo = false ∧ ∀ c ∈ e.cs, c.chk (inLab nx nx2) = true := by
    intro e he
    have h := List.all_eq_true.1 hret.lc e he
    simp only [Bool.and_eq_true, Bool.not_eq_true'] at h
    exact ⟨h.1.1, h.1.2, fun c hc => List.all_eq_true.1 h.2 c hc⟩
  have hEn : ∀ e ∈ new, EOK w.heap.size ρ2 w' e ∧ ((∃ l e0, renL Rr e.lab = some l ∧ e0 ∈ L' ∧ e0.lab = l ∧ e0.kd = e.kd) ∨ renL Rr e.lab = none) := by
    intro e he
    obtain ⟨q1, q2, q3⟩ := hnew e he
    obtain ⟨g1, g2, g3⟩ := covL_mem hret.l e he
    have hl2 : ρ2 e.lab = renE Rr ρ' e.lab := hρ2 _ q1
    have hc2 : e.cs.map (C.den ρ2) = e.cs.map (C.den (renE Rr ρ')) := List.map_congr_left fun c hc => hden c (q3 c hc)
    cases hr : renL Rr e.lab with
    | none =>
      rw [hr] at g3
      obtain ⟨g4, t, z, g5⟩ := g3
      refine ⟨?_, .inr rfl⟩
      obtain ⟨lab, kd, cs⟩ := e
      simp only at g4 g5 hr hl2
      subst g4 g5
      refine ⟨0, ?_⟩
      rw [hl2]
      have : (renE Rr ρ') lab = (none, 0) := by simp only [renE, hr]
      rw [this]
      exact World.ownsRow_nil w' _ t z
    | some l =>
      rw [hr] at g3
      obtain ⟨cs', g4, g5⟩ := g3
      have hm := find_mem g4
      have hok := h5.ok _ hm.1
      have hl : (renE Rr ρ') e.lab = ρ' l := by simp only [renE, hr]
      refine ⟨?_, .inl ⟨l, _, rfl, hm.1, rfl, rfl⟩⟩
      have hc := cells_ren g5 ρ'
      obtain ⟨lab, kd, cs⟩ := e
      simp only at hok hl hc hl2 hc2 q2
      cases kd with
      | ro z => cases q2
      | own t => simp only [EOK] at hok ⊢; rw [hl2, hc2, hl, hc]; exact hok
      | vec t z => simp only [EOK] at hok ⊢; rw [hl2, hc2, hl, hc]; exact hok
  refine ⟨v', new, nx2, ρ2, ?_, hret.le, ?_, hagr, h4, ?_, hK⟩
  · rw [V.den_labs (q := fun l => inLab nx nx2 l = true) hρ2 (V.labs_of_chk (fun l hl => hl) hret.vc), V.ren_den hret.v ρ']
  · exact V.wf_of_ren hret.v h2 hret.vc (fun l hl => (hin hl).2)
  · refine ⟨fun e he => (hEn e he).1.base hp.base, fun e he => ⟨hin (hnew e he).1, (covL_mem hret.l e he).2.1⟩, fun e he e' he' hl => injB_spec hret.inj e he e' he' (.inl hl), ?_, fun e he => .inl (fun b hb => (hEn e he).1.blk_ge (hnew e he).2.1 b hb)⟩
    intro e he e' he' hro hne hcs b hb hb'
    have hbl : ∀ x : E, x ∈ new → ∀ l, renL Rr x.lab = some l → blk ρ2 x.lab = blk ρ' l := fun x hx l hl => by simp only [blk]; rw [hρ2 _ (hnew x hx).1]; simp only [renE, hl]
    have hbn : ∀ x : E, x ∈ new → renL Rr x.lab = none → blk ρ2 x.lab = none := fun x hx hl => by simp only [blk]; rw [hρ2 _ (hnew x hx).1]; simp only [renE, hl]; rfl
    rcases (hEn e he).2 with ⟨l, e0, g1, g2, g3, g4⟩ | g1
    · rcases (hEn e' he').2 with ⟨l', e0', k1, k2, k3, k4⟩ | k1
      · rw [hbl e he l g1, ← g3] at hb
        rw [hbl e' he' l' k1, ← k3] at hb'
        refine h5.apart e0 g2 e0' k2 (by rw [g4]; exact hro) ?_ (fun hr0 => by rw [k4, (hnew e' he').2.1] at hr0; cases hr0) b hb hb'
        intro heq
        have := injB_spec hret.inj e he e' he' (.inr ⟨l, g1, by rw [k1, ← k3, heq, g3]⟩)
        exact hne (by rw [this])
      · rw [hbn e' he' k1] at hb'; cases hb'
    · rw [hbn e he g1] at hb; cases hb
/-- A function's walk, as what its callers ask. -/
theorem Spec.of {T : List (Nat × TD)} (hT : TOK P T) {f : FuncId} {fn : Func} {code : Code} {vs : List V} {L : List E} {N na : Nat} {Q : V → List E → Nat → Prop} (hf : P.funcs[f]? = some fn) (hb : fn.body = some code) (hN : fn.ntmps = N) (hlen : Nat.ble vs.length N = true)
    (h : ∀ n0, Tri P n0 N na code (fun e s' L' nx' => match e with
      | .normal => resA T s' L' fn.results.toList fun l => Q (tupV l) L' nx'
      | .ret => resA T s' L' fn.results.toList fun l => Q (tupV l) L' nx'
      | _ => False) (enterS vs 0) L na) : Spec P f vs L na Q :=
  fun ρ w hp hv => calls_vc hT hf hb hN (Nat.le_of_ble_eq_true hlen) hp hv (h _)
/-- The result is what the symbol says. -/
def Is (u : V) : V → List E → Nat → Prop := fun v _ _ => ∀ ρ, v.den ρ = u.den ρ
/-- A callee whose result names no memory. -/
theorem CallK.val {f : FuncId} {vs vs' : List V} {Lc L : List E} {nac nx : Nat} {R : Rn} {u : V} {K : V → List E → Nat → Prop} (spec : Spec P f vs Lc nac (Is u)) (hok : callB P f = true) (hv : renVs R vs = some vs') (hvw : ∀ v ∈ vs, v.wf nac) (hL : roL R nac L Lc) (hLc : injB [] Lc = true)
    (hu : u.chk (fun _ => false) = true) (huw : u.wf nx) (hK : K u [] nx) : CallK P n0 f vs' L nx K := by
  refine ⟨hok, fun ρ w hp _ => (callee_run spec hv hvw hL hLc hp).mono ?_⟩
  rintro e w' ⟨v, ρ', L', nx', rfl, h1, h2, h3, h4, h5, h6⟩
  refine ⟨u, [], nx, ρ, ?_, Nat.le_refl _, huw, Agr.refl _ _, h4, News.nil, hK⟩
  rw [h6 ρ', V.den_labs (q := fun _ => False) (fun l hl => hl.elim) (V.labs_of_chk (fun l hl => by cases hl) hu)]
end

theorem br_t {p : Prop} [Decidable p] {A B : Prop} (hp : p) (h : A) : (decide p = true → A) ∧ (decide p = false → B) := ⟨fun _ => h, fun hh => absurd hp (of_decide_eq_false hh)⟩
theorem br_f {p : Prop} [Decidable p] {A B : Prop} (hp : ¬ p) (h : B) : (decide p = true → A) ∧ (decide p = false → B) := ⟨fun hh => absurd (of_decide_eq_true hh) hp, fun _ => h⟩
theorem br_d {p : Prop} [Decidable p] {A B : Prop} (h1 : p → A) (h2 : ¬ p → B) : (decide p = true → A) ∧ (decide p = false → B) := ⟨fun hh => h1 (of_decide_eq_true hh), fun hh => h2 (of_decide_eq_false hh)⟩
theorem bs_t {p : Prop} [Decidable p] {A B : Prop} (hp : p) (h : B) : (decide p = false → A) ∧ (decide p = true → B) := ⟨fun hh => absurd hp (of_decide_eq_false hh), fun _ => h⟩
theorem bs_f {p : Prop} [Decidable p] {A B : Prop} (hp : ¬ p) (h : A) : (decide p = false → A) ∧ (decide p = true → B) := ⟨fun _ => h, fun hh => absurd (of_decide_eq_true hh) hp⟩
theorem bs_d {p : Prop} [Decidable p] {A B : Prop} (h1 : ¬ p → A) (h2 : p → B) : (decide p = false → A) ∧ (decide p = true → B) := ⟨fun hh => h1 (of_decide_eq_false hh), fun hh => h2 (of_decide_eq_true hh)⟩
/-- The heads of a region: what goes ahead of the first operation that turns memory. -/
def headN (l : List Oper) : Nat :=
  match l with
  | [] => 0
  | o :: r => match o.op with
    | .store _ _ _ => 0
    | .call ⟨.builtin .append, _, _⟩ => 0
    | _ => headN r + 1
theorem draw_auto {P : Program} {T : List (Nat × TD)} {n0 N na : Nat} (hT : TOK P T) (hm : P.follows .mixedOrders = true) {id : Nat} {ops : Array Oper} {K : Kt} {s : S} {L : List E} {nx : Nat} (hB : drawB ops (headN ops.toList) = true) (h : Opq (K .normal) fun K' => drawR P T n0 N ops.toList (headN ops.toList) K' s L nx) :
    Tri P n0 N na (.region id ops true) K s L nx := draw_rule hT hm hB (h (K .normal) fun _ _ _ h => h)
theorem HD_mk {P : Program} {n0 : Nat} {g : FuncId} {vs : List V} {L : List E} {nx : Nat} {K : V → List E → Nat → Prop} {v : V} {new : List E} {nx' : Nat} (h : ∀ K' : V → List E → Nat → Prop, K' v new nx' → CallK P n0 g vs L nx K') (hK : K v new nx') : HD P n0 g vs L nx K :=
  ⟨v, new, nx', h _ ⟨rfl, rfl, rfl⟩, hK⟩
theorem covE_id {nx : Nat} {L : List E} {e : E} {cs' : List C} (h1 : e.lab < nx) (h2 : ∀ c ∈ e.cs, c.wf nx) (h3 : find L e.lab = some ⟨e.lab, e.kd, cs'⟩) (h4 : cs' = e.cs) : covE [] nx L e :=
  ⟨h1, h2, cs', h3, by rw [h4]; exact seqO_id⟩
theorem roE_id {nx z l : Nat} {L : List E} {k : Kd} {cs cs' : List C} (h1 : l < nx) (h2 : ∀ c ∈ cs, c.wf nx) (h3 : find L l = some ⟨l, k, cs'⟩) (hz : z = 0 ∨ k.z = some z) (h4 : cs' = cs) : roE [] nx L ⟨l, .ro z, cs⟩ :=
  ⟨h1, h2, k, cs', h3, hz, by rw [h4]; exact seqO_id⟩
theorem ld {α : Type} {o : Option α} {c : α} {K : α → Prop} (h : o = some c) (hK : K c) : ∃ c, o = some c ∧ K c := ⟨c, h, hK⟩
end Go.Proofs.Ytnafllhgjidbkaa
