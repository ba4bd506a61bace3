/- Lists of operations, statements, functions. -/
import Derived.Test.YtnafllhgjidbkaaS7
namespace Go.Proofs.Ytnafllhgjidbkaa
open Go.RowKit
set_option linter.unusedVariables false
set_option linter.unusedSimpArgs false

def dstB (N : Nat) (dst : Option Tmp) : Bool :=
  match dst with
  | some d => Nat.blt d N
  | none => true
def putS (s : S) (dst : Option Tmp) (v : V) : S :=
  match dst with
  | some d => (d, v) :: s
  | none => s
def putK (s : S) (dst : Option Tmp) (v : V) (K : S → Prop) : Prop :=
  match dst with
  | some d => K ((d, v) :: s)
  | none => K s
theorem putK_eq (s : S) (dst : Option Tmp) (v : V) (K : S → Prop) : putK s dst v K = K (putS s dst v) := by cases dst <;> rfl
def appK (new L : List E) (K : List E → Prop) : Prop :=
  match new with
  | [] => K L
  | [e] => K (e :: L)
  | es => K (es ++ L)
theorem appK_eq (new L : List E) (K : List E → Prop) : appK new L K = K (new ++ L) := by
  unfold appK; split <;> rfl
structure SlOK (N : Nat) (ρ : Env) (a : Act) (s : S) (nx : Nat) : Prop where
  size : a.tmps.size = N
  defers : a.defers = []
  ok : ∀ t v, look s t = some v → a.tmps[t]? = some (v.den ρ) ∧ v.wf nx
theorem SlOK.ev {N : Nat} {ρ : Env} {a : Act} {s : S} {nx : Nat} (h : SlOK N ρ a s nx) : ∀ x v, ev s x = some v → a.eval x = v.den ρ ∧ v.wf nx := by
  intro x v hx
  cases x with
  | tmp t =>
    obtain ⟨h1, h2⟩ := h.ok t v hx
    exact ⟨by simp [Act.eval, h1], h2⟩
  | const c => obtain ⟨h1, h2⟩ := V.ofV_ok hx ρ nx; exact ⟨h1.symm, h2⟩
  | global g => cases hx
  | func f => cases hx; exact ⟨rfl, by simp [V.wf, A.wf, C.wf]⟩
theorem SlOK.put {N : Nat} {ρ ρ' : Env} {a : Act} {s : S} {nx nx' : Nat} (h : SlOK N ρ a s nx) (ha : AgrLt nx ρ ρ') (hx : nx ≤ nx') {dst : Option Tmp} (hd : dstB N dst = true) {v : V} (hv : v.wf nx') :
    SlOK N ρ' (a.put dst (v.den ρ')) (putS s dst v) nx' := by
  have hold : ∀ t u, look s t = some u → a.tmps[t]? = some (u.den ρ') ∧ u.wf nx' := fun t u hu => by
    obtain ⟨h1, h2⟩ := h.ok t u hu
    exact ⟨by rw [h1, V.den_agr ha h2], V.wf_mono hx h2⟩
  cases dst with
  | none => exact ⟨h.size, h.defers, hold⟩
  | some d =>
    have hd' : d < N := Nat.le_of_ble_eq_true hd
    refine ⟨by simp [Act.put, h.size], h.defers, fun t u hu => ?_⟩
    simp only [putS, look] at hu
    cases hb : Nat.beq d t with
    | true =>
      rw [hb] at hu
      cases hu
      have := Nat.eq_of_beq_eq_true hb
      subst this
      exact ⟨by simp [Act.put, h.size, hd'], hv⟩
    | false =>
      rw [hb] at hu
      have hne : d ≠ t := fun e => by rw [e] at hb; simp at hb
      obtain ⟨h1, h2⟩ := hold t u hu
      exact ⟨by simp only [Act.put]; rw [Array.getElem?_setIfInBounds_ne hne]; exact h1, h2⟩
theorem SlOK.agr {N : Nat} {ρ ρ' : Env} {a : Act} {s : S} {nx nx' : Nat} (h : SlOK N ρ a s nx) (ha : AgrLt nx ρ ρ') (hx : nx ≤ nx') : SlOK N ρ' a s nx' :=
  ⟨h.size, h.defers, fun t u hu => by obtain ⟨h1, h2⟩ := h.ok t u hu; exact ⟨by rw [h1, V.den_agr ha h2], V.wf_mono hx h2⟩⟩

abbrev K3 := S → List E → Nat → Prop
def op1 (P : Program) (T : List (Nat × TD)) (n0 N : Nat) (s : S) (L : List E) (nx : Nat) (o : Oper) (K : K3) : Prop :=
  bif dstB N o.dst then
    match o.op with
    | .store t x v => muStore T L t (ev s x) (ev s v) fun L' => putK s o.dst (.tup []) fun s' => K s' L' nx
    | .call ⟨.builtin .append, args, argTypes⟩ => (match args.toList, argTypes.toList with
      | [x, y], [t, t'] => muApp T L nx t t' (ev s x) (ev s y) fun v L' nx' => putK s o.dst v fun s' => K s' L' nx'
      | _, _ => False)
    | op => rd (CallK P n0) T L nx s op fun v new nx' => putK s o.dst v fun s' => appK new L fun L' => K s' L' nx'
  else False
def skip1 (N : Nat) (s : S) (L : List E) (nx : Nat) (o : Oper) (K : K3) : Prop :=
  bif dstB N o.dst then putK s o.dst (.tup []) fun s' => K s' L nx else False
/-- The slot of a guard. -/
def gslot (all : List Oper) (j : Nat) : Option Tmp :=
  match all[j]? with
  | some o => o.dst
  | none => none
def vcOps (P : Program) (T : List (Nat × TD)) (n0 N : Nat) (all : List Oper) (l : List Oper) (K : K3) (s : S) (L : List E) (nx : Nat) : Prop :=
  match l with
  | [] => K s L nx
  | o :: r =>
    match o.guard with
    | none => op1 P T n0 N s L nx o (vcOps P T n0 N all r K)
    | some (j, want) => match gslot all j with
      | none => False
      | some t => match look s t with
        | some (.a (.c .tt)) => bif want then op1 P T n0 N s L nx o (vcOps P T n0 N all r K) else skip1 N s L nx o (vcOps P T n0 N all r K)
        | some (.a (.c .ff)) => bif want then skip1 N s L nx o (vcOps P T n0 N all r K) else op1 P T n0 N s L nx o (vcOps P T n0 N all r K)
        | some (.a (.c (.bool p))) =>
          (p = want → op1 P T n0 N ((t, V.c (bif want then .tt else .ff)) :: s) L nx o (vcOps P T n0 N all r K)) ∧ (p = !want → skip1 N ((t, V.c (bif want then .ff else .tt)) :: s) L nx o (vcOps P T n0 N all r K))
        | some (.tup _) => skip1 N s L nx o (vcOps P T n0 N all r K)
        | _ => False
/-- What holds behind. -/
def Fin (n0 N na : Nat) (ρ : Env) (w : World) (a' : Act) (w' : World) (K : K3) : Prop :=
  ∃ ρ' s' L' nx', na ≤ nx' ∧ AgrLt na ρ ρ' ∧ SlOK N ρ' a' s' nx' ∧ Hp n0 ρ' w' L' nx' ∧ Below n0 w w' ∧ K s' L' nx'
theorem Fin.trans {n0 N na : Nat} {ρ ρ' : Env} {w w' w2 : World} {a2 : Act} {K : K3} (ha : AgrLt na ρ ρ') (hb : Below n0 w w') (h : Fin n0 N na ρ' w' a2 w2 K) : Fin n0 N na ρ w a2 w2 K := by
  obtain ⟨ρ2, s2, L2, nx2, h1, h2, h3, h4, h5, h6⟩ := h
  exact ⟨ρ2, s2, L2, nx2, h1, ha.trans h2 (Nat.le_refl _), h3, h4, hb.trans h5, h6⟩
theorem AgrLt.mono {n m : Nat} {ρ ρ' : Env} (h : AgrLt m ρ ρ') (hl : n ≤ m) : AgrLt n ρ ρ' := fun l hh => h l (by omega)
theorem below_n0 {n0 : Nat} {w w' : World} (h : Below w.heap.size w w') (h0 : n0 ≤ w.heap.size) : Below n0 w w' := h.mono h0
section
variable {P : Program} {T : List (Nat × TD)} {w : World} {n0 N na : Nat} {ρ : Env} {L : List E} {nx : Nat} {a : Act} {Q : Exit → Act → World → Prop} {next : Act → World → Prop}
theorem op1_ok (hT : TOK P T) (hna : na ≤ nx) {s : S} {o : Oper} {K : K3} (hs : SlOK N ρ a s nx) (hp : Hp n0 ρ w L nx) (h : op1 P T n0 N s L nx o K) (hn : ∀ a' w', Fin n0 N na ρ w a' w' K → next a' w') : o.wp P a w next Q := by
  unfold op1 at h
  cases hd : dstB N o.dst with
  | false => rw [hd] at h; exact h.elim
  | true =>
    rw [hd] at h
    simp only [cond_true] at h
    split at h
    · rename_i t x v hop
      obtain ⟨u, u', w', L', hu, hu', hK, hp', hb, hr⟩ := muStore_ok hT hp (fun u hu => (hs.ev v u hu).2) h
      rw [putK_eq] at hK
      have e1 := (hs.ev x u hu).1
      have e2 := (hs.ev v u' hu').1
      have hex : (execOp a.eval o).run P w = .ok .skip w' := by
        obtain ⟨dst, op, ty, pos, after, guard⟩ := o
        simp only at hop
        subst hop
        simp only [execOp, e1, e2, Sem.run_bind, hr, Result.andThen, Sem.run_pure]
      unfold Oper.wp
      rw [hex]
      exact hn _ _ ⟨ρ, _, L', nx, hna, AgrLt.refl _ _, hs.put (AgrLt.refl _ _) (Nat.le_refl _) hd (v := .tup []) (by simp [V.wf]), hp', hb, hK⟩
    · rename_i args argTypes hop
      split at h
      · rename_i x y t t' hx ht
        obtain ⟨u, u', v, L', nx', ρ', w', hu, hu', hK, h1, h2, h3, h4, h5, hr⟩ := muApp_ok (ty := o.type) hT hp (fun u hu => (hs.ev x u hu).2) h
        rw [putK_eq] at hK
        have e1 := (hs.ev x u hu).1
        have e2 := (hs.ev y u' hu').1
        have ha : args = #[x, y] := by apply Array.ext'; exact hx
        have ht' : argTypes = #[t, t'] := by apply Array.ext'; exact ht
        subst ha ht'
        have hex : (execOp a.eval o).run P w = .ok (.value (v.den ρ')) w' := by
          obtain ⟨dst, op, ty, pos, after, guard⟩ := o
          simp only at hop
          subst hop
          simp only [execOp, resolve, Sem.run_bind, Sem.run_pure, Result.andThen, invoke, builtin, List.map_toArray, List.map_cons, List.map_nil, e1, e2, hr]
        refine wp_value hex (hn _ _ ⟨ρ', _, L', nx', Nat.le_trans hna h1, h3.mono hna, hs.put h3 h1 hd h2, h5, h4, hK⟩)
      · exact h.elim
    · refine rd_ok (n0 := n0) (L := L) (nx := nx) (ρ := ρ) hT (fun _ _ _ hh => hh) hp (fun x _ v hv => hs.ev x v hv) h ?_
      intro v new nx' ρ' w' hK h1 h2 h3 h4 h5
      rw [putK_eq, appK_eq] at hK
      exact hn _ _ ⟨ρ', _, _, nx', Nat.le_trans hna h1, h3.lt.mono hna, hs.put h3.lt h1 hd h2, hp.news' h5 h4 h3 h1, below_n0 h4 hp.base, hK⟩
theorem skip1_ok (hna : na ≤ nx) {s : S} {o : Oper} {K : K3} (hs : SlOK N ρ a s nx) (hp : Hp n0 ρ w L nx) (h : skip1 N s L nx o K) : Fin n0 N na ρ w (a.put o.dst undef) w K := by
  unfold skip1 at h
  cases hd : dstB N o.dst with
  | false => rw [hd] at h; exact h.elim
  | true =>
    rw [hd, cond_true, putK_eq] at h
    exact ⟨ρ, _, L, nx, hna, AgrLt.refl _ _, hs.put (AgrLt.refl _ _) (Nat.le_refl _) hd (v := .tup []) (by simp [V.wf]), hp, Below.refl _ _, h⟩
def vb (v : Value) : Option Bool := match v with | .bool b => some b | _ => none
theorem yielded_slot {all : List Oper} {j t : Nat} (h : gslot all j = some t) {v : Value} (hv : a.tmps[t]? = some v) : yielded all.toArray a.tmps j = vb v := by
  unfold gslot at h
  split at h
  · rename_i o ho
    simp only [yielded, List.getElem?_toArray, ho, Option.bind_some, h, hv]
    cases v <;> rfl
  · cases h
theorem SlOK.lit {s : S} {t : Nat} {p q : Bool} (hs : SlOK N ρ a s nx) (hl : look s t = some (.a (.c (.bool p)))) (c : C) (hc : c.den ρ = .bool p) (hw : c.wf nx) : SlOK N ρ a ((t, V.c c) :: s) nx := by
  refine ⟨hs.size, hs.defers, fun t' v hv => ?_⟩
  simp only [look] at hv
  cases hb : Nat.beq t t' with
  | true =>
    rw [hb] at hv
    cases hv
    have := Nat.eq_of_beq_eq_true hb
    subst this
    obtain ⟨h1, h2⟩ := hs.ok t _ hl
    refine ⟨by rw [h1]; simp only [V.den, A.den, hc]; rfl, hw⟩
  | false => rw [hb] at hv; exact hs.ok t' v hv
theorem vcOps_ok (hT : TOK P T) {all : List Oper} : ∀ {l : List Oper} {K : K3} {s : S} {L : List E} {nx : Nat} {ρ : Env} {a : Act} {w : World}, na ≤ nx → SlOK N ρ a s nx → Hp n0 ρ w L nx → vcOps P T n0 N all l K s L nx →
    (∀ a' w', Fin n0 N na ρ w a' w' K → Q .normal a' w') → wpList P all.toArray Q l a w
  | [], K, s, L, nx, ρ, a, w, hna, hs, hp, h, hq => hq _ _ ⟨ρ, s, L, nx, hna, AgrLt.refl _ _, hs, hp, Below.refl _ _, h⟩
  | o :: r, K, s, L, nx, ρ, a, w, hna, hs, hp, h, hq => by
    have run : ∀ {s : S}, SlOK N ρ a s nx → op1 P T n0 N s L nx o (vcOps P T n0 N all r K) → Region.wanted o (yielded all.toArray a.tmps) = true → wpList P all.toArray Q (o :: r) a w := fun hs h hw => by
      unfold wpList
      rw [if_pos hw]
      refine .inl (op1_ok hT hna hs hp h fun a' w' hf => ?_)
      obtain ⟨ρ', s', L', nx', h1, h2, h3, h4, h5, h6⟩ := hf
      exact vcOps_ok hT h1 h3 h4 h6 fun a2 w2 hf2 => hq _ _ (Fin.trans h2 h5 hf2)
    have skip : ∀ {s : S}, SlOK N ρ a s nx → skip1 N s L nx o (vcOps P T n0 N all r K) → Region.wanted o (yielded all.toArray a.tmps) = false → wpList P all.toArray Q (o :: r) a w := fun hs h hw => by
      unfold wpList
      rw [if_neg (by rw [hw]; simp)]
      obtain ⟨ρ', s', L', nx', h1, h2, h3, h4, h5, h6⟩ := skip1_ok hna hs hp h
      exact vcOps_ok hT h1 h3 h4 h6 fun a2 w2 hf2 => hq _ _ (Fin.trans h2 h5 hf2)
    unfold vcOps at h
    split at h
    · rename_i hg
      exact run hs h (by simp [Region.wanted, hg])
    · rename_i j want hg
      split at h
      · exact h.elim
      · rename_i t ht
        have hwant : ∀ v : Value, a.tmps[t]? = some v → Region.wanted o (yielded all.toArray a.tmps) = (vb v == some want) := fun v hv => by
          simp only [Region.wanted, hg, yielded_slot ht hv]
        split at h
        · rename_i hl
          have hv := hwant _ (hs.ok t _ hl).1
          simp only [V.den, A.den, C.den] at hv
          cases want
          · exact skip hs h (by rw [hv]; rfl)
          · exact run hs h (by rw [hv]; rfl)
        · rename_i hl
          have hv := hwant _ (hs.ok t _ hl).1
          simp only [V.den, A.den, C.den] at hv
          cases want
          · exact run hs h (by rw [hv]; rfl)
          · exact skip hs h (by rw [hv]; rfl)
        · rename_i p hl
          have hv := hwant _ (hs.ok t _ hl).1
          simp only [V.den, A.den, C.den] at hv
          by_cases hpw : p = want
          · subst hpw
            exact run (hs.lit (q := true) hl _ (by cases p <;> rfl) (by cases p <;> trivial)) (h.1 rfl) (by rw [hv]; simp [vb])
          · have hpn : p = !want := by cases p <;> cases want <;> simp_all
            subst hpn
            exact skip (hs.lit (q := true) hl _ (by cases want <;> rfl) (by cases want <;> trivial)) (h.2 rfl) (by rw [hv]; cases want <;> rfl)
        · rename_i l hl
          have hv := hwant _ (hs.ok t _ hl).1
          simp only [V.den] at hv
          exact skip hs h (by rw [hv]; rfl)
        · exact h.elim
end
/-- A statement, from a symbol's state on. -/
abbrev Kt := Exit → S → List E → Nat → Prop
structure Tri (P : Program) (n0 N na : Nat) (code : Code) (K : Kt) (s : S) (L : List E) (nx : Nat) : Prop where
  run : ∀ ρ a w, na ≤ nx → SlOK N ρ a s nx → Hp n0 ρ w L nx → code.wp P (fun e a' w' => Fin n0 N na ρ w a' w' (K e)) a w
/-- What follows a region, behind a letter. -/
def Opq (K : K3) (F : K3 → Prop) : Prop := ∀ K' : K3, (∀ s L nx, K s L nx → K' s L nx) → F K'
def vc (P : Program) (T : List (Nat × TD)) (n0 N na : Nat) (code : Code) (K : Kt) (s : S) (L : List E) (nx : Nat) : Prop :=
  match code with
  | .skip => K .normal s L nx
  | .region id ops d => (match d with
    | true => Tri P n0 N na (.region id ops true) K s L nx
    | false => Opq (K .normal) fun K' => vcOps P T n0 N ops.toList ops.toList K' s L nx)
  | .seq x y => vc P T n0 N na x (fun e s L nx => match e with | .normal => vc P T n0 N na y K s L nx | e => K e s L nx) s L nx
  | .cond c x y => (match ev s c with
    | some (.a (.c .tt)) => vc P T n0 N na x K s L nx
    | some (.a (.c .ff)) => vc P T n0 N na y K s L nx
    | some (.a (.c (.bool p))) => (p = true → vc P T n0 N na x K s L nx) ∧ (p = false → vc P T n0 N na y K s L nx)
    | _ => False)
  | .block id c => vc P T n0 N na c (fun e s L nx => match e with | .exit id' => (bif Nat.beq id' id then K .normal s L nx else K (.exit id') s L nx) | e => K e s L nx) s L nx
  | .loop c => Tri P n0 N na (.loop c) K s L nx
  | .exit id => K (.exit id) s L nx
  | .scope c => vc P T n0 N na c (fun e s L nx => match e with | .goto _ => False | e => K e s L nx) s L nx
  | .label _ => K .normal s L nx
  | .ret => K .ret s L nx
  | c => Tri P n0 N na c K s L nx
section
variable {P : Program} {T : List (Nat × TD)} {n0 N na : Nat}
theorem Tri.mono {code : Code} {K K' : Kt} {s : S} {L : List E} {nx : Nat} (h : Tri P n0 N na code K s L nx) (hk : ∀ e s' L' nx', K e s' L' nx' → K' e s' L' nx') : Tri P n0 N na code K' s L nx :=
  ⟨fun ρ a w hna hs hp => wp_mono (h.run ρ a w hna hs hp) fun e a' w' ⟨ρ', s', L', nx', h1, h2, h3, h4, h5, h6⟩ => ⟨ρ', s', L', nx', h1, h2, h3, h4, h5, hk _ _ _ _ h6⟩⟩
theorem vc_ok (hT : TOK P T) : ∀ {code : Code} {K : Kt} {s : S} {L : List E} {nx : Nat}, vc P T n0 N na code K s L nx → Tri P n0 N na code K s L nx := by
  intro code
  have stay : ∀ {ρ : Env} {a : Act} {w : World} {K : K3} {s : S} {L : List E} {nx : Nat}, na ≤ nx → SlOK N ρ a s nx → Hp n0 ρ w L nx → K s L nx → Fin n0 N na ρ w a w K := fun hna hs hp h => ⟨_, _, _, _, hna, AgrLt.refl _ _, hs, hp, Below.refl _ _, h⟩
  induction code with
  | skip => intro K s L nx h; exact ⟨fun ρ a w hna hs hp => wp_skip (stay hna hs hp h)⟩
  | region id ops d =>
    intro K s L nx h
    cases d with
    | true => exact h
    | false =>
      refine ⟨fun ρ a w hna hs hp => wp_region_list ?_⟩
      have := vcOps_ok (Q := fun e a' w' => Fin n0 N na ρ w a' w' (K e)) hT hna hs hp (h (K .normal) fun _ _ _ h => h) (fun a' w' hf => hf)
      simpa using this
  | seq x y ihx ihy =>
    intro K s L nx h
    refine ⟨fun ρ a w hna hs hp => wp_seq (wp_mono ((ihx h).run ρ a w hna hs hp) ?_)⟩
    rintro e a' w' ⟨ρ', s', L', nx', h1, h2, h3, h4, h5, h6⟩
    cases e with
    | normal => exact wp_mono ((ihy h6).run ρ' a' w' h1 h3 h4) fun e a2 w2 hf => Fin.trans h2 h5 hf
    | _ => exact ⟨ρ', s', L', nx', h1, h2, h3, h4, h5, h6⟩
  | cond c x y ihx ihy =>
    intro K s L nx h
    refine ⟨fun ρ a w hna hs hp => ?_⟩
    simp only [vc] at h
    split at h
    · rename_i hc
      exact wp_cond_true (hs.ev c _ hc).1 ((ihx h).run ρ a w hna hs hp)
    · rename_i hc
      exact wp_cond_false (hs.ev c _ hc).1 ((ihy h).run ρ a w hna hs hp)
    · rename_i p hc
      refine wp_cond_split (hs.ev c _ hc).1 (fun hp' => (ihx (h.1 hp')).run ρ a w hna hs hp) (fun hp' => (ihy (h.2 hp')).run ρ a w hna hs hp)
    · exact h.elim
  | block id c ih =>
    intro K s L nx h
    refine ⟨fun ρ a w hna hs hp => wp_block (wp_mono ((ih h).run ρ a w hna hs hp) ?_)⟩
    rintro e a' w' ⟨ρ', s', L', nx', h1, h2, h3, h4, h5, h6⟩
    cases e with
    | exit id' =>
      simp only at h6
      simp only [Exit.inBlock]
      cases hb : Nat.beq id' id with
      | true =>
        rw [hb] at h6
        rw [if_pos (Nat.eq_of_beq_eq_true hb)]
        exact ⟨ρ', s', L', nx', h1, h2, h3, h4, h5, h6⟩
      | false =>
        rw [hb] at h6
        rw [if_neg (fun he => by rw [he] at hb; simp at hb)]
        exact ⟨ρ', s', L', nx', h1, h2, h3, h4, h5, h6⟩
    | _ => exact ⟨ρ', s', L', nx', h1, h2, h3, h4, h5, h6⟩
  | loop c _ => intro K s L nx h; exact h
  | exit id => intro K s L nx h; exact ⟨fun ρ a w hna hs hp => wp_exit (stay hna hs hp h)⟩
  | scope c ih =>
    intro K s L nx h
    refine ⟨fun ρ a w hna hs hp => wp_scope_straight (wp_mono ((ih h).run ρ a w hna hs hp) ?_)⟩
    rintro e a' w' ⟨ρ', s', L', nx', h1, h2, h3, h4, h5, h6⟩
    cases e with
    | goto l => exact h6.elim
    | _ => exact ⟨ρ', s', L', nx', h1, h2, h3, h4, h5, h6⟩
  | label l => intro K s L nx h; exact ⟨fun ρ a w hna hs hp => wp_label (stay hna hs hp h)⟩
  | ret => intro K s L nx h; exact ⟨fun ρ a w hna hs hp => wp_ret (stay hna hs hp h)⟩
  | rangeFunc => intro K s L nx h; exact h
  | goto => intro K s L nx h; exact h
  | refuse => intro K s L nx h; exact h
end
end Go.Proofs.Ytnafllhgjidbkaa
