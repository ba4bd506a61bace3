/- Regions that draw their order: heads in whatever order, then a tail. -/
import Derived.Test.YtnafllhgjidbkaaS8
namespace Go.Proofs.Ytnafllhgjidbkaa
open Go.RowKit
set_option linter.unusedVariables false
set_option linter.unusedSimpArgs false

def forceN (n : Nat) (K : Nat → Prop) : Prop :=
  match n with
  | 0 => K 0
  | k + 1 => K (k + 1)
theorem forceN_eq (n : Nat) (K : Nat → Prop) : forceN n K = K n := by cases n <;> rfl
/-- What operation i made: its labels and its entries. -/
structure Ne where
  i : Nat
  lo : Nat
  hi : Nat
  es : List E
/-- Whether a mask has a bit: as a machine reckons it. -/
def tb (m n : Nat) : Bool := Nat.beq (Nat.mod (Nat.div m (Nat.pow 2 n)) 2) 1
theorem tb_eq (m n : Nat) : tb m n = Nat.testBit m n := by
  rw [Nat.testBit_eq_decide_div_mod_eq, Bool.eq_iff_iff]
  simp only [tb, Nat.beq_eq, decide_eq_true_eq]
  exact Iff.rfl
def selN (m : Nat) (L0 : List E) : List Ne → List E
  | [] => L0
  | ⟨i, lo, hi, es⟩ :: r => bif tb m i then es ++ selN m L0 r else selN m L0 r
def flatN (L0 : List E) : List Ne → List E
  | [] => L0
  | ⟨i, lo, hi, es⟩ :: r => es ++ flatN L0 r
def inNews (m l : Nat) : List Ne → Bool
  | [] => false
  | ⟨i, lo, hi, es⟩ :: r => (tb m i && Nat.ble lo l && Nat.blt l hi) || inNews m l r
theorem inNews_spec {m l : Nat} : ∀ {news : List Ne}, inNews m l news = true → ∃ x ∈ news, Nat.testBit m x.i = true ∧ x.lo ≤ l ∧ l < x.hi
  | [], h => by cases h
  | ⟨i, lo, hi, es⟩ :: r, h => by
    simp only [inNews, Bool.or_eq_true, Bool.and_eq_true, tb_eq] at h
    rcases h with ⟨⟨h1, h2⟩, h3⟩ | h
    · exact ⟨⟨i, lo, hi, es⟩, by simp, h1, Nat.le_of_ble_eq_true h2, Nat.le_of_ble_eq_true h3⟩
    · obtain ⟨x, h1, h2⟩ := inNews_spec h; exact ⟨x, by simp [h1], h2⟩
def okLab (nx0 m nx nx' : Nat) (news : List Ne) (l : Nat) : Bool := Nat.blt l nx0 || (Nat.ble nx l && Nat.blt l nx') || inNews m l news
def C.chk (p : Nat → Bool) : C → Bool
  | .ptr l _ => p l
  | .sl l _ => p l
  | .fn _ caps => caps.all fun q => p q.1
  | _ => true
def A.chk (p : Nat → Bool) : A → Bool
  | .c x => x.chk p
  | .agg l => l.all (C.chk p)
def V.chk (p : Nat → Bool) : V → Bool
  | .a x => x.chk p
  | .tup l => l.all (A.chk p)
def C.labs (p : Nat → Prop) : C → Prop
  | .ptr l _ => p l
  | .sl l _ => p l
  | .fn _ caps => ∀ q ∈ caps, p q.1
  | _ => True
def A.labs (p : Nat → Prop) : A → Prop
  | .c x => x.labs p
  | .agg l => ∀ c ∈ l, c.labs p
def V.labs (p : Nat → Prop) : V → Prop
  | .a x => x.labs p
  | .tup l => ∀ c ∈ l, c.labs p
theorem C.labs_of_chk {p : Nat → Bool} {q : Nat → Prop} (h : ∀ l, p l = true → q l) {c : C} (hc : c.chk p = true) : c.labs q := by
  cases c <;> simp only [C.chk, C.labs] at *
  case ptr l o => exact h _ hc
  case sl l o => exact h _ hc
  case fn f caps => exact fun x hx => h _ (List.all_eq_true.1 hc x hx)
theorem A.labs_of_chk {p : Nat → Bool} {q : Nat → Prop} (h : ∀ l, p l = true → q l) {c : A} (hc : c.chk p = true) : c.labs q := by
  cases c with
  | c x => exact C.labs_of_chk h hc
  | agg l => exact fun x hx => C.labs_of_chk h (List.all_eq_true.1 hc x hx)
theorem V.labs_of_chk {p : Nat → Bool} {q : Nat → Prop} (h : ∀ l, p l = true → q l) {c : V} (hc : c.chk p = true) : c.labs q := by
  cases c with
  | a x => exact A.labs_of_chk h hc
  | tup l => exact fun x hx => A.labs_of_chk h (List.all_eq_true.1 hc x hx)
theorem C.labs_of_wf {n : Nat} {q : Nat → Prop} (h : ∀ l, l < n → q l) {c : C} (hc : c.wf n) : c.labs q := by
  cases c <;> simp only [C.wf, C.labs] at *
  case ptr l o => exact h _ hc
  case sl l o => exact h _ hc
  case fn f caps => exact fun x hx => h _ (hc x hx)
theorem A.labs_of_wf {n : Nat} {q : Nat → Prop} (h : ∀ l, l < n → q l) {c : A} (hc : c.wf n) : c.labs q := by
  cases c with
  | c x => exact C.labs_of_wf h hc
  | agg l => exact fun x hx => C.labs_of_wf h (hc x hx)
theorem V.labs_of_wf {n : Nat} {q : Nat → Prop} (h : ∀ l, l < n → q l) {c : V} (hc : c.wf n) : c.labs q := by
  cases c with
  | a x => exact A.labs_of_wf h hc
  | tup l => exact fun x hx => A.labs_of_wf h (hc x hx)
theorem C.den_labs {q : Nat → Prop} {ρ ρ' : Env} (h : ∀ l, q l → ρ' l = ρ l) {c : C} (hc : c.labs q) : c.den ρ' = c.den ρ := by
  cases c <;> simp only [C.den, ptrD, C.labs] at *
  case ptr l o => rw [h l hc]
  case sl l n => rw [h l hc]
  case fn f caps => congr 2; exact List.map_congr_left fun p hp => by simp only [ptrD]; rw [h p.1 (hc p hp)]
theorem A.den_labs {q : Nat → Prop} {ρ ρ' : Env} (h : ∀ l, q l → ρ' l = ρ l) {c : A} (hc : c.labs q) : c.den ρ' = c.den ρ := by
  cases c with
  | c x => exact C.den_labs h hc
  | agg l => simp only [A.den]; rw [List.map_congr_left fun c hm => C.den_labs h (hc c hm)]
theorem V.den_labs {q : Nat → Prop} {ρ ρ' : Env} (h : ∀ l, q l → ρ' l = ρ l) {c : V} (hc : c.labs q) : c.den ρ' = c.den ρ := by
  cases c with
  | a x => exact A.den_labs h hc
  | tup l => simp only [V.den]; rw [List.map_congr_left fun c hm => A.den_labs h (hc c hm)]

/-- Calls in a region that draws: what they leave is known. -/
def HD (P : Program) (n0 : Nat) : Hnd := fun g vs L nx K => ∃ v new nx', CallK P n0 g vs L nx (fun v' n' x' => v' = v ∧ n' = new ∧ x' = nx') ∧ K v new nx'
def maskOf (ms : List Nat) (o : Oper) : Nat := o.after.toList.foldl (fun m e => bif Region.binds .any e then m ||| 2 ^ e.on ||| ms.getD e.on 0 else m) 0
def fineK (nx0 m nx nx' : Nat) (news : List Ne) (v : V) (new : List E) (R : Prop) : Prop :=
  match Nat.ble nx nx' with
  | false => False
  | true => match Nat.beq nx nx0 with
    | true => R
    | false => (V.chk (okLab nx0 m nx nx' news) v = true ∧ (new.all fun e => e.cs.all (C.chk (okLab nx0 m nx nx' news))) = true) ∧ R
def consN (i nx nx' : Nat) (new : List E) (news : List Ne) (K : List Ne → Prop) : Prop :=
  match Nat.beq nx nx' with
  | true => K news
  | false => K (⟨i, nx, nx', new⟩ :: news)
abbrev K3' := S → List E → Nat → Prop
def drRun (P : Program) (T : List (Nat × TD)) (n0 : Nat) (L0 : List E) (nx0 : Nat) (i m : Nat) (news : List Ne) (o : Oper) (K : List Ne → S → Nat → Prop) (s : S) (nx : Nat) : Prop :=
  rd (HD P n0) T (selN m L0 news) nx s o.op fun v new nx' => fineK nx0 m nx nx' news v new <| putK s o.dst v fun s' => consN i nx nx' new news fun news' => K news' s' nx'
def dr (P : Program) (T : List (Nat × TD)) (n0 N : Nat) (all : List Oper) (L0 : List E) (nx0 : Nat) (l : List Oper) (K : List Ne → S → Nat → Prop) (i : Nat) (ms : List Nat) (news : List Ne) (s : S) (nx : Nat) : Prop :=
  match l with
  | [] => K news s nx
  | o :: r => bif dstB N o.dst then forceN (maskOf ms o) fun m =>
    (match o.guard with
    | none => drRun P T n0 L0 nx0 i m news o (fun news' s' nx' => dr P T n0 N all L0 nx0 r K (i + 1) (ms ++ [m]) news' s' nx') s nx
    | some (j, want) => match gslot all j with
      | none => False
      | some t => match look s t with
        | some (.a (.c .tt)) => bif want then drRun P T n0 L0 nx0 i m news o (fun news' s' nx' => dr P T n0 N all L0 nx0 r K (i + 1) (ms ++ [m]) news' s' nx') s nx else putK s o.dst (.tup []) fun s' => dr P T n0 N all L0 nx0 r K (i + 1) (ms ++ [m]) news s' nx
        | some (.a (.c .ff)) => bif want then putK s o.dst (.tup []) fun s' => dr P T n0 N all L0 nx0 r K (i + 1) (ms ++ [m]) news s' nx else drRun P T n0 L0 nx0 i m news o (fun news' s' nx' => dr P T n0 N all L0 nx0 r K (i + 1) (ms ++ [m]) news' s' nx') s nx
        | some (.a (.c (.bool p))) =>
          (p = want → drRun P T n0 L0 nx0 i m news o (fun news' s' nx' => dr P T n0 N all L0 nx0 r K (i + 1) (ms ++ [m]) news' s' nx') ((t, V.c (bif want then .tt else .ff)) :: s) nx) ∧
          (p = !want → putK ((t, V.c (bif want then .ff else .tt)) :: s) o.dst (.tup []) fun s' => dr P T n0 N all L0 nx0 r K (i + 1) (ms ++ [m]) news s' nx)
        | some (.tup _) => putK s o.dst (.tup []) fun s' => dr P T n0 N all L0 nx0 r K (i + 1) (ms ++ [m]) news s' nx
        | _ => False)
    else False
/-- What operation i yields. -/
structure Stp where
  v : V
  new : List E
  lo : Nat
  hi : Nat
  m : Nat
def Closed (all : List Oper) (D : Nat → Prop) : Prop := ∀ j oj, all[j]? = some oj → D j → ∀ e ∈ oj.after, Region.binds .any e = true → D e.on
def LookAt (all : List Oper) (s0 : S) (ds : List Stp) (i : Nat) (s : S) : Prop :=
  ∀ t v, look s t = some v → (∃ j st, j < i ∧ ds[j]? = some st ∧ gslot all j = some t ∧ (∀ ρ, v.den ρ = st.v.den ρ) ∧ ∀ n, st.v.wf n → v.wf n) ∨
    ((∀ j, j < i → gslot all j ≠ some t) ∧ ∃ v0, look s0 t = some v0 ∧ (∀ ρ, v.den ρ = v0.den ρ) ∧ ∀ n, v0.wf n → v.wf n)
/-- The label is one that operation i may know. -/
def LabP (ds : List Stp) (nx0 : Nat) (st : Stp) (l : Nat) : Prop := l < nx0 ∨ (st.lo ≤ l ∧ l < st.hi) ∨ ∃ k sk, ds[k]? = some sk ∧ Nat.testBit st.m k = true ∧ sk.lo ≤ l ∧ l < sk.hi
structure PStep (P : Program) (n0 N : Nat) (all : List Oper) (L0 : List E) (s0 : S) (nx0 : Nat) (ds : List Stp) (i : Nat) (st : Stp) : Prop where
  oper : ∃ o, all[i]? = some o ∧ dstB N o.dst = true ∧
    (∀ D, Closed all D → (∀ e ∈ o.after, Region.binds .any e = true → D e.on) → ∀ k, Nat.testBit st.m k = true → D k) ∧
    ∃ si Ai, LookAt all s0 ds i si ∧ (∀ e ∈ Ai, e ∈ L0 ∨ ∃ j sj, j < i ∧ ds[j]? = some sj ∧ Nat.testBit st.m j = true ∧ e ∈ sj.new) ∧
      ∀ ρ a w, (∀ t, t ∈ o.looksAt all.toArray → ∀ v, look si t = some v → a.tmps[t]? = some (v.den ρ) ∧ v.wf st.lo) → Hp n0 ρ w Ai st.lo →
        ∀ (next : Act → World → Prop) (Q : Exit → Act → World → Prop), (∀ ρ' w', st.v.wf st.hi → Agr st.lo st.hi ρ ρ' → Below w.heap.size w w' → News n0 Ai ρ ρ' w w' st.lo st.hi st.new → next (a.put o.dst (st.v.den ρ')) w') →
          wpOp P all.toArray Q i next a w
  le : st.lo ≤ st.hi
  lo : nx0 ≤ st.lo
  disj : ∀ j sj, j < i → ds[j]? = some sj → sj.hi ≤ st.lo
  fine : st.lo = nx0 ∨ (V.labs (LabP ds nx0 st) st.v ∧ ∀ e ∈ st.new, ∀ c ∈ e.cs, c.labs (LabP ds nx0 st))
theorem LookAt.app {all : List Oper} {s0 : S} {ds : List Stp} {i : Nat} {s : S} (h : LookAt all s0 ds i s) (r : List Stp) : LookAt all s0 (ds ++ r) i s := by
  intro t v hv
  rcases h t v hv with ⟨j, st, h1, h2, h3⟩ | h1
  · exact .inl ⟨j, st, h1, by rw [List.getElem?_append_left (List.getElem?_eq_some_iff.1 h2).1]; exact h2, h3⟩
  · exact .inr h1
theorem getElem?_app {α : Type} {ds r : List α} {j : Nat} {x : α} (h : ds[j]? = some x) : (ds ++ r)[j]? = some x := by
  rw [List.getElem?_append_left (List.getElem?_eq_some_iff.1 h).1]; exact h
theorem LabP.app {ds : List Stp} {nx0 : Nat} {st : Stp} {l : Nat} (r : List Stp) (h : LabP ds nx0 st l) : LabP (ds ++ r) nx0 st l := by
  rcases h with h | h | ⟨k, sk, h1, h2⟩
  · exact .inl h
  · exact .inr (.inl h)
  · exact .inr (.inr ⟨k, sk, getElem?_app h1, h2⟩)
theorem V.labs_mono {p q : Nat → Prop} (h : ∀ l, p l → q l) {v : V} (hv : v.labs p) : v.labs q := by
  have hc : ∀ c : C, c.labs p → c.labs q := by
    intro c hc
    cases c <;> simp only [C.labs] at *
    case ptr l o => exact h _ hc
    case sl l o => exact h _ hc
    case fn f caps => exact fun x hx => h _ (hc x hx)
  have ha : ∀ c : A, c.labs p → c.labs q := by
    intro c h1
    cases c with
    | c x => exact hc x h1
    | agg l => exact fun x hx => hc x (h1 x hx)
  cases v with
  | a x => exact ha x hv
  | tup l => exact fun x hx => ha x (hv x hx)
theorem C.labs_mono {p q : Nat → Prop} (h : ∀ l, p l → q l) {c : C} (hc : c.labs p) : c.labs q := V.labs_mono h (v := V.c c) hc
theorem PStep.app {P : Program} {n0 N : Nat} {all : List Oper} {L0 : List E} {s0 : S} {nx0 : Nat} {ds : List Stp} {i : Nat} {st : Stp} (hi : i < ds.length) (h : PStep P n0 N all L0 s0 nx0 ds i st) (r : List Stp) : PStep P n0 N all L0 s0 nx0 (ds ++ r) i st := by
  obtain ⟨⟨o, h1, h2, h3, si, Ai, h4, h5, h6⟩, hle, hlo, hd, hf⟩ := h
  refine ⟨⟨o, h1, h2, h3, si, Ai, h4.app r, fun e he => ?_, h6⟩, hle, hlo, fun j sj hj hs => hd j sj hj (by rwa [List.getElem?_append_left (by omega)] at hs), ?_⟩
  · rcases h5 e he with h5 | ⟨j, sj, q1, q2, q3⟩
    · exact .inl h5
    · exact .inr ⟨j, sj, q1, getElem?_app q2, q3⟩
  · rcases hf with hf | ⟨f1, f2⟩
    · exact .inl hf
    · exact .inr ⟨V.labs_mono (fun l hl => hl.app r) f1, fun e he c hc => C.labs_mono (fun l hl => hl.app r) (f2 e he c hc)⟩
/-- A mask bit names an operation that went before. -/
theorem maskOf_spec {all : List Oper} {ms : List Nat} {o : Oper} (D : Nat → Prop) (hms : ∀ j m, ms[j]? = some m → D j → ∀ k, Nat.testBit m k = true → D k)
    (ho : ∀ e ∈ o.after, Region.binds .any e = true → D e.on) : ∀ k, Nat.testBit (maskOf ms o) k = true → D k := by
  have key : ∀ (l : List Edge) (m0 : Nat), (∀ k, Nat.testBit m0 k = true → D k) → (∀ e ∈ l, Region.binds .any e = true → D e.on) →
      ∀ k, Nat.testBit (l.foldl (fun m e => bif Region.binds .any e then m ||| 2 ^ e.on ||| ms.getD e.on 0 else m) m0) k = true → D k := by
    intro l
    induction l with
    | nil => intro m0 h0 _ k hk; exact h0 k hk
    | cons e r ih =>
      intro m0 h0 hl k hk
      simp only [List.foldl_cons] at hk
      refine ih _ ?_ (fun e' he' => hl e' (by simp [he'])) k hk
      intro k' hk'
      cases hb : Region.binds .any e with
      | false => rw [hb] at hk'; exact h0 k' hk'
      | true =>
        rw [hb] at hk'
        simp only [cond_true, Nat.testBit_or, Bool.or_eq_true] at hk'
        have hon := hl e (by simp) hb
        rcases hk' with (hk' | hk') | hk'
        · exact h0 k' hk'
        · rw [Nat.testBit_two_pow] at hk'
          have : e.on = k' := by simpa using hk'
          rw [← this]; exact hon
        · rw [List.getD_eq_getElem?_getD] at hk'
          cases hm : ms[e.on]? with
          | none => rw [hm] at hk'; simp at hk'
          | some m => rw [hm] at hk'; exact hms _ _ hm hon k' hk'
  intro k hk
  exact key o.after.toList 0 (by simp) (fun e he => ho e (by simpa using he)) k hk
end Go.Proofs.Ytnafllhgjidbkaa
