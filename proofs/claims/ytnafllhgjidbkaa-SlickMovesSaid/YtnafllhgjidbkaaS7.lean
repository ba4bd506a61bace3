/- Operations that turn memory of the call's own: a store, an append. -/
import Derived.Test.YtnafllhgjidbkaaS6
namespace Go.Proofs.Ytnafllhgjidbkaa
open Go.RowKit
set_option linter.unusedVariables false
set_option linter.unusedSimpArgs false

def updL (L : List E) (l o : Nat) (vs : List C) : List E :=
  match L with
  | [] => []
  | e :: r => (bif Nat.beq e.lab l then ⟨e.lab, e.kd, setL e.cs o vs⟩ else e) :: updL r l o vs
def rmL (L : List E) (l : Nat) : List E :=
  match L with
  | [] => []
  | e :: r => bif Nat.beq e.lab l then rmL r l else e :: rmL r l
def updK (l o : Nat) (vs : List C) (L : List E) (K : List E → Prop) : Prop :=
  match L with
  | [] => K []
  | ⟨lab, kd, cs⟩ :: r => match Nat.beq lab l with
    | true => updK l o vs r fun r' => K (⟨lab, kd, setL cs o vs⟩ :: r')
    | false => updK l o vs r fun r' => K (⟨lab, kd, cs⟩ :: r')
theorem updK_eq (l o : Nat) (vs : List C) : ∀ (L : List E) (K : List E → Prop), updK l o vs L K = K (updL L l o vs)
  | [], K => rfl
  | ⟨lab, kd, cs⟩ :: r, K => by
    simp only [updK, updL]
    cases Nat.beq lab l <;> simp only [updK_eq l o vs r, cond_true, cond_false]
def rmK (l : Nat) (L : List E) (K : List E → Prop) : Prop :=
  match L with
  | [] => K []
  | ⟨lab, kd, cs⟩ :: r => match Nat.beq lab l with
    | true => rmK l r K
    | false => rmK l r fun r' => K (⟨lab, kd, cs⟩ :: r')
theorem rmK_eq (l : Nat) : ∀ (L : List E) (K : List E → Prop), rmK l L K = K (rmL L l)
  | [], K => rfl
  | ⟨lab, kd, cs⟩ :: r, K => by
    simp only [rmK, rmL]
    cases Nat.beq lab l <;> simp only [rmK_eq l r, cond_true, cond_false]
theorem updL_mem {L : List E} {l o : Nat} {vs : List C} {x : E} (h : x ∈ updL L l o vs) : ∃ e ∈ L, (e.lab = l ∧ x = ⟨e.lab, e.kd, setL e.cs o vs⟩) ∨ (e.lab ≠ l ∧ x = e) := by
  induction L with
  | nil => simp [updL] at h
  | cons e r ih =>
    simp only [updL, List.mem_cons] at h
    rcases h with h | h
    · refine ⟨e, by simp, ?_⟩
      cases hb : Nat.beq e.lab l with
      | true => rw [hb] at h; exact .inl ⟨Nat.eq_of_beq_eq_true hb, h⟩
      | false => rw [hb] at h; exact .inr ⟨fun he => by rw [he] at hb; simp at hb, h⟩
    · obtain ⟨e', h1, h2⟩ := ih h; exact ⟨e', by simp [h1], h2⟩
theorem rmL_mem {L : List E} {l : Nat} {x : E} (h : x ∈ rmL L l) : x ∈ L ∧ x.lab ≠ l := by
  induction L with
  | nil => simp [rmL] at h
  | cons e r ih =>
    simp only [rmL] at h
    cases hb : Nat.beq e.lab l with
    | true => rw [hb] at h; have := ih h; exact ⟨by simp [this.1], this.2⟩
    | false =>
      rw [hb] at h
      simp only [cond_false, List.mem_cons] at h
      rcases h with rfl | h
      · exact ⟨by simp, fun he => by rw [he] at hb; simp at hb⟩
      · have := ih h; exact ⟨by simp [this.1], this.2⟩
section
variable {P : Program} {T : List (Nat × TD)} {w w' : World} {n0 : Nat} {ρ : Env} {L : List E} {nx : Nat} {a : Act} {next : Act → World → Prop} {Q : Exit → Act → World → Prop}
theorem EOK.kept {e : E} {row : Option Nat} (h : EOK n0 ρ w e) (hg : w.grownBy w' row) (hne : (e.kd.isRo = true → e.cs ≠ []) → ∀ b, blk ρ e.lab = some b → some b ≠ row) : EOK n0 ρ w' e := by
  obtain ⟨lab, kd, cs⟩ := e
  cases kd with
  | ro z =>
    refine ⟨fun hc => ?_, h.2⟩
    obtain ⟨b, off, e1, e2, e3⟩ := h.1 hc
    have hb : w'.heap[b]? = w.heap[b]? := hg.block b e2 (hne (fun _ hn => hc (by simp only at hn; simp [hn])) b (by simp [blk, e1]))
    exact ⟨b, off, e1, Nat.lt_of_lt_of_le e2 hg.size, fun i hi => (World.cell?_of_block (a := ⟨b, off + i, none⟩) hb).trans (e3 i hi)⟩
  | own t =>
    obtain ⟨b, e1, e2, e3⟩ := h
    exact ⟨b, e1, e2, (hg.block b (Array.getElem?_eq_some_iff.1 e3).1 (hne (fun hr => by cases hr) b (by simp [blk, e1]))).trans e3⟩
  | vec t z =>
    obtain ⟨n, hw⟩ := h
    refine ⟨n, hw.kept hg ?_⟩
    simp only
    cases ha : (ρ lab).1 with
    | none => left; simp [Value.ownBlock]
    | some x => right; simp only [Value.ownBlock]; exact hne (fun hr => by cases hr) x.block (by simp [blk, ha])
theorem grown_trans {w1 w2 w3 : World} {row : Option Nat} (h : w1.grownBy w2 row) (h' : w2.grownBy w3 row) : w1.grownBy w3 row :=
  ⟨h'.os.trans h.os, h'.tape.trans h.tape, h'.output.trans h.output, Nat.le_trans h.size h'.size, fun k hk hr => (h'.block k (Nat.lt_of_lt_of_le hk h.size) hr).trans (h.block k hk hr)⟩
theorem heap_set {b i : Nat} {c : Array Value} {t : TypeId} {f : Nat × Nat} (h : w.heap[b]? = some (.cells c t f)) (v : Value) : (w.setCell ⟨b, i, none⟩ v).heap[b]? = some (.cells (c.setIfInBounds i v) t f) := by
  simp [World.setCell, Array.getElem?_modify, h]
theorem store_one {e : E} (h : EOK n0 ρ w e) (hk : e.kd.isRo = false) {j : Nat} (hj : j < e.cs.length) {c : C} (hc : c.wf nx) :
    ∃ b, (ρ e.lab).1 = some ⟨b, 0, none⟩ ∧ n0 ≤ b ∧ (store ⟨b, j, none⟩ (c.den ρ)).run P w = .ok () (w.setCell ⟨b, j, none⟩ (c.den ρ)) ∧ EOK n0 ρ (w.setCell ⟨b, j, none⟩ (c.den ρ)) ⟨e.lab, e.kd, e.cs.set j c⟩ ∧ w.grownBy (w.setCell ⟨b, j, none⟩ (c.den ρ)) (some b) := by
  obtain ⟨lab, kd, cs⟩ := e
  cases kd with
  | ro z => cases hk
  | own t =>
    obtain ⟨b, e1, e2, e3⟩ := h
    refine ⟨b, e1, e2, ?_, ⟨b, e1, e2, ?_⟩, ⟨rfl, rfl, rfl, by simp, fun k _ hne => Below.heap_setCell _ _ _ _ (fun he => hne (by rw [he]))⟩⟩
    · have hcell : w.cell? ⟨b, j, none⟩ = some ((cs[j]'hj).den ρ) := by
        rw [cell_of_row w b j _ t (0, 0) e3]; simp only at hj; simp [hj]
      rw [run_store P w _ _ _ (C.one hc ρ), hcell]
      simp [World.frozen?, e3]
    · rw [heap_set e3]; simp [List.map_set]
  | vec t z =>
    obtain ⟨n, hw⟩ := h
    simp only at hj hw
    have hl : j < n * z := by rw [← hw.1]; simpa using hj
    rcases hw.2 with ⟨h1, h2⟩ | ⟨g, cap, cur, h1, h2, h3, _⟩
    · subst h2; simp at hl
    · have hg : (ρ lab).1 = some ⟨g, 0, none⟩ := by injection h1
      have hw' := hw
      rw [hg] at hw'
      obtain ⟨s1, s2⟩ := hw'.stored j (c.den ρ)
      refine ⟨g, hg, h2, ?_, ⟨n, ?_⟩, s2⟩
      · have hcell : w.cell? ⟨g, j, none⟩ = some ((cs[j]'hj).den ρ) := by rw [hw'.cellAt j hl]; simp [hj]
        rw [run_store P w _ _ _ (C.one hc ρ), hcell]
        simp [hw'.frozenAt j]
      · simp only [List.map_set, hg]; exact s1
theorem store_many {b o : Nat} : ∀ {vs : List C} {i : Nat} {w : World} {e : E}, EOK n0 ρ w e → e.kd.isRo = false → (ρ e.lab).1 = some ⟨b, 0, none⟩ → o + i + vs.length ≤ e.cs.length → (∀ c ∈ vs, c.wf nx) →
    ∃ w', (storeCells ⟨b, o, none⟩ (vs.map (C.den ρ)) i).run P w = .ok () w' ∧ EOK n0 ρ w' ⟨e.lab, e.kd, setL e.cs (o + i) vs⟩ ∧ w.grownBy w' (some b)
  | [], i, w, e, h, _, _, _, _ => ⟨w, rfl, h, ⟨rfl, rfl, rfl, Nat.le_refl _, fun _ _ _ => rfl⟩⟩
  | c :: r, i, w, e, h, hk, hb, hl, hw => by
    obtain ⟨b', f1, f2, f3, f4, f5⟩ := store_one (P := P) h hk (j := o + i) (by simp at hl; omega) (hw c (by simp))
    rw [hb] at f1
    cases f1
    obtain ⟨w', g1, g2, g3⟩ := store_many (vs := r) (i := i + 1) (o := o) f4 hk hb (by simp at hl ⊢; omega) (fun x hx => hw x (by simp [hx]))
    refine ⟨w', ?_, g2, grown_trans f5 g3⟩
    simp only [List.map_cons, storeCells, Sem.run_bind, none_add, f3, Result.andThen, g1]

def muStore (T : List (Nat × TD)) (L : List E) (t : Nat) (x v : Option V) (K : List E → Prop) : Prop :=
  match x, v with
  | some (.a (.c (.ptr l o))), some (.a v) => onV (lookT T t) fun d => onV (find L l) fun e =>
    match e.kd with
    | .ro _ => False
    | _ => bif Nat.beq v.cells.length d.size && Nat.blt 0 d.size then o + d.size ≤ e.cs.length ∧ updK l o v.cells L K else False
  | _, _ => False
theorem Below.of_row {w w' : World} {b : Nat} (hg : w.grownBy w' (some b)) (hb : n0 ≤ b) (h0 : n0 ≤ w.heap.size) : Below n0 w w' :=
  ⟨hg.os, hg.tape, hg.output, hg.size, fun k hk => hg.block k (by omega) (fun e => by injection e with e; omega)⟩
theorem muStore_ok (hT : TOK P T) (hp : Hp n0 ρ w L nx) {t : TypeId} {x v : Option V} {K : List E → Prop} (hv : ∀ u, v = some u → u.wf nx) (h : muStore T L t x v K) :
    ∃ u u' w' L', x = some u ∧ v = some u' ∧ K L' ∧ Hp n0 ρ w' L' nx ∧ Below n0 w w' ∧ (Instr.storeAt t (u.den ρ) (u'.den ρ)).run P w = .ok () w' := by
  unfold muStore at h
  split at h
  · rename_i l o v
    obtain ⟨d, hd, h1⟩ := onV_iff h
    obtain ⟨e, he, h2⟩ := onV_iff h1
    clear h h1
    have hk : e.kd.isRo = false ∧ (v.cells.length = d.size ∧ 0 < d.size ∧ o + d.size ≤ e.cs.length) ∧ K (updL L l o v.cells) := by
      split at h2
      · exact h2.elim
      · rename_i hne
        have h3 : (v.cells.length = d.size ∧ 0 < d.size ∧ o + d.size ≤ e.cs.length) ∧ K (updL L l o v.cells) := by
          cases hb : (Nat.beq v.cells.length d.size && Nat.blt 0 d.size) with
          | false => rw [hb] at h2; exact h2.elim
          | true =>
            rw [hb] at h2
            simp only [Bool.and_eq_true] at hb
            exact ⟨⟨Nat.eq_of_beq_eq_true hb.1, Nat.le_of_ble_eq_true hb.2, h2.1⟩, by have h4 := h2.2; rw [updK_eq] at h4; exact h4⟩
        refine ⟨?_, h3⟩
        cases hkd : e.kd with
        | ro z => exact absurd hkd (hne z)
        | own t => rfl
        | vec t z => rfl
    clear h2
    obtain ⟨hro, ⟨h3, h3', h4⟩, hK⟩ := hk
    obtain ⟨hok, hl, hm⟩ := hp.entry he
    have hvw : (V.a v).wf nx := hv _ rfl
    have hcw := A.cells_wf (c := v) hvw
    obtain ⟨b, f1, f2, _⟩ := store_one (P := P) (c := .tt) (nx := nx) hok hro (j := o) (by omega) trivial
    obtain ⟨w', g1, g2, g3⟩ := store_many (P := P) (vs := v.cells) (i := 0) (o := o) hok hro f1 (by omega) hcw
    rw [hl] at f1
    refine ⟨_, _, w', _, rfl, rfl, hK, ?_, Below.of_row g3 f2 hp.base, ?_⟩
    · refine ⟨Nat.le_trans hp.base g3.size, ?_, ?_, ?_, ?_⟩
      · intro y hy
        obtain ⟨e', he', ⟨h5, rfl⟩ | ⟨h5, rfl⟩⟩ := updL_mem hy
        · have := hp.fn e hm e' he' (h5.trans hl.symm)
          subst this
          exact g2
        · refine (hp.ok y he').kept g3 (fun hcs b' hb' => ?_)
          intro heq
          cases heq
          exact hp.apart e hm y he' hro (by rw [hl]; exact h5) hcs b (by simp [blk, hl, f1]) hb'
      · intro y hy
        obtain ⟨e', he', ⟨h5, rfl⟩ | ⟨h5, rfl⟩⟩ := updL_mem hy
        · exact ⟨(hp.wf e' he').1, setL_mem _ _ _ (hp.wf e' he').2 hcw⟩
        · exact hp.wf y he'
      · intro y hy z hz hyz
        obtain ⟨e1, he1, ⟨h5, rfl⟩ | ⟨h5, rfl⟩⟩ := updL_mem hy <;> obtain ⟨e2, he2, ⟨h6, rfl⟩ | ⟨h6, rfl⟩⟩ := updL_mem hz
        · have := hp.fn e1 he1 e2 he2 (h6.trans h5.symm); rw [this]
        · exact absurd (hyz.trans h5) h6
        · exact absurd (hyz.symm.trans h6) h5
        · exact hp.fn y he1 z he2 hyz
      · intro y hy z hz hyr hne hcs b' hb' hb2
        obtain ⟨e1, he1, ⟨h5, rfl⟩ | ⟨h5, rfl⟩⟩ := updL_mem hy <;> obtain ⟨e2, he2, ⟨h6, rfl⟩ | ⟨h6, rfl⟩⟩ := updL_mem hz
        · exact hne (h6.trans h5.symm)
        · exact hp.apart e1 he1 z he2 hyr hne hcs b' hb' hb2
        · exact hp.apart y he1 e2 he2 hyr hne (fun hr h0 => hcs hr (by have hlen := setL_length v.cells e2.cs o; exact List.length_eq_zero_iff.1 (by rw [hlen, h0]; rfl))) b' hb' hb2
        · exact hp.apart y he1 z he2 hyr hne hcs b' hb' hb2
    · have hsz : (v.den ρ).cells.size = d.size := by rw [A.cells_den (c := v) hvw ρ]; simpa using h3
      have hx : V.den ρ (V.a (A.c (C.ptr l o))) = .pointer (some ⟨b, o, none⟩) := by simp [V.den, A.den, C.den, ptrD, f1, none_add]
      rw [hx]
      show (Instr.storeAt t _ (v.den ρ)).run P w = _
      simp only [Instr.storeAt, Instr.sureAddr, storeVar, Sem.run_bind, Sem.run_pure, Result.andThen, run_size (lookT_ok hT hd), hsz, ne_eq, not_true, if_false, A.cells_den (n := nx) (c := v) hvw ρ]
      have hsz' : (v.cells.map (C.den ρ)).toArray.size = d.size := by simpa using h3
      simp only [hsz', not_true, if_false]
      exact g1
  · exact h.elim

/-- append: onto nil or onto a row of the call's own. -/
def muApp (T : List (Nat × TD)) (L : List E) (nx : Nat) (t t' : Nat) (x y : Option V) (K : V → List E → Nat → Prop) : Prop :=
  onV (lookT T t) fun d =>
  match d.kd, x, y with
  | .sl e, some (.a (.c (.sl l n))), some (.a (.c (.sl l2 m))) => onV (lookT T e) fun de => onV (find L l) fun en => onV (find L l2) fun en2 =>
    (match en.kd with
    | .vec e' z => (t = t' ∧ e' = e ∧ z = de.size ∧ 0 < de.size ∧ en.cs.length = n * z ∧ m * z ≤ en2.cs.length ∧ n + m ≤ 1000000 ∧ de.bytes ≤ 1000000) ∧ rmK l L fun L' => K (V.c (.sl nx (n + m))) (⟨nx, .vec e z, en.cs ++ en2.cs.take (m * z)⟩ :: L') (nx + 1)
    | _ => False)
  | .sl e, some (.a (.c .nil)), some (.a (.c (.sl l2 m))) => onV (lookT T e) fun de => onV (find L l2) fun en2 =>
    (t = t' ∧ 0 < de.size ∧ m * de.size ≤ en2.cs.length ∧ m ≤ 1000000 ∧ de.bytes ≤ 1000000) ∧ K (V.c (.sl nx m)) (⟨nx, .vec e de.size, en2.cs.take (m * de.size)⟩ :: L) (nx + 1)
  | _, _, _ => False
theorem run_append_nilsrc {t e : TypeId} {size : Nat} (hu : P.underlying t = some (.slice e)) (hs : (sizeOf e).run P w = .ok size w) (ty : TypeId) (b : Option Addr) (n cap c : Nat) (h : n ≤ cap) :
    (Builtin.append_ #[t, t] ty #[.slice b n cap, .slice none 0 c]).run P w = .ok (.slice b n cap) w := by
  have h0 : ∀ x : TypeDesc, x = .slice e → (match x with | .int _ => true | _ => false) = false := by intro x hx; subst hx; rfl
  cases b <;> simp [Builtin.append_, run_und hu, hs, Builtin.lenOf, Builtin.firstCells, h, storeCells, Result.andThen]
/-- The row that is appended to, and what is appended. -/
theorem app_run (hT : TOK P T) (hp : Hp n0 ρ w L nx) {t e : TypeId} {de : TD} (hu : P.underlying t = some (.slice e)) (hde : lookT T e = some de) (h0 : 0 < de.size) {v : Value} {n : Nat} {xs : List C} (hxs : ∀ c ∈ xs, c.wf nx)
    (hown : w.ownsRow n0 e de.size v n (xs.map (C.den ρ))) {en2 : E} {m : Nat} (hm : en2 ∈ L) (hml : m * de.size ≤ en2.cs.length) (hnm : n + m ≤ 1000000) (hby : de.bytes ≤ 1000000) (ty : TypeId) (c : Nat) :
    ∃ ao cap w', (Builtin.append_ #[t, t] ty #[v, .slice (ρ en2.lab).1 m c]).run P w = .ok (.slice ao (n + m) cap) w' ∧ w'.ownsRow n0 e de.size (.slice ao (n + m) cap) (n + m) ((xs ++ en2.cs.take (m * de.size)).map (C.den ρ)) ∧
      w.grownBy w' v.ownBlock ∧ (∀ b, ao.map (·.block) = some b → v.ownBlock = some b ∨ b = w.heap.size) := by
  have hde' := lookT_ok hT hde
  obtain ⟨i, z, hi, hsz, hbz, hz, hzc, hzl, hzw, _⟩ := lookT_ok hT hde
  have hok := hp.ok en2 hm
  by_cases hm0 : 0 < m
  · have hlen : 0 < en2.cs.length := Nat.lt_of_lt_of_le (Nat.mul_pos hm0 h0) hml
    obtain ⟨b, off, ha⟩ := hok.addr hlen
    have hnews : ∀ j u, ((en2.cs.take (m * de.size)).map (C.den ρ))[j]? = some u → w.cell? ((⟨b, off, none⟩ : Addr).add j) = some u := by
      intro j u hj
      rw [List.getElem?_map] at hj
      obtain ⟨c', hc', rfl⟩ := Option.map_eq_some_iff.1 hj
      have hc2 : en2.cs[j]? = some c' := by
        rw [List.getElem?_take] at hc'
        split at hc'
        · exact hc'
        · cases hc'
      obtain ⟨b', off', f1, _, f3⟩ := hok.read hc2
      rw [ha] at f1; cases f1
      rw [none_add]; exact f3
    have h1 : ∀ u ∈ (en2.cs.take (m * de.size)).map (C.den ρ), u.oneCell' = true := by
      intro u hu'
      obtain ⟨c', hc', rfl⟩ := List.mem_map.1 hu'
      exact C.one ((hp.wf en2 hm).2 c' (List.mem_of_mem_take hc')) ρ
    obtain ⟨v', w', hr, h2, h3, _, h5⟩ := run_append_own_at (P := P) w n0 t ty e i z de.size de.bytes hu hi hz hsz hbz (by rw [hzc ρ]; simpa using hzl) h0 v n (xs.map (C.den ρ)) hown ⟨b, off, none⟩ m c ((en2.cs.take (m * de.size)).map (C.den ρ))
      (by simp; omega) hnews h1 (by unfold maxLen; omega) (by exact Nat.le_trans (Nat.mul_le_mul hnm hby) (by omega)) hp.base
    rw [← List.map_append] at h2
    rcases h2.2 with ⟨_, h6⟩ | ⟨g, cap, cur, hv', hg0, hg1, _⟩
    · omega
    · refine ⟨some ⟨g, 0, none⟩, cap, w', ?_, by rw [← hv']; exact h2, h3, ?_⟩
      · rw [ha, ← hv']; exact hr
      · intro b' hb'
        simp only [Option.map_some, Option.some.injEq] at hb'
        have hob : v'.ownBlock = some g := by rw [hv']; rfl
        rw [hob] at h5
        rcases h5 with h5 | h5
        · left; rw [← hb', h5]
        · right; rw [← hb']; exact Option.some.inj h5
  · have hm0' : m = 0 := by omega
    subst hm0'
    cases ha : (ρ en2.lab).1 with
    | none =>
      rcases hown.2 with ⟨hv, hn⟩ | ⟨g, cap, cur, hv, hg0, hg1, hnc, _⟩
      · subst hv hn
        have hx0 : xs = [] := by have := hown.1; simpa using this
        subst hx0
        exact ⟨none, 0, w, run_append_nilsrc hu (run_size hde') ty none 0 0 c (Nat.le_refl _), by simpa using World.ownsRow_nil w n0 e de.size, ⟨rfl, rfl, rfl, Nat.le_refl _, fun _ _ _ => rfl⟩, fun b hb => by cases hb⟩
      · subst hv
        refine ⟨_, cap, w, run_append_nilsrc hu (run_size hde') ty _ n cap c hnc, by simpa using hown, ⟨rfl, rfl, rfl, Nat.le_refl _, fun _ _ _ => rfl⟩, fun b hb => .inl (by simpa [Value.ownBlock] using hb)⟩
    | some ad =>
      obtain ⟨v', w', hr, h2, h3, _, h5⟩ := run_append_own_at (P := P) w n0 t ty e i z de.size de.bytes hu hi hz hsz hbz (by rw [hzc ρ]; simpa using hzl) h0 v n (xs.map (C.den ρ)) hown ad 0 c [] (by simp) (by simp) (by simp)
        (by unfold maxLen; omega) (by exact Nat.le_trans (Nat.mul_le_mul hnm hby) (by omega)) hp.base
      rcases h2.2 with ⟨hv', h6⟩ | ⟨g, cap, cur, hv', hg0, hg1, _⟩
      · refine ⟨none, 0, w', ?_, ?_, h3, fun b hb => by cases hb⟩
        · rw [hr, hv', h6]
        · rw [hv'] at h2; rw [h6] at h2 ⊢; simpa using h2
      · refine ⟨some ⟨g, 0, none⟩, cap, w', ?_, by rw [← hv']; simpa using h2, h3, ?_⟩
        · rw [← hv']; exact hr
        · intro b' hb'
          simp only [Option.map_some, Option.some.injEq] at hb'
          have hob : v'.ownBlock = some g := by rw [hv']; rfl
          rw [hob] at h5
          rcases h5 with h5 | h5
          · left; rw [← hb', h5]
          · right; rw [← hb']; exact Option.some.inj h5
theorem muApp_ok (hT : TOK P T) (hp : Hp n0 ρ w L nx) {t t' ty : TypeId} {x y : Option V} {K : V → List E → Nat → Prop} (hx : ∀ u, x = some u → u.wf nx) (h : muApp T L nx t t' x y K) :
    ∃ u u' v L' nx' ρ' w', x = some u ∧ y = some u' ∧ K v L' nx' ∧ nx ≤ nx' ∧ v.wf nx' ∧ AgrLt nx ρ ρ' ∧ Below n0 w w' ∧ Hp n0 ρ' w' L' nx' ∧ (Builtin.append_ #[t, t'] ty #[u.den ρ, u'.den ρ]).run P w = .ok (v.den ρ') w' := by
  obtain ⟨d, hd, h1⟩ := onV_iff h
  clear h
  obtain ⟨_, _, _, _, _, _, _, _, _, hkd⟩ := lookT_ok hT hd
  -- what is left, once the row is known
  have fin : ∀ {e : TypeId} {z : Nat} {cs : List C} {L0 : List E} {v : Value} {ao : Option Addr} {k cap : Nat} {w' : World}, (∀ e ∈ L0, e ∈ L) → (∀ e ∈ L0, (e.kd.isRo = true → e.cs ≠ []) → ∀ b, blk ρ e.lab = some b → some b ≠ v.ownBlock) →
      (∀ c ∈ cs, c.wf nx) → (∀ b, v.ownBlock = some b → n0 ≤ b) → w'.ownsRow n0 e z (.slice ao k cap) k (cs.map (C.den ρ)) → w.grownBy w' v.ownBlock → (∀ b, ao.map (·.block) = some b → v.ownBlock = some b ∨ b = w.heap.size) →
      Hp n0 (ρ.put nx ao cap) w' (⟨nx, .vec e z, cs⟩ :: L0) (nx + 1) ∧ Below n0 w w' := by
    intro e z cs L0 v ao k cap w' hL0 hap hcs hnb how hg hao
    have hagr := (Env.put_agr ρ nx ao cap).lt
    have hne : ∀ e ∈ L0, e.lab ≠ nx := fun e he => by have := (hp.wf e (hL0 e he)).1; omega
    have hblk : ∀ e ∈ L0, blk (ρ.put nx ao cap) e.lab = blk ρ e.lab := fun e he => by simp only [blk]; rw [hagr e.lab (hp.wf e (hL0 e he)).1]
    have hnew : blk (ρ.put nx ao cap) nx = ao.map (·.block) := by simp only [blk, Env.put_same]
    have hsame : (ρ.put nx ao cap) nx = (ao, cap) := Env.put_same ..
    have hold : ∀ e ∈ L0, EOK n0 (ρ.put nx ao cap) w' e := fun e he => by
      have h2 := (hp.ok e (hL0 e he)).kept hg (hap e he)
      have h3 := hp.wf e (hL0 e he)
      obtain ⟨lab, kd, c0⟩ := e
      cases kd <;> simp only [EOK] at h2 ⊢ <;> rw [hagr lab h3.1, cells_agr hagr h3.2] <;> exact h2
    refine ⟨⟨Nat.le_trans hp.base hg.size, ?_, ?_, ?_, ?_⟩, ⟨hg.os, hg.tape, hg.output, hg.size, fun b hb => hg.block b (by have := hp.base; omega) (fun he => by have := hnb b he.symm; omega)⟩⟩
    · intro y hy
      rcases List.mem_cons.1 hy with rfl | hy
      · refine ⟨k, ?_⟩
        rw [hsame, cells_agr hagr hcs]; exact how
      · exact hold y hy
    · intro y hy
      rcases List.mem_cons.1 hy with rfl | hy
      · exact ⟨Nat.lt_succ_self nx, fun c hc => C.wf_mono (by omega) (hcs c hc)⟩
      · have := hp.wf y (hL0 y hy); exact ⟨by omega, fun c hc => C.wf_mono (by omega) (this.2 c hc)⟩
    · intro y hy y' hy' hyy
      rcases List.mem_cons.1 hy with rfl | hy <;> rcases List.mem_cons.1 hy' with rfl | hy'
      · rfl
      · exact absurd hyy (hne y' hy')
      · exact absurd hyy.symm (hne y hy)
      · exact hp.fn y (hL0 y hy) y' (hL0 y' hy') hyy
    · intro y hy y' hy' hro hlab hcs' b hb hb'
      rcases List.mem_cons.1 hy with rfl | hy <;> rcases List.mem_cons.1 hy' with rfl | hy'
      · exact hlab rfl
      · rw [hnew] at hb
        rw [hblk y' hy'] at hb'
        rcases hao b hb with h5 | h5
        · exact hap y' hy' hcs' b hb' h5.symm
        · have := EOK.lt (hp.ok y' (hL0 y' hy')) hcs' hb'; omega
      · rw [hnew] at hb'
        rw [hblk y hy] at hb
        rcases hao b hb' with h5 | h5
        · exact hap y hy (fun hr => by rw [hr] at hro; cases hro) b hb h5.symm
        · have := EOK.lt (hp.ok y (hL0 y hy)) (fun hr => by rw [hr] at hro; cases hro) hb; omega
      · rw [hblk y hy] at hb
        rw [hblk y' hy'] at hb'
        exact hp.apart y (hL0 y hy) y' (hL0 y' hy') hro hlab hcs' b hb hb'
  split at h1
  · rename_i e l n l2 m hk
    obtain ⟨de, hde, h2⟩ := onV_iff h1
    obtain ⟨en, hen, h3⟩ := onV_iff h2
    obtain ⟨en2, hen2, h4⟩ := onV_iff h3
    clear h1 h2 h3
    rw [hk] at hkd
    split at h4
    · rename_i e' z hkv
      obtain ⟨⟨rfl, rfl, rfl, h0, hlen, hml, hnm, hby⟩, hK⟩ := h4
      rw [rmK_eq] at hK
      obtain ⟨hok, hl, hm⟩ := hp.entry hen
      obtain ⟨hok2, hl2, hm2⟩ := hp.entry hen2
      have hown : w.ownsRow n0 e' de.size (.slice (ρ l).1 n (ρ l).2) n (en.cs.map (C.den ρ)) := by
        obtain ⟨lab, kd, cs⟩ := en
        simp only at hkv hl hlen
        subst hkv
        subst hl
        obtain ⟨n', hw⟩ := hok
        have : n' = n := by
          have h5 := hw.1
          simp only [List.length_map, hlen] at h5
          exact (Nat.eq_of_mul_eq_mul_right h0 h5).symm
        rw [← this]; exact hw
      obtain ⟨ao, cap, w', hr, h5, h6, h7⟩ := app_run hT hp hkd hde h0 (hp.wf en hm).2 hown hm2 hml hnm hby ty (ρ l2).2
      rw [hl2] at hr
      have hwf2 : ∀ c ∈ en.cs ++ en2.cs.take (m * de.size), c.wf nx := by
        intro c hc
        rcases List.mem_append.1 hc with hc | hc
        · exact (hp.wf en hm).2 c hc
        · exact (hp.wf en2 hm2).2 c (List.mem_of_mem_take hc)
      have hob : (Value.slice (ρ l).1 n (ρ l).2).ownBlock = blk ρ l := by cases hq : (ρ l).1 <;> simp [Value.ownBlock, blk, hq]
      obtain ⟨g1, g2⟩ := fin (L0 := rmL L l) (fun e he => (rmL_mem he).1) (by
        intro y hy hcs b hb heq
        rw [hob] at heq
        obtain ⟨hy1, hy2⟩ := rmL_mem hy
        exact hp.apart en hm y hy1 (by rw [hkv]; rfl) (by rw [hl]; exact hy2) hcs b (by rw [hl]; exact heq.symm) hb) hwf2 (fun b hb => (hown.lt b hb).1) h5 h6 h7
      refine ⟨_, _, _, _, _, ρ.put nx ao cap, w', rfl, rfl, hK, by omega, Nat.lt_succ_self nx, (Env.put_agr ρ nx ao cap).lt, g2, g1, ?_⟩
      simp only [V.den, A.den, C.den, Env.put_same]
      exact hr
    · exact h4.elim
  · rename_i e l2 m hk
    obtain ⟨de, hde, h3⟩ := onV_iff h1
    obtain ⟨en2, hen2, ⟨rfl, h0, hml, hnm, hby⟩, hK⟩ := onV_iff h3
    clear h1 h3
    rw [hk] at hkd
    obtain ⟨hok2, hl2, hm2⟩ := hp.entry hen2
    obtain ⟨ao, cap, w', hr, h5, h6, h7⟩ := app_run hT hp hkd hde h0 (xs := []) (by simp) (World.ownsRow_nil w n0 e de.size) hm2 hml (by omega) hby ty (ρ l2).2
    rw [hl2] at hr
    simp only [Nat.zero_add, List.nil_append] at hr h5
    obtain ⟨g1, g2⟩ := fin (L0 := L) (fun e he => he) (by intro y hy hcs b hb heq; cases heq) (fun c hc => (hp.wf en2 hm2).2 c (List.mem_of_mem_take hc)) (fun b hb => by cases hb) h5 h6 h7
    refine ⟨_, _, _, _, _, ρ.put nx ao cap, w', rfl, rfl, hK, by omega, Nat.lt_succ_self nx, (Env.put_agr ρ nx ao cap).lt, g2, g1, ?_⟩
    simp only [V.den, A.den, C.den, Env.put_same]
    exact hr
  · exact h1.elim
end
end Go.Proofs.Ytnafllhgjidbkaa
