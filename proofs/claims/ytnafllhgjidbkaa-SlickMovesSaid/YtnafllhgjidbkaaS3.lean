/- What an operation that turns no memory asks and yields (2). -/
import Derived.Test.YtnafllhgjidbkaaS2
namespace Go.Proofs.Ytnafllhgjidbkaa
open Go.RowKit
set_option linter.unusedVariables false
set_option linter.unusedSimpArgs false

def takeC (cs : List C) (o : Nat) : Nat → Option (List C)
  | 0 => some []
  | n + 1 => match cs[o]? with
    | some c => (match takeC cs (o + 1) n with | some l => some (c :: l) | none => none)
    | none => none
theorem takeC_ok {cs : List C} : ∀ {n o : Nat} {l : List C}, takeC cs o n = some l → l.length = n ∧ ∀ i, i < n → cs[o + i]? = l[i]?
  | 0, o, l, h => by cases h; simp
  | n + 1, o, l, h => by
    simp only [takeC] at h
    cases hc : cs[o]? with
    | none => rw [hc] at h; cases h
    | some c =>
      rw [hc] at h
      simp only at h
      cases ht : takeC cs (o + 1) n with
      | none => rw [ht] at h; cases h
      | some r =>
        rw [ht] at h
        cases h
        obtain ⟨h1, h2⟩ := takeC_ok ht
        refine ⟨by simp [h1], fun i hi => ?_⟩
        cases i with
        | zero => simpa using hc
        | succ i => have := h2 i (by omega); rw [show o + (i + 1) = o + 1 + i by omega, this]; simp
theorem takeC_mem {cs l : List C} {o n : Nat} (h : takeC cs o n = some l) : ∀ c ∈ l, c ∈ cs := by
  obtain ⟨h1, h2⟩ := takeC_ok h
  intro c hc
  obtain ⟨i, hi, rfl⟩ := List.mem_iff_getElem.1 hc
  have := h2 i (by omega)
  rw [List.getElem?_eq_getElem hi] at this
  exact List.mem_of_getElem? this
theorem takeC_of {cs : List C} : ∀ {n o : Nat} {l : List C}, l.length = n → (∀ i, i < n → cs[o + i]? = l[i]?) → takeC cs o n = some l
  | 0, o, l, h, _ => by simp only [takeC]; rw [List.length_eq_zero_iff.1 h]
  | n + 1, o, [], h, _ => by simp at h
  | n + 1, o, c :: l, h, h2 => by
    have h0 := h2 0 (by omega)
    simp only [Nat.add_zero, List.getElem?_cons_zero] at h0
    simp only [takeC, h0]
    rw [takeC_of (l := l) (by simpa using h) (fun i hi => by have := h2 (i + 1) (by omega); rw [show o + (i + 1) = o + 1 + i by omega] at this; simpa using this)]
def mulS (n z : Nat) : Nat :=
  match z with
  | 1 => n
  | _ => n * z
theorem mulS_eq (n z : Nat) : mulS n z = n * z := by unfold mulS; split <;> simp
def addO (o j : Nat) : Nat :=
  match o with
  | 0 => j
  | k + 1 => match j with
    | 0 => k + 1
    | m + 1 => (k + 1) + (m + 1)
theorem addO_eq (o j : Nat) : addO o j = o + j := by unfold addO; split <;> (try split) <;> simp
theorem add_addr (a : Addr) (i j : Nat) : (a.add i).add j = a.add (i + j) := by
  unfold Addr.add
  by_cases hi : i = 0 <;> by_cases hj : j = 0 <;> simp [hi, hj, Nat.add_assoc]
theorem none_add (b o i : Nat) : (⟨b, o, none⟩ : Addr).add i = ⟨b, o + i, none⟩ := by unfold Addr.add; split <;> simp_all

def rdLoad (L : List E) (d : TD) (x : Option V) (K : V → Prop) : Prop :=
  match x with
  | some (.a (.c (.ptr l o))) => onV (find L l) fun e =>
    match d.kd.agg with
    | false => ∃ c, e.cs[o]? = some c ∧ K (V.c c)
    | true => ∃ cs, takeC e.cs o d.size = some cs ∧ (bif Nat.blt 0 d.size then K (V.agg cs) else False)
  | _ => False
def rdIdxA (T : List (Nat × TD)) (L : List E) (t : Nat) (x i : Option V) (K : V → Prop) : Prop :=
  onV (lookT T t) fun d =>
  match i with
  | some (.a (.c (.int _ n))) =>
    (match x, d.kd with
    | some (.a (.c (.sl l len))), .sl e => onV (lookT T e) fun de => onV (find L l) fun en => (0 ≤ n ∧ n < len ∧ 0 < en.cs.length) ∧ K (V.c (.ptr l (mulS n.toNat de.size)))
    | some (.a (.c (.ptr l o))), .arr m e => onV (lookT T e) fun de => onV (find L l) fun en => (0 ≤ n ∧ n < m ∧ 0 < en.cs.length) ∧ K (V.c (.ptr l (addO o (mulS n.toNat de.size))))
    | _, _ => False)
  | _ => False
def rdFldA (T : List (Nat × TD)) (L : List E) (t : Nat) (x : Option V) (f : Nat) (K : V → Prop) : Prop :=
  onV (lookT T t) fun d =>
  match x, d.kd with
  | some (.a (.c (.ptr l o))), .str fs => onV (find L l) fun en => onV (fs[f]?) fun p => onV (lookT T p.2) fun fd =>
    (match fd.size with
    | 0 => False
    | _ + 1 => 0 < en.cs.length ∧ K (V.c (.ptr l (addO o p.1))))
  | _, _ => False
def rdPart (T : List (Nat × TD)) (ft : Nat) (l : List C) (off : Nat) (K : V → Prop) : Prop :=
  onV (lookT T ft) fun fd =>
  match fd.kd.agg with
  | false => ∃ c, l[off]? = some c ∧ K (V.c c)
  | true => ∃ cs, takeC l off fd.size = some cs ∧ K (V.agg cs)
def rdFld (T : List (Nat × TD)) (t : Nat) (x : Option V) (f : Nat) (K : V → Prop) : Prop :=
  onV (lookT T t) fun d =>
  match x, d.kd with
  | some (.a (.agg l)), .str fs => onV (fs[f]?) fun p => rdPart T p.2 l p.1 K
  | _, _ => False
def rdIdx (T : List (Nat × TD)) (t : Nat) (x i : Option V) (K : V → Prop) : Prop :=
  onV (lookT T t) fun d =>
  match i with
  | some (.a (.c (.int _ n))) =>
    (match x, d.kd with
    | some (.a (.agg l)), .arr m e => onV (lookT T e) fun de => (0 ≤ n ∧ n < m) ∧ rdPart T e l (mulS n.toNat de.size) K
    | _, _ => False)
  | _ => False
def rdUn (op : UnOp) (x : Option V) (K : V → Prop) : Prop :=
  match op, x with
  | .not, some (.a (.c .tt)) => K (V.c .ff)
  | .not, some (.a (.c .ff)) => K (V.c .tt)
  | .not, some (.a (.c (.bool b))) => K (V.c (.bool (!b)))
  | .neg, some (.a (.c (.int k n))) => inK k (-n) ∧ K (V.c (.int k (-n)))
  | _, _ => False
def rdConv (T : List (Nat × TD)) (src dst : Nat) (x : Option V) (K : V → Prop) : Prop :=
  onV (lookT T src) fun _ => onV (lookT T dst) fun d =>
  match d.kd, x with
  | .int k, some (.a (.c (.int k' n))) => inK k n ∧ K (V.c (.int k n))
  | _, _ => False
def capsOf : List V → Option (List (Nat × Nat))
  | [] => some []
  | .a (.c (.ptr l o)) :: r => (match capsOf r with | some m => some ((l, o) :: m) | none => none)
  | _ :: _ => none
theorem capsOf_ok (ρ : Env) {nx : Nat} : ∀ {l : List V} {m : List (Nat × Nat)}, capsOf l = some m → (∀ v ∈ l, v.wf nx) → l.map (V.den ρ) = m.map (ptrD ρ) ∧ ∀ p ∈ m, p.1 < nx
  | [], m, h, _ => by cases h; simp
  | .a (.c (.ptr l o)) :: r, m, h, hw => by
    simp only [capsOf] at h
    cases hr : capsOf r with
    | none => rw [hr] at h; cases h
    | some m' =>
      rw [hr] at h
      cases h
      obtain ⟨h1, h2⟩ := capsOf_ok ρ (nx := nx) hr (fun v hv => hw v (by simp [hv]))
      have h0 := hw (.a (.c (.ptr l o))) (by simp)
      refine ⟨by simp [h1, V.den, A.den, C.den, ptrD], ?_⟩
      intro p hp
      rcases List.mem_cons.1 hp with rfl | hp
      · exact h0
      · exact h2 p hp
  | .tup _ :: r, m, h, hw => by simp [capsOf] at h
  | .a (.agg _) :: r, m, h, hw => by simp [capsOf] at h
  | .a (.c .tt) :: r, m, h, hw => by simp [capsOf] at h
  | .a (.c .ff) :: r, m, h, hw => by simp [capsOf] at h
  | .a (.c .nil) :: r, m, h, hw => by simp [capsOf] at h
  | .a (.c (.int _ _)) :: r, m, h, hw => by simp [capsOf] at h
  | .a (.c (.bool _)) :: r, m, h, hw => by simp [capsOf] at h
  | .a (.c (.sl _ _)) :: r, m, h, hw => by simp [capsOf] at h
  | .a (.c (.fn _ _)) :: r, m, h, hw => by simp [capsOf] at h
  | .a (.c (.v _)) :: r, m, h, hw => by simp [capsOf] at h
def ptrV (p : Nat × Nat) : V := V.c (.ptr p.1 p.2)

section
variable {P : Program} {T : List (Nat × TD)} {w : World} {n0 : Nat} {ρ : Env} {L : List E} {nx : Nat}
theorem run_und {t : TypeId} {d : TypeDesc} (h : P.underlying t = some d) : (underlying t).run P w = .ok d w := by simp [underlying, h]
theorem run_size {t : TypeId} {d : TD} (h : TDOK P t d) : (sizeOf t).run P w = .ok d.size w := by
  obtain ⟨i, z, h1, h2, _⟩ := h
  simp [sizeOf, typeInfo, h1, h2]
theorem run_agg {t : TypeId} {d : TD} (h : TDOK P t d) : (isAgg t).run P w = .ok d.kd.agg w := by
  obtain ⟨u, h1, h2⟩ := h.isAgg
  unfold isAgg
  rw [Sem.run_bind, run_und h1, ← h2]
  cases u <;> rfl
theorem run_zero {t : TypeId} {d : TD} (h : TDOK P t d) : ∃ z, (zeroValue t).run P w = .ok z w ∧ (∀ ρ, z.cells = (d.zero.map (C.den ρ)).toArray) := by
  obtain ⟨i, z, h1, _, _, h2, h3, _⟩ := h
  exact ⟨z, by simp [zeroValue, typeInfo, h1, h2], h3⟩
theorem Hp.entry (hp : Hp n0 ρ w L nx) {l : Nat} {e : E} (h : find L l = some e) : EOK n0 ρ w e ∧ e.lab = l ∧ e ∈ L := ⟨hp.ok e (find_mem h).1, (find_mem h).2, (find_mem h).1⟩
theorem rdLoad_ok (hp : Hp n0 ρ w L nx) {t : TypeId} {d : TD} (hd : TDOK P t d) {x : Option V} {K : V → Prop} (h : rdLoad L d x K) : ∃ v u, x = some u ∧ K v ∧ v.wf nx ∧ (Instr.loadAt t (u.den ρ)).run P w = .ok (v.den ρ) w := by
  unfold rdLoad at h
  split at h
  · rename_i l o
    obtain ⟨e, he, h⟩ := onV_iff h
    obtain ⟨hok, hl, hm⟩ := hp.entry he
    split at h
    · rename_i hagg
      obtain ⟨c, hc, hK⟩ := h
      obtain ⟨b, off, e1, e2, e3⟩ := hok.read hc
      refine ⟨_, _, rfl, hK, (hp.wf e hm).2 c (List.mem_of_getElem? hc), ?_⟩
      simp only [V.den, A.den, C.den, ptrD, ← hl, e1, Option.map_some, Instr.loadAt, Instr.sureAddr, none_add, loadVar, Sem.run_bind, Sem.run_pure, Result.andThen, run_agg hd, hagg]
      simp [e3]; rfl
    · rename_i hagg
      obtain ⟨cs, hc, hq⟩ := h
      have hb : 0 < d.size ∧ K (V.agg cs) := by
        cases hb : Nat.blt 0 d.size with
        | false => rw [hb] at hq; exact hq.elim
        | true => rw [hb] at hq; exact ⟨Nat.le_of_ble_eq_true hb, hq⟩
      obtain ⟨h0, hK⟩ := hb
      obtain ⟨hlen, hcs⟩ := takeC_ok hc
      refine ⟨_, _, rfl, hK, fun c hc' => (hp.wf e hm).2 c (takeC_mem hc c hc'), ?_⟩
      obtain ⟨b, off, e1, _, _⟩ := hok.read (show e.cs[o]? = some cs[0] by rw [← List.getElem?_eq_getElem, ← hcs 0 h0]; rfl)
      have hcells : ∀ j v, (cs.map (C.den ρ))[j]? = some v → w.cell? ((⟨b, off + o, none⟩ : Addr).add j) = some v := by
        intro j v hv
        rw [List.getElem?_map] at hv
        obtain ⟨c, hc1, rfl⟩ := Option.map_eq_some_iff.1 hv
        have hj : j < d.size := by rw [← hlen]; exact (List.getElem?_eq_some_iff.1 hc1).1
        obtain ⟨b', off', f1, _, f3⟩ := hok.read ((hcs j hj).trans hc1)
        rw [e1] at f1
        cases f1
        rw [none_add, Nat.add_assoc]; exact f3
      have hl2 := run_loadCells_list (P := P) w ⟨b, off + o, none⟩ (cs.map (C.den ρ)) hcells
      rw [List.length_map, hlen] at hl2
      simp only [V.den, A.den, C.den, ptrD, ← hl, e1, Option.map_some, Instr.loadAt, Instr.sureAddr, none_add, loadVar, Sem.run_bind, Sem.run_pure, Result.andThen, run_agg hd, hagg, run_size hd, hl2, if_true]
  · exact h.elim
theorem EOK.addr {e : E} (h : EOK n0 ρ w e) (hc : 0 < e.cs.length) : ∃ b off, (ρ e.lab).1 = some ⟨b, off, none⟩ := by
  obtain ⟨b, off, h1, _⟩ := h.read (List.getElem?_eq_getElem hc)
  exact ⟨b, off, h1⟩
theorem rdIdxA_ok (hT : TOK P T) (hp : Hp n0 ρ w L nx) {t : TypeId} {x i : Option V} {K : V → Prop} (h : rdIdxA T L t x i K) : ∃ v u j, x = some u ∧ i = some j ∧ K v ∧ (u.wf nx → v.wf nx) ∧ (Instr.indexAt t (u.den ρ) (j.den ρ)).run P w = .ok (v.den ρ) w := by
  obtain ⟨d, hd, hh⟩ := onV_iff h
  clear h
  have hd' := lookT_ok hT hd
  split at hh
  · rename_i kd n
    split at hh
    · rename_i l len e hk
      obtain ⟨de, hde, h⟩ := onV_iff hh
      obtain ⟨en, hen, ⟨h0, h1, h2⟩, hK⟩ := onV_iff h
      obtain ⟨hok, hl, hm⟩ := hp.entry hen
      obtain ⟨b, off, ha⟩ := hok.addr h2
      rw [hl] at ha
      obtain ⟨i, z, _, _, _, _, _, _, _, hkd⟩ := hd'
      rw [hk] at hkd
      refine ⟨_, _, _, rfl, rfl, hK, fun hw => hw, ?_⟩
      have h3 : 0 ≤ n ∧ n < (len : Int) := ⟨h0, h1⟩
      simp only [V.den, A.den, C.den, ptrD, ha, Option.map_some, Instr.indexAt, asIntOf, Sem.run_bind, Sem.run_pure, Result.andThen, run_und hkd, h3, if_true, run_size (lookT_ok hT hde), mulS_eq, and_self, Sem.run_ite, true_and]
    · rename_i l o m e hk
      obtain ⟨de, hde, h⟩ := onV_iff hh
      obtain ⟨en, hen, ⟨h0, h1, h2⟩, hK⟩ := onV_iff h
      obtain ⟨hok, hl, hm⟩ := hp.entry hen
      obtain ⟨b, off, ha⟩ := hok.addr h2
      rw [hl] at ha
      obtain ⟨i, z, _, _, _, _, _, _, _, hkd⟩ := hd'
      rw [hk] at hkd
      refine ⟨_, _, _, rfl, rfl, hK, fun hw => hw, ?_⟩
      have h3 : 0 ≤ n ∧ n < (m : Int) := ⟨h0, h1⟩
      simp only [V.den, A.den, C.den, ptrD, ha, Option.map_some, Instr.indexAt, Instr.sureAddr, asIntOf, Sem.run_bind, Sem.run_pure, Result.andThen, run_und hkd, h3, if_true, run_size (lookT_ok hT hde), mulS_eq, addO_eq, and_self, Sem.run_ite, true_and, add_addr]
    · exact hh.elim
  · exact hh.elim
theorem rdFldA_ok (hT : TOK P T) (hp : Hp n0 ρ w L nx) {t : TypeId} {x : Option V} {f : Nat} {K : V → Prop} (h : rdFldA T L t x f K) : ∃ v u, x = some u ∧ K v ∧ (u.wf nx → v.wf nx) ∧ (Instr.fieldAt t (u.den ρ) f).run P w = .ok (v.den ρ) w := by
  obtain ⟨d, hd, hh⟩ := onV_iff h
  clear h
  have hd' := lookT_ok hT hd
  split at hh
  · rename_i l o fs hk
    obtain ⟨en, hen, h1⟩ := onV_iff hh
    obtain ⟨p, hpf, h2⟩ := onV_iff h1
    obtain ⟨fd, hfd, h3⟩ := onV_iff h2
    clear hh h1 h2
    split at h3
    · exact h3.elim
    · rename_i m hm
      obtain ⟨hc, hK⟩ := h3
      obtain ⟨hok, hl, hmem⟩ := hp.entry hen
      obtain ⟨b, off, ha⟩ := hok.addr hc
      rw [hl] at ha
      obtain ⟨i, z, _, _, _, _, _, _, _, hkd⟩ := hd'
      rw [hk] at hkd
      obtain ⟨F, hF, hFs⟩ := hkd
      refine ⟨_, _, rfl, hK, fun hw => hw, ?_⟩
      have hff : ∃ g, F[f]? = some g ∧ g.offset = p.1 ∧ g.type = p.2 := by
        rw [← hFs] at hpf
        simp only [List.getElem?_map, Array.getElem?_toList] at hpf
        obtain ⟨g, hg, hgp⟩ := Option.map_eq_some_iff.1 hpf
        exact ⟨g, hg, by rw [← hgp], by rw [← hgp]⟩
      obtain ⟨g, hg, hg1, hg2⟩ := hff
      have hsz : (sizeOf g.type).run P w = .ok (m + 1) w := by rw [hg2, run_size (lookT_ok hT hfd), hm]
      have h0 : m + 1 ≠ 0 := by omega
      simp only [V.den, A.den, C.den, ptrD, ha, Option.map_some, Instr.fieldAt, Instr.sureAddr, fieldPlace, Sem.run_bind, Sem.run_pure, Result.andThen, run_und hF, hg, hsz, h0, if_false, hg1, addO_eq, add_addr]
  · exact hh.elim
theorem rdPart_ok (hT : TOK P T) {ft : Nat} {l : List C} {off : Nat} {K : V → Prop} (hw : ∀ c ∈ l, c.wf nx) (h : rdPart T ft l off K) : ∃ v, K v ∧ v.wf nx ∧ (part ft (l.map (C.den ρ)).toArray off).run P w = .ok (v.den ρ) w := by
  obtain ⟨d, hd, hh⟩ := onV_iff h
  clear h
  have hd' := lookT_ok hT hd
  split at hh
  · rename_i hagg
    obtain ⟨c, hc, hK⟩ := hh
    refine ⟨_, hK, hw c (List.mem_of_getElem? hc), ?_⟩
    simp [part, run_agg hd', hagg, hc]
    rfl
  · rename_i hagg
    obtain ⟨cs, hc, hK⟩ := hh
    obtain ⟨h1, h2⟩ := takeC_ok hc
    refine ⟨_, hK, fun c hcm => hw c (takeC_mem hc c hcm), ?_⟩
    simp only [part, Sem.run_bind, Result.andThen, run_agg hd', hagg, if_true, run_size hd', Sem.run_pure, V.den, A.den]
    congr 2
    apply Array.ext'
    apply List.ext_getElem?
    intro i
    by_cases hi : i < d.size
    · have := h2 i hi
      simp [hi, List.getElem?_take, List.getElem?_drop, this]
    · have : cs.length ≤ i := by omega
      simp [hi, List.getElem?_take, this]
theorem rdFld_ok (hT : TOK P T) {t : TypeId} {x : Option V} {f : Nat} {K : V → Prop} (hw : ∀ u, x = some u → u.wf nx) (h : rdFld T t x f K) : ∃ v u, x = some u ∧ K v ∧ v.wf nx ∧ (Instr.field t (u.den ρ) f).run P w = .ok (v.den ρ) w := by
  obtain ⟨d, hd, hh⟩ := onV_iff h
  clear h
  have hd' := lookT_ok hT hd
  split at hh
  · rename_i l fs hk
    obtain ⟨p, hpf, h1⟩ := onV_iff hh
    obtain ⟨v, hK, hv, hr⟩ := rdPart_ok (ρ := ρ) (w := w) hT (hw _ rfl) h1
    obtain ⟨i, z, _, _, _, _, _, _, _, hkd⟩ := hd'
    rw [hk] at hkd
    obtain ⟨F, hF, hFs⟩ := hkd
    have hff : ∃ g, F[f]? = some g ∧ g.offset = p.1 ∧ g.type = p.2 := by
      rw [← hFs] at hpf
      simp only [List.getElem?_map, Array.getElem?_toList] at hpf
      obtain ⟨g, hg, hgp⟩ := Option.map_eq_some_iff.1 hpf
      exact ⟨g, hg, by rw [← hgp], by rw [← hgp]⟩
    obtain ⟨g, hg, hg1, hg2⟩ := hff
    refine ⟨v, _, rfl, hK, hv, ?_⟩
    simp only [V.den, A.den, Instr.field, Sem.run_bind, Result.andThen, run_und hF, hg, asAgg, Sem.run_pure, hg1, hg2]
    exact hr
  · exact hh.elim
theorem rdIdx_ok (hT : TOK P T) {t : TypeId} {x i : Option V} {K : V → Prop} (hw : ∀ u, x = some u → u.wf nx) (h : rdIdx T t x i K) : ∃ v u j, x = some u ∧ i = some j ∧ K v ∧ v.wf nx ∧ (Instr.index t (u.den ρ) (j.den ρ)).run P w = .ok (v.den ρ) w := by
  obtain ⟨d, hd, hh⟩ := onV_iff h
  clear h
  have hd' := lookT_ok hT hd
  split at hh
  · rename_i kd n
    split at hh
    · rename_i l m e hk
      obtain ⟨de, hde, ⟨h0, h1⟩, h2⟩ := onV_iff hh
      obtain ⟨v, hK, hv, hr⟩ := rdPart_ok (ρ := ρ) (w := w) hT (hw _ rfl) h2
      obtain ⟨i, z, _, _, _, _, _, _, _, hkd⟩ := hd'
      rw [hk] at hkd
      have h3 : 0 ≤ n ∧ n < (m : Int) := ⟨h0, h1⟩
      rw [mulS_eq] at hr
      refine ⟨v, _, _, rfl, rfl, hK, hv, ?_⟩
      simp only [V.den, A.den, C.den, Instr.index, asIntOf, Sem.run_bind, Sem.run_pure, Result.andThen, run_und hkd, h3, and_self, if_true, run_size (lookT_ok hT hde), Sem.run_ite]
      exact hr
    · exact hh.elim
  · exact hh.elim
theorem rdUn_ok {op : UnOp} {x : Option V} {K : V → Prop} (h : rdUn op x K) : ∃ v u, x = some u ∧ K v ∧ v.wf nx ∧ (Op.unary op (u.den ρ)).run P w = .ok (v.den ρ) w := by
  unfold rdUn at h
  split at h
  · exact ⟨_, _, rfl, h, trivial, by simp [Op.unary, V.den, A.den, C.den]⟩
  · exact ⟨_, _, rfl, h, trivial, by simp [Op.unary, V.den, A.den, C.den]⟩
  · exact ⟨_, _, rfl, h, trivial, by simp [Op.unary, V.den, A.den, C.den]⟩
  · exact ⟨_, _, rfl, h.2, trivial, by simp [Op.unary, Op.intArith, V.den, A.den, C.den, inK_wrap h.1]⟩
  · exact h.elim
theorem rdConv_ok (hT : TOK P T) {src dst : TypeId} {x : Option V} {K : V → Prop} (h : rdConv T src dst x K) : ∃ v u, x = some u ∧ K v ∧ v.wf nx ∧ (convert src dst (u.den ρ)).run P w = .ok (v.den ρ) w := by
  obtain ⟨ds, hds, h1⟩ := onV_iff h
  obtain ⟨d, hd, hh⟩ := onV_iff h1
  clear h h1
  obtain ⟨us, hus, _⟩ := (lookT_ok hT hds).isAgg
  obtain ⟨i, z, _, _, _, _, _, _, _, hkd⟩ := lookT_ok hT hd
  split at hh
  · rename_i k k' n hk
    rw [hk] at hkd
    obtain ⟨h1, hK⟩ := hh
    refine ⟨_, _, rfl, hK, trivial, ?_⟩
    simp [convert, run_und hus, run_und hkd, V.den, A.den, C.den, Conv.intToInt, inK_wrap h1]
  · exact hh.elim
theorem equalIn_bool {t : TypeId} (h : P.underlying t = some .bool) (d : Nat) (p q : Bool) : (Op.equalIn (d + 1) t (.bool p) (.bool q)).run P w = .ok (p == q) w := by
  unfold Op.equalIn
  simp [run_und h]
theorem equal_bool {t : TypeId} (h : P.underlying t = some .bool) (p q : Bool) : (Op.equal t (.bool p) (.bool q)).run P w = .ok (p == q) w := by
  unfold Op.equal
  have e : Op.maxDepth = 9999 + 1 := rfl
  rw [e]
  exact equalIn_bool h 9999 p q
theorem rdBin_ok (hT : TOK P T) {op : BinOp} {t : TypeId} {x y : Option V} {K : C → Prop} (h : rdBin T t op x y K) : ∃ c u v, x = some u ∧ y = some v ∧ K c ∧ (∀ n, c.wf n) ∧ (binOp op t (u.den ρ) (v.den ρ)).run P w = .ok (c.den ρ) w ∧ (∀ s s', (eqGuard op t s s' (u.den ρ) (v.den ρ)).run P w = .ok () w) := by
  unfold rdBin at h
  split at h
  · obtain ⟨c, h1, h2, h3⟩ := binI_ok (P := P) (w := w) t h ρ
    refine ⟨c, _, _, rfl, rfl, h1, h2, h3, fun s s' => ?_⟩
    simp only [V.den, A.den, C.den, eqGuard]
    split <;> rfl
  · rename_i a b _
    obtain ⟨p, hp, h1⟩ := onV_iff h
    obtain ⟨q, hq, h2⟩ := onV_iff h1
    obtain ⟨d, hd, h3⟩ := onV_iff h2
    clear h h1 h2
    have e1 := C.toB_den hp ρ
    have e2 := C.toB_den hq ρ
    obtain ⟨i, z, _, _, _, _, _, _, _, hkd⟩ := lookT_ok hT hd
    split at h3
    · rename_i hk
      rw [hk] at hkd
      refine ⟨_, _, _, rfl, rfl, h3, fun _ => trivial, ?_, fun s s' => ?_⟩
      · simp only [V.den, A.den, e1, e2, binOp, Sem.run_bind, equal_bool hkd, Result.andThen, Sem.run_pure]; rfl
      · simp only [V.den, A.den, e1, e2, eqGuard]
        rfl
    · rename_i hk
      rw [hk] at hkd
      refine ⟨_, _, _, rfl, rfl, h3, fun _ => trivial, ?_, fun s s' => ?_⟩
      · simp only [V.den, A.den, e1, e2, binOp, Sem.run_bind, equal_bool hkd, Result.andThen, Sem.run_pure]; rfl
      · simp only [V.den, A.den, e1, e2, eqGuard]
        rfl
    · exact h3.elim
  · exact h.elim
end
end Go.Proofs.Ytnafllhgjidbkaa
