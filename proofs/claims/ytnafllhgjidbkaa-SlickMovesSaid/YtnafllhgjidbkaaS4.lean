/- What an operation that makes memory asks and yields; calls; one operation. -/
import Derived.Test.YtnafllhgjidbkaaS3
namespace Go.Proofs.Ytnafllhgjidbkaa
open Go.RowKit
set_option linter.unusedVariables false
set_option linter.unusedSimpArgs false

def setL (cs : List C) (o : Nat) : List C → List C
  | [] => cs
  | v :: r => setL (cs.set o v) (o + 1) r
theorem setL_length : ∀ (vs cs : List C) (o : Nat), (setL cs o vs).length = cs.length
  | [], cs, o => rfl
  | v :: r, cs, o => by simp only [setL]; rw [setL_length]; simp
theorem setL_mem {n : Nat} : ∀ (vs cs : List C) (o : Nat), (∀ c ∈ cs, c.wf n) → (∀ c ∈ vs, c.wf n) → ∀ c ∈ setL cs o vs, c.wf n
  | [], cs, o, h, _ => h
  | v :: r, cs, o, h, h2 => by
    simp only [setL]
    refine setL_mem r _ _ (fun c hc => ?_) (fun c hc => h2 c (by simp [hc]))
    rcases List.mem_or_eq_of_mem_set hc with hc | rfl
    · exact h c hc
    · exact h2 _ (by simp)
def fillC (place : Nat → Option (Nat × Nat)) (cs : List C) : List (Nat × A) → Option (List C)
  | [] => some cs
  | p :: r => match place p.1 with
    | none => none
    | some q => bif (Nat.beq p.2.cells.length q.2 && Nat.ble (q.1 + q.2) cs.length) then fillC place (setL cs q.1 p.2.cells) r else none
theorem fold_setL (ρ : Env) : ∀ (vs cs : List C) (o k : Nat), ((vs.map (C.den ρ)).zipIdx k).foldl (fun (a : Array Value) (p : Value × Nat) => a.setIfInBounds (o + p.2) p.1) (cs.map (C.den ρ)).toArray = ((setL cs (o + k) vs).map (C.den ρ)).toArray
  | [], cs, o, k => rfl
  | v :: r, cs, o, k => by
    simp only [List.map_cons, List.zipIdx_cons, List.foldl_cons, setL]
    have h : (List.map (C.den ρ) cs).toArray.setIfInBounds (o + k) (C.den ρ v) = (List.map (C.den ρ) (cs.set (o + k) v)).toArray := by simp [List.map_set]
    rw [h, fold_setL ρ r _ o (k + 1), Nat.add_assoc]
theorem fillC_ok {n : Nat} (ρ : Env) {place : Nat → Option (Nat × Nat)} : ∀ {ps : List (Nat × A)} {cs out : List C}, fillC place cs ps = some out → (∀ p ∈ ps, p.2.wf n) → (∀ c ∈ cs, c.wf n) →
    Instr.fill place (cs.map (C.den ρ)).toArray (ps.map fun p => (p.1, p.2.den ρ)) = some (out.map (C.den ρ)).toArray ∧ (∀ c ∈ out, c.wf n) ∧ out.length = cs.length
  | [], cs, out, h, _, hc => by cases h; exact ⟨rfl, hc, rfl⟩
  | (i, v) :: r, cs, out, h, hp, hc => by
    simp only [fillC] at h
    cases hpl : place i with
    | none => rw [hpl] at h; cases h
    | some q =>
      obtain ⟨off, size⟩ := q
      rw [hpl] at h
      simp only at h
      cases hb : (Nat.beq v.cells.length size && Nat.ble (off + size) cs.length) with
      | false => rw [hb] at h; cases h
      | true =>
        rw [hb] at h
        simp only [Bool.and_eq_true] at hb
        have h1 := Nat.eq_of_beq_eq_true hb.1
        have h2 := Nat.le_of_ble_eq_true hb.2
        have hv := hp (i, v) (by simp)
        have hcw := A.cells_wf hv
        have ih := fillC_ok ρ h (fun p hp' => hp p (by simp [hp'])) (setL_mem _ _ off hc hcw)
        refine ⟨?_, ih.2.1, ih.2.2.trans (setL_length _ _ _)⟩
        rw [← ih.1]
        simp only [List.map_cons, Instr.fill, hpl, A.cells_den hv ρ, List.size_toArray, List.length_map, h1]
        have h3 : ¬ (off + size > cs.length) := by omega
        have := fold_setL ρ v.cells cs off 0
        simp only [Nat.add_zero] at this
        simp [h3, ← this, Array.zipIdx, Array.foldl_toList]
        rw [show List.mapIdx (fun i a => (a, i)) (List.map (C.den ρ) v.cells) = (List.map (C.den ρ) v.cells).zipIdx from by apply List.ext_getElem?; intro i; simp [List.getElem?_mapIdx, List.getElem?_zipIdx]]
def placesOf (T : List (Nat × TD)) (fs : List (Nat × Nat)) : Option (List (Nat × Nat)) :=
  seqO (fs.map fun p => match lookT T p.2 with | some d => some (p.1, d.size) | none => none)
def partsOf (s : S) : List (Nat × Operand) → Option (List (Nat × A))
  | [] => some []
  | p :: r => match ev s p.2 with
    | some (.a v) => (match partsOf s r with | some l => some ((p.1, v) :: l) | none => none)
    | _ => none
def repC (n : Nat) (z : List C) : List C :=
  match z with
  | [c] => List.replicate n c
  | _ => (List.replicate n z).flatten
def rdBuild (T : List (Nat × TD)) (s : S) (t : Nat) (parts : List (Nat × Operand)) (K : V → Prop) : Prop :=
  onV (lookT T t) fun d => onV (partsOf s parts) fun ps =>
  match d.kd with
  | .str fs => onV (placesOf T fs) fun pl => onV (fillC (fun i => pl[i]?) d.zero ps) fun out => K (V.agg out)
  | .arr n e => onV (lookT T e) fun de => onV (fillC (fun i => some (i * de.size, de.size)) d.zero ps) fun out => K (V.agg out)
  | _ => False
def rdBuildS (T : List (Nat × TD)) (s : S) (nx : Nat) (t n : Nat) (parts : List (Nat × Operand)) (K : V → List E → Nat → Prop) : Prop :=
  onV (lookT T t) fun d => onV (partsOf s parts) fun ps =>
  match d.kd with
  | .sl e => onV (lookT T e) fun de => onV (fillC (fun i => some (i * de.size, de.size)) (repC n de.zero) ps) fun out => (n * de.size ≤ 1000000 ∧ 0 < de.size) ∧ K (V.c (.sl nx n)) [⟨nx, .vec e de.size, out⟩] (nx + 1)
  | _ => False
def rdMake (T : List (Nat × TD)) (nx : Nat) (t : Nat) (n m : Option V) (K : V → List E → Nat → Prop) : Prop :=
  onV (lookT T t) fun d =>
  match d.kd, n, m with
  | .sl e, some (.a (.c (.int .i64 n))), some (.a (.c (.int .i64 m))) => onV (lookT T e) fun de => (0 ≤ n ∧ m = n ∧ n ≤ 1000000 ∧ de.bytes ≤ 1000000 ∧ 0 < de.size) ∧ K (V.c (.sl nx n.toNat)) [⟨nx, .vec e de.size, repC n.toNat de.zero⟩] (nx + 1)
  | _, _, _ => False
section
variable {P : Program} {T : List (Nat × TD)} {w : World} {n0 : Nat} {ρ : Env} {L : List E} {nx : Nat}
theorem News.one {ρ' : Env} {w' : World} {e : E} (hok : EOK n0 ρ' w' e) (hl : e.lab = nx) (hw : ∀ c ∈ e.cs, c.wf (nx + 1)) (hp : ∀ b, blk ρ' nx = some b → w.heap.size ≤ b) : News n0 L ρ ρ' w w' nx (nx + 1) [e] := by
  refine ⟨?_, ?_, ?_, ?_, ?_⟩
  · intro x hx; rw [List.mem_singleton.1 hx]; exact hok
  · intro x hx; rw [List.mem_singleton.1 hx]; exact ⟨by omega, hw⟩
  · intro x hx y hy _; rw [List.mem_singleton.1 hx, List.mem_singleton.1 hy]
  · intro x hx y hy _ hne; rw [List.mem_singleton.1 hx, List.mem_singleton.1 hy] at hne; exact absurd rfl hne
  · intro x hx; rw [List.mem_singleton.1 hx]; exact .inl (fun b hb => hp b (by rw [← hl]; exact hb))
/-- A label more. -/
def Env.put (ρ : Env) (l : Nat) (a : Option Addr) (c : Nat) : Env := fun k => if k = l then (a, c) else ρ k
theorem Env.put_same (ρ : Env) (l : Nat) (a : Option Addr) (c : Nat) : (ρ.put l a c) l = (a, c) := by simp [Env.put]
theorem Env.put_agr (ρ : Env) (l : Nat) (a : Option Addr) (c : Nat) : Agr l (l + 1) ρ (ρ.put l a c) := fun k hk => by
  have : k ≠ l := by omega
  simp [Env.put, this]
theorem run_newRow (t : TypeId) (cs : Array Value) : (newRow t cs).run P w = .ok ⟨w.heap.size, 0, none⟩ (w.alloc (.cells cs t)) := by
  unfold newRow; rw [Sem.run_bind, run_newObj]; rfl
theorem own_new (t : TypeId) {cs : List C} (hcs : ∀ c ∈ cs, c.wf nx) (hb : n0 ≤ w.heap.size) : News n0 L ρ (ρ.put nx (some ⟨w.heap.size, 0, none⟩) 0) w (w.alloc (.cells (cs.map (C.den ρ)).toArray t)) nx (nx + 1) [⟨nx, .own t, cs⟩] := by
  refine News.one ?_ rfl (fun c hc => C.wf_mono (by omega) (hcs c hc)) ?_
  · refine ⟨w.heap.size, by simp only [Env.put_same], hb, ?_⟩
    rw [cells_agr (Env.put_agr ρ nx _ _).lt hcs]
    exact heap_alloc_new _ _
  · intro b hb'
    simp only [blk, Env.put_same, Option.map_some, Option.some.injEq] at hb'
    omega
theorem vec_new (t : TypeId) (z n : Nat) {cs : List C} (hcs : ∀ c ∈ cs, c.wf nx) (hb : n0 ≤ w.heap.size) {w' : World} (hw : w'.ownsRow n0 t z (.slice (some ⟨w.heap.size, 0, none⟩) n n) n (cs.map (C.den ρ))) :
    News n0 L ρ (ρ.put nx (some ⟨w.heap.size, 0, none⟩) n) w w' nx (nx + 1) [⟨nx, .vec t z, cs⟩] := by
  refine News.one ?_ rfl (fun c hc => C.wf_mono (by omega) (hcs c hc)) ?_
  · refine ⟨n, ?_⟩
    rw [cells_agr (Env.put_agr ρ nx _ _).lt hcs]
    simp only [Env.put_same]
    exact hw
  · intro b hb'
    simp only [blk, Env.put_same, Option.map_some, Option.some.injEq] at hb'
    omega
theorem Below.of_grown {w w' : World} (h : w.grownBy w' none) : Below w.heap.size w w' := ⟨h.os, h.tape, h.output, h.size, fun k hk => h.block k hk (by simp)⟩
theorem partsOf_ok {a : Act} {s : S} : ∀ {l : List (Nat × Operand)} {ps : List (Nat × A)}, (∀ p ∈ l, ∀ v, ev s p.2 = some v → a.eval p.2 = v.den ρ ∧ v.wf nx) → partsOf s l = some ps →
    l.map (fun p => (p.1, a.eval p.2)) = ps.map (fun p => (p.1, p.2.den ρ)) ∧ ∀ p ∈ ps, p.2.wf nx
  | [], ps, _, h => by cases h; simp
  | (i, x) :: r, ps, hev, h => by
    simp only [partsOf] at h
    cases hx : ev s x with
    | none => rw [hx] at h; cases h
    | some v =>
      cases v with
      | tup l => rw [hx] at h; cases h
      | a v =>
        rw [hx] at h
        simp only at h
        cases hr : partsOf s r with
        | none => rw [hr] at h; cases h
        | some l =>
          rw [hr] at h
          cases h
          obtain ⟨h1, h2⟩ := partsOf_ok (fun p hp => hev p (by simp [hp])) hr
          obtain ⟨h3, h4⟩ := hev (i, x) (by simp) _ hx
          refine ⟨by simp [h1, h3, V.den], fun p hp => ?_⟩
          rcases List.mem_cons.1 hp with rfl | hp
          · exact h4
          · exact h2 p hp
theorem seqO_map {α β : Type} {f : β → Option α} {l : List β} {m : List α} (h : seqO (l.map f) = some m) : ∀ i : Nat, m[i]? = (l[i]?).bind f := by
  obtain ⟨h1, h2⟩ := seqO_ok h
  intro i
  by_cases hi : i < l.length
  · rw [List.getElem?_eq_getElem hi, List.getElem?_eq_getElem (by omega)]
    exact (h2 i hi (by omega)).symm
  · rw [List.getElem?_eq_none (by omega), List.getElem?_eq_none (by omega)]; rfl
theorem places_run (hT : TOK P T) : ∀ {F : List Field} {pl : List (Nat × Nat)}, placesOf T (F.map fun f => (f.offset, f.type)) = some pl →
    (F.mapM (m := Sem) fun f => do pure (f.offset, ← sizeOf f.type)).run P w = .ok pl w
  | [], pl, h => by cases h; rfl
  | f :: r, pl, h => by
    simp only [placesOf, List.map_cons] at h
    cases hf : lookT T f.type with
    | none => rw [hf] at h; simp [seqO] at h
    | some d =>
      rw [hf] at h
      simp only [seqO] at h
      cases hr : seqO ((r.map fun f => (f.offset, f.type)).map fun p => match lookT T p.2 with | some d => some (p.1, d.size) | none => none) with
      | none => rw [hr] at h; cases h
      | some l =>
        rw [hr] at h
        cases h
        have ih := places_run hT (F := r) (pl := l) hr
        simp only [List.mapM_cons, Sem.run_bind, run_size (lookT_ok hT hf), Result.andThen, Sem.run_pure, ih]
theorem rdBuild_ok (hT : TOK P T) {a : Act} {s : S} {t : TypeId} {parts : Array (Nat × Operand)} {K : V → Prop} (hev : ∀ p ∈ parts.toList, ∀ v, ev s p.2 = some v → a.eval p.2 = v.den ρ ∧ v.wf nx) (h : rdBuild T s t parts.toList K) :
    ∃ v, K v ∧ v.wf nx ∧ (Instr.build t (parts.map fun (i, x) => (i, a.eval x))).run P w = .ok (v.den ρ) w := by
  obtain ⟨d, hd, h1⟩ := onV_iff h
  obtain ⟨ps, hps, h2⟩ := onV_iff h1
  clear h h1
  have hd' := lookT_ok hT hd
  obtain ⟨hp1, hp2⟩ := partsOf_ok hev hps
  obtain ⟨z, hz1, hz2⟩ := run_zero (w := w) hd'
  obtain ⟨i, z', _, _, _, _, _, _, hz0, hkd⟩ := hd'
  have hzw : ∀ c ∈ d.zero, c.wf nx := fun c hc => C.wf_mono (Nat.zero_le _) (hz0 c hc)
  have hpl : (parts.map fun (p : Nat × Operand) => (p.1, a.eval p.2)).toList = ps.map (fun p => (p.1, p.2.den ρ)) := by rw [← hp1]; simp
  split at h2
  · rename_i fs hk
    obtain ⟨pl, hpl', h3⟩ := onV_iff h2
    obtain ⟨out, hout, hK⟩ := onV_iff h3
    rw [hk] at hkd
    obtain ⟨F, hF, hFs⟩ := hkd
    rw [← hFs] at hpl'
    obtain ⟨hfill, hw1, _⟩ := fillC_ok ρ hout hp2 hzw
    refine ⟨_, hK, hw1, ?_⟩
    have hm : (F.mapM (m := Sem) fun f => do pure (f.offset, ← sizeOf f.type)).run P w = .ok pl.toArray w := by
      rw [Array.mapM_eq_mapM_toList, Sem.run_map, places_run hT hpl']; rfl
    simp only [Instr.build, Sem.run_bind, hz1, Result.andThen, run_und hF, hm, hz2 ρ, hpl]
    have : (fun (i : Nat) => pl.toArray[i]?) = (fun (i : Nat) => pl[i]?) := by funext i; simp
    rw [this, hfill]
    rfl
  · rename_i n e hk
    obtain ⟨de, hde, h3⟩ := onV_iff h2
    obtain ⟨out, hout, hK⟩ := onV_iff h3
    rw [hk] at hkd
    obtain ⟨hfill, hw1, _⟩ := fillC_ok ρ hout hp2 hzw
    refine ⟨_, hK, hw1, ?_⟩
    simp only [Instr.build, Sem.run_bind, hz1, Result.andThen, run_und hkd, run_size (lookT_ok hT hde), hz2 ρ, hpl, hfill]
    rfl
  · exact h2.elim
theorem repC_den (ρ : Env) (n : Nat) (z : List C) : (repC n z).map (C.den ρ) = (List.replicate n (z.map (C.den ρ))).flatten := by
  unfold repC
  split
  · rename_i c
    induction n with
    | zero => rfl
    | succ n ih => simp [List.replicate_succ, ih]
  · rw [List.map_flatten, List.map_replicate]
theorem repC_mem {n : Nat} {z : List C} : ∀ c ∈ repC n z, c ∈ z := by
  intro c hc
  unfold repC at hc
  split at hc
  · rw [List.eq_of_mem_replicate hc]; simp
  · obtain ⟨l, hl, hc⟩ := List.mem_flatten.1 hc
    rw [List.eq_of_mem_replicate hl] at hc; exact hc
theorem repC_length (n : Nat) (z : List C) : (repC n z).length = n * z.length := by
  unfold repC
  split
  · simp
  · simp [List.length_flatten]
theorem flat_getElem? {α : Type} (z : List α) (hz : 0 < z.length) : ∀ (n i : Nat), (List.replicate n z).flatten[i]? = if i < n * z.length then z[i % z.length]? else none
  | 0, i => by simp
  | n + 1, i => by
    rw [List.replicate_succ, List.flatten_cons]
    by_cases h : i < z.length
    · rw [List.getElem?_append_left h, Nat.mod_eq_of_lt h, if_pos (by rw [Nat.add_mul]; omega)]
    · rw [List.getElem?_append_right (by omega), flat_getElem? z hz n (i - z.length)]
      have e1 : (i - z.length) % z.length = i % z.length := by
        conv => rhs; rw [show i = (i - z.length) + z.length by omega]
        rw [Nat.add_mod_right]
      rw [e1, Nat.add_mul]
      congr 1
      simp; omega
theorem made_repC (ρ : Env) {z : Value} {zc : List C} (hz : z.cells = (zc.map (C.den ρ)).toArray) (h0 : 0 < zc.length) (n : Nat) :
    ((Array.range (n * zc.length)).map (z.cells[· % z.cells.size]!)) = ((repC n zc).map (C.den ρ)).toArray := by
  apply Array.ext'
  apply List.ext_getElem?
  intro i
  rw [repC_den]
  have h1 : 0 < (zc.map (C.den ρ)).length := by simpa using h0
  simp only [flat_getElem? _ h1, hz, List.length_map]
  by_cases hi : i < n * zc.length
  · have hm : i % zc.length < zc.length := Nat.mod_lt _ h0
    simp [hi, hm]
  · simp [hi]
end
end Go.Proofs.Ytnafllhgjidbkaa
