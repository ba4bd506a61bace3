/- One operation: what it asks and yields, and that it does. -/
import Derived.Test.YtnafllhgjidbkaaS4
namespace Go.Proofs.Ytnafllhgjidbkaa
open Go.RowKit
set_option linter.unusedVariables false
set_option linter.unusedSimpArgs false

def callB (P : Program) (f : FuncId) : Bool :=
  match P.funcs[f]? with
  | some fn => !(fn.name == "runtime.NumGoroutine") && !fn.body.isNone
  | none => false
/-- A call: what it leaves meets K. -/
structure CallK (P : Program) (n0 : Nat) (f : FuncId) (vs : List V) (L : List E) (nx : Nat) (K : V → List E → Nat → Prop) : Prop where
  ok : callB P f = true
  run : ∀ ρ w, Hp n0 ρ w L nx → (∀ v ∈ vs, v.wf nx) → Calls P f (vs.map (V.den ρ)).toArray w fun e w' =>
    ∃ v new nx' ρ', e = .returned (v.den ρ') ∧ nx ≤ nx' ∧ v.wf nx' ∧ Agr nx nx' ρ ρ' ∧ Below w.heap.size w w' ∧ News n0 L ρ ρ' w w' nx nx' new ∧ K v new nx'
abbrev Hnd := FuncId → List V → List E → Nat → (V → List E → Nat → Prop) → Prop
def lenC (T : List (Nat × TD)) (t : Nat) (x : Option V) (K : V → Prop) : Prop :=
  onV (lookT T t) fun d =>
  match d.kd, x with
  | .sl _, some (.a (.c (.sl _ n))) => K (V.i n)
  | .sl _, some (.a (.c .nil)) => K (V.i 0)
  | .arr n _, some _ => K (V.i n)
  | _, _ => False
def isZ (s : S) : Option Operand → Bool
  | none => true
  | some x => match ev s x with
    | some (.a (.c (.int _ (.ofNat 0)))) => true
    | _ => false
def rdSlice (T : List (Nat × TD)) (L : List E) (nx : Nat) (s : S) (t : Nat) (x : Option V) (lo hi : Option Operand) (K : V → List E → Nat → Prop) : Prop :=
  onV (lookT T t) fun d =>
  match d.kd, x with
  | .sl e, some (.a (.c (.sl l n))) => onV (lookT T e) fun de => onV (find L l) fun en =>
    (match lo with
    | none => (match hi with
      | none => onV en.kd.z fun z => (0 < z ∧ n * z ≤ en.cs.length) ∧ K (V.c (.sl l n)) [] nx
      | some h => (match ev s h with
        | some (.a (.c (.int _ h))) => onV en.kd.z fun z => (z = de.size ∧ 0 < z ∧ 0 ≤ h ∧ h.toNat * z ≤ en.cs.length) ∧ K (V.c (.sl l h.toNat)) [] nx
        | _ => False))
    | some lx => (match ev s lx with
      | some (.a (.c (.int _ lw))) => (match en.kd with
        | .ro (z + 1) => (match hi with
          | none => (z + 1 = de.size ∧ 0 ≤ lw ∧ lw ≤ n ∧ n * (z + 1) ≤ en.cs.length) ∧ K (V.c (.sl nx (n - lw.toNat))) [⟨nx, .ro (z + 1), (en.cs.drop (lw.toNat * (z + 1))).take ((n - lw.toNat) * (z + 1))⟩] (nx + 1)
          | some hx => (match ev s hx with
            | some (.a (.c (.int _ h))) => (z + 1 = de.size ∧ 0 ≤ lw ∧ lw ≤ h ∧ h.toNat * (z + 1) ≤ en.cs.length) ∧ K (V.c (.sl nx (h.toNat - lw.toNat))) [⟨nx, .ro (z + 1), (en.cs.drop (lw.toNat * (z + 1))).take ((h.toNat - lw.toNat) * (z + 1))⟩] (nx + 1)
            | _ => False))
        | _ => False)
      | _ => False))
  | _, _ => False
def rdCall (H : Hnd) (T : List (Nat × TD)) (L : List E) (nx : Nat) (s : S) (c : Call) (K : V → List E → Nat → Prop) : Prop :=
  match c.callee with
  | .value f => (match ev s f with
    | some (.a (.c (.fn g caps))) => onV (evs s c.args.toList) fun vs => H g (vs ++ caps.map ptrV) L nx K
    | _ => False)
  | .builtin .len => (match c.args.toList, c.argTypes.toList with
    | [x], [t] => lenC T t (ev s x) fun v => K v [] nx
    | _, _ => False)
  | .builtin .max => (match c.args.toList with
    | [x, y] => (match ev s x, ev s y with
      | some (.a (.c (.int k x))), some (.a (.c (.int k' y))) => K (V.c (.int k (if y > x then y else x))) [] nx
      | _, _ => False)
    | _ => False)
  | .builtin .min => (match c.args.toList with
    | [x, y] => (match ev s x, ev s y with
      | some (.a (.c (.int k x))), some (.a (.c (.int k' y))) => K (V.c (.int k (if y < x then y else x))) [] nx
      | _, _ => False)
    | _ => False)
  | _ => False
def rd (H : Hnd) (T : List (Nat × TD)) (L : List E) (nx : Nat) (s : S) (op : Op) (K : V → List E → Nat → Prop) : Prop :=
  match op with
  | .move x => onV (ev s x) fun v => K v [] nx
  | .assign x => onV (ev s x) fun v => K v [] nx
  | .pick c a b => (match ev s c with
    | some (.a (.c .tt)) => onV (ev s a) fun v => K v [] nx
    | some (.a (.c .ff)) => onV (ev s b) fun v => K v [] nx
    | some (.a (.c (.bool p))) => (p = true → onV (ev s a) fun v => K v [] nx) ∧ (p = false → onV (ev s b) fun v => K v [] nx)
    | _ => False)
  | .alloc t => onV (lookT T t) fun d => K (V.c (.ptr nx 0)) [⟨nx, .own t, d.zero⟩] (nx + 1)
  | .box t x => (match ev s x with
    | some (.a v) => K (V.c (.ptr nx 0)) [⟨nx, .own t, v.cells⟩] (nx + 1)
    | _ => False)
  | .build t parts => rdBuild T s t parts.toList fun v => K v [] nx
  | .buildSlice t n parts => rdBuildS T s nx t n parts.toList K
  | .load t x => onV (lookT T t) fun d => rdLoad L d (ev s x) fun v => K v [] nx
  | .binOp op t x y _ => rdBin T t op (ev s x) (ev s y) fun c => K (V.c c) [] nx
  | .unOp op _ x => rdUn op (ev s x) fun v => K v [] nx
  | .convert a b x => rdConv T a b (ev s x) fun v => K v [] nx
  | .fieldAddr t x f => rdFldA T L t (ev s x) f fun v => K v [] nx
  | .field t x f => rdFld T t (ev s x) f fun v => K v [] nx
  | .indexAddr t x i => rdIdxA T L t (ev s x) (ev s i) fun v => K v [] nx
  | .index t x i => rdIdx T t (ev s x) (ev s i) fun v => K v [] nx
  | .extract x i => (match ev s x with
    | some (.tup l) => onV (l[i]?) fun c => K (.a c) [] nx
    | _ => False)
  | .makeSlice t l c => rdMake T nx t (ev s l) (ev s c) K
  | .slice t x lo hi none => rdSlice T L nx s t (ev s x) (bif isZ s lo then none else lo) hi K
  | .makeFunc (.func f) first caps => (match first.toList with
    | [] => onV (evs s caps.toList) fun vs => onV (capsOf vs) fun cp => K (V.c (.fn f cp)) [] nx
    | _ => False)
  | .nilCheck x => (match ev s x with
    | some (.a (.c (.ptr l o))) => onV (find L l) fun e => 0 < e.cs.length ∧ K (V.c (.ptr l o)) [] nx
    | some (.a (.c (.fn f cp))) => K (V.c (.fn f cp)) [] nx
    | _ => False)
  | .call c => rdCall H T L nx s c K
  | _ => False

section
variable {P : Program} {T : List (Nat × TD)} {w : World} {n0 : Nat} {ρ : Env} {L : List E} {nx : Nat} {a : Act} {next : Act → World → Prop} {Q : Exit → Act → World → Prop}
theorem wp_value {o : Oper} {u : Value} {w' : World} (h : (execOp a.eval o).run P w = .ok (.value u) w') (hn : next (a.put o.dst u) w') : o.wp P a w next Q := by unfold Oper.wp; rw [h]; exact hn
theorem run_v {s : Sem Value} {u : Value} {w' : World} (h : s.run P w = .ok u w') : (do pure (Next.value (← s)) : Sem Next).run P w = .ok (.value u) w' := by simp [h, Result.andThen]
/-- What is left behind an operation that turns nothing. -/
abbrev Kont (n0 : Nat) (L : List E) (ρ : Env) (w : World) (nx : Nat) (a : Act) (dst : Option Tmp) (next : Act → World → Prop) (K : V → List E → Nat → Prop) : Prop :=
  ∀ v new nx' ρ' w', K v new nx' → nx ≤ nx' → v.wf nx' → Agr nx nx' ρ ρ' → Below w.heap.size w w' → News n0 L ρ ρ' w w' nx nx' new → next (a.put dst (v.den ρ')) w'
theorem Kont.pure {dst : Option Tmp} {K : V → List E → Nat → Prop} (h : Kont n0 L ρ w nx a dst next K) {v : V} (hv : v.wf nx) (hK : K v [] nx) : next (a.put dst (v.den ρ)) w :=
  h v [] nx ρ w hK (Nat.le_refl _) hv (Agr.refl _ _) (Below.refl _ _) News.nil
theorem evs_ok {s : S} : ∀ {l : List Operand} {vs : List V}, evs s l = some vs → (∀ x ∈ l, ∀ v, ev s x = some v → a.eval x = v.den ρ ∧ v.wf nx) → l.map a.eval = vs.map (V.den ρ) ∧ ∀ v ∈ vs, v.wf nx
  | [], vs, h, _ => by cases h; simp
  | x :: r, vs, h, hev => by
    simp only [evs, List.map_cons] at h
    cases hx : ev s x with
    | none => rw [hx] at h; simp [seqO] at h
    | some v =>
      rw [hx] at h
      simp only [seqO] at h
      cases hr : seqO (r.map (ev s)) with
      | none => rw [hr] at h; cases h
      | some m =>
        rw [hr] at h
        cases h
        obtain ⟨h1, h2⟩ := evs_ok (l := r) (vs := m) hr (fun y hy => hev y (by simp [hy]))
        obtain ⟨h3, h4⟩ := hev x (by simp) v hx
        refine ⟨by simp [h1, h3], fun u hu => ?_⟩
        rcases List.mem_cons.1 hu with rfl | hu
        · exact h4
        · exact h2 u hu
theorem rdMake_ok (hT : TOK P T) (hb : n0 ≤ w.heap.size) {t : TypeId} {n m : Option V} {K : V → List E → Nat → Prop} (h : rdMake T nx t n m K) :
    ∃ u u' v new nx' ρ' w', n = some u ∧ m = some u' ∧ K v new nx' ∧ nx ≤ nx' ∧ v.wf nx' ∧ Agr nx nx' ρ ρ' ∧ Below w.heap.size w w' ∧ News n0 L ρ ρ' w w' nx nx' new ∧ (Instr.makeSlice t (u.den ρ) (u'.den ρ)).run P w = .ok (v.den ρ') w' := by
  obtain ⟨d, hd, h1⟩ := onV_iff h
  clear h
  split at h1
  · rename_i e n m hk
    obtain ⟨de, hde, ⟨h2, rfl, h4, h5, h6⟩, hK⟩ := onV_iff h1
    clear h1
    obtain ⟨k, rfl⟩ : ∃ k : Nat, m = k := ⟨m.toNat, by omega⟩
    have hd' := lookT_ok hT hd
    obtain ⟨i, z, _, _, _, _, _, _, _, hkd⟩ := hd'
    rw [hk] at hkd
    obtain ⟨i, z, hi, hsz, hby, hz, hzc, hzl, hzw, _⟩ := lookT_ok hT hde
    have hcs : z.cells.size = de.size := by rw [hzc ρ]; simpa using hzl
    obtain ⟨w', hr, how, hg⟩ := run_make_full (P := P) w n0 t e i z de.size hkd hi hz hsz .i64 .i64 k (by rw [hby]; exact Nat.le_trans (Nat.mul_le_mul h5 (show k ≤ 1000000 by omega)) (by omega)) (by unfold maxLen; omega) hb
    have hmade : (madeCells z.cells (k * de.size)).toList = (repC k de.zero).map (C.den ρ) := by
      have := made_repC ρ (hzc ρ) (by omega) k
      rw [hzl] at this
      unfold madeCells
      rw [this]
    rw [hmade] at how
    refine ⟨_, _, _, _, _, ρ.put nx (some ⟨w.heap.size, 0, none⟩) k, w', rfl, rfl, hK, by omega, Nat.lt_succ_self nx, Env.put_agr _ _ _ _, Below.of_grown hg, vec_new e de.size k (fun c hc => C.wf_mono (Nat.zero_le _) (hzw c (repC_mem c hc))) hb how, ?_⟩
    simpa [V.den, A.den, C.den, Env.put_same] using hr
  · exact h1.elim
theorem rdBuildS_ok (hT : TOK P T) (hb : n0 ≤ w.heap.size) {s : S} {t n : Nat} {parts : Array (Nat × Operand)} {K : V → List E → Nat → Prop} (hev : ∀ p ∈ parts.toList, ∀ v, ev s p.2 = some v → a.eval p.2 = v.den ρ ∧ v.wf nx) (h : rdBuildS T s nx t n parts.toList K) :
    ∃ v new nx' ρ' w', K v new nx' ∧ nx ≤ nx' ∧ v.wf nx' ∧ Agr nx nx' ρ ρ' ∧ Below w.heap.size w w' ∧ News n0 L ρ ρ' w w' nx nx' new ∧ (Instr.buildSlice t n (parts.map fun (i, x) => (i, a.eval x))).run P w = .ok (v.den ρ') w' := by
  obtain ⟨d, hd, h1⟩ := onV_iff h
  obtain ⟨ps, hps, h2⟩ := onV_iff h1
  clear h h1
  obtain ⟨hp1, hp2⟩ := partsOf_ok hev hps
  split at h2
  · rename_i e hk
    obtain ⟨de, hde, h3⟩ := onV_iff h2
    obtain ⟨out, hout, ⟨h4, h5⟩, hK⟩ := onV_iff h3
    clear h2 h3
    obtain ⟨i, z, _, _, _, _, _, _, _, hkd⟩ := lookT_ok hT hd
    rw [hk] at hkd
    have hde' := lookT_ok hT hde
    obtain ⟨zv, hz1, hz2⟩ := run_zero (w := w) hde'
    obtain ⟨i, z, hi, hsz, hby, hz, hzc, hzl, hzw, _⟩ := hde'
    have hmade := made_repC ρ (hz2 ρ) (by omega) n
    rw [hzl] at hmade
    have hpl : (parts.map fun (p : Nat × Operand) => (p.1, a.eval p.2)).toList = ps.map (fun p => (p.1, p.2.den ρ)) := by rw [← hp1]; simp
    obtain ⟨hfill, hw1, hlen⟩ := fillC_ok ρ hout hp2 (fun c hc => C.wf_mono (Nat.zero_le _) (hzw c (repC_mem c hc)))
    have hn : n ≤ 1000000 := Nat.le_trans (Nat.le_mul_of_pos_right n h5) h4
    have how := World.ownsRow_lit (base := n0) (e := e) (size := de.size) w (out.map (C.den ρ)).toArray n hb (by unfold maxLen; omega) (by simp [hlen, repC_length, hzl])
    refine ⟨_, _, _, ρ.put nx (some ⟨w.heap.size, 0, none⟩) n, _, hK, by omega, Nat.lt_succ_self nx, Env.put_agr _ _ _ _, (Below.refl _ _).alloc (Nat.le_refl _) _, vec_new e de.size n hw1 hb how, ?_⟩
    have hgt : ¬ (n * de.size > 2 ^ 24) := by omega
    by_cases h0 : n * de.size = 0
    · have hq : ∀ z : Array Value, (Array.range (n * de.size)).map (fun x => z[x % z.size]!) = ((repC n de.zero).map (C.den ρ)).toArray := by
        intro z
        rw [← hmade, h0]; simp
      simp only [Instr.buildSlice, Sem.run_bind, run_und hkd, Result.andThen, run_size (lookT_ok hT hde), hgt, if_false, h0, if_true, Sem.run_pure, Nat.zero_mul, hpl, show ¬ (0 > 2 ^ 24) by omega]
      rw [h0] at hq
      simp only [hq, hfill, Sem.run_bind, run_newRow, Result.andThen, Sem.run_pure]
      simp only [V.den, A.den, C.den, Env.put_same]
    · simp only [Instr.buildSlice, Sem.run_bind, run_und hkd, Result.andThen, run_size (lookT_ok hT hde), hgt, if_false, h0, hz1, Sem.run_pure, hmade, hpl, hfill, run_newRow]
      simp only [V.den, A.den, C.den, Env.put_same]
  · exact h2.elim
theorem run_sliceAt {t e : TypeId} {size : Nat} (hu : P.underlying t = some (.slice e)) (hs : (sizeOf e).run P w = .ok size w) (ao : Option Addr) (n cap l h : Nat) (lo hi : Option Value)
    (hlo : lo = none ∧ l = 0 ∨ ∃ k, lo = some (.int k l)) (hhi : hi = none ∧ h = n ∨ ∃ k, hi = some (.int k h)) (h1 : l ≤ h) (h2 : h ≤ cap) :
    (Instr.sliceAt t (.slice ao n cap) lo hi none).run P w = .ok (.slice (if cap = l then ao else ao.map (·.add (l * size))) (h - l) (cap - l)) w := by
  have e1 : 0 ≤ (h : Int) ∧ (h : Int) ≤ cap := by omega
  have e2 : 0 ≤ (l : Int) ∧ (l : Int) ≤ h := by omega
  rcases hlo with ⟨rfl, rfl⟩ | ⟨k, rfl⟩ <;> rcases hhi with ⟨rfl, rfl⟩ | ⟨k', rfl⟩ <;>
    simp only [Instr.sliceAt, Sem.run_bind, run_und hu, Result.andThen, Instr.slice, Instr.sliceBounds, Instr.sliceBound, asIntOf, Sem.run_pure, Sem.run_ite, e1, e2, and_self, if_true, hs, Int.toNat_natCast]
theorem add_zero_map (ao : Option Addr) : ao.map (·.add 0) = ao := by cases ao <;> simp [Addr.add]
theorem isZ_ok {s : S} {lo : Option Operand} (h : isZ s lo = true) (hev : ∀ x, lo = some x → ∀ v, ev s x = some v → a.eval x = v.den ρ ∧ v.wf nx) : lo.map a.eval = none ∧ (0 : Nat) = 0 ∨ ∃ k, lo.map a.eval = some (.int k (0 : Nat)) := by
  cases lo with
  | none => exact .inl ⟨rfl, rfl⟩
  | some x =>
    simp only [isZ] at h
    split at h
    · rename_i k hx
      exact .inr ⟨k, by simp [(hev x rfl _ hx).1, V.den, A.den, C.den]⟩
    · cases h
theorem EOK.cap {e : E} (h : EOK n0 ρ w e) {z m : Nat} (hz : e.kd.z = some z) (h0 : 0 < z) (hm : m * z ≤ e.cs.length) : m ≤ (ρ e.lab).2 := by
  obtain ⟨lab, kd, cs⟩ := e
  cases kd with
  | ro k =>
    cases k with
    | zero => cases hz
    | succ k =>
      cases hz
      rcases h.2 with h2 | h2
      · omega
      · exact Nat.le_of_mul_le_mul_right (Nat.le_trans hm h2) h0
  | own t => cases hz
  | vec t k =>
    cases hz
    obtain ⟨n, h1, h2⟩ := h
    simp only [List.length_map] at h1 hm
    have hmn : m ≤ n := Nat.le_of_mul_le_mul_right (by rw [← h1]; exact hm) h0
    rcases h2 with ⟨_, h3⟩ | ⟨g, cap, cur, h3, _, _, h5, _⟩
    · omega
    · have h6 := congrArg (fun v => match v with | Value.slice _ _ c => c | _ => 0) h3
      simp only at h6 ⊢
      omega
theorem sub_new {e : E} (hp : Hp n0 ρ w L nx) (hm : e ∈ L) {z : Nat} (hk : e.kd = .ro (z + 1)) (l h : Nat) (h1 : l ≤ h) (h2 : h * (z + 1) ≤ e.cs.length) :
    News n0 L ρ (ρ.put nx (if (ρ e.lab).2 = l then (ρ e.lab).1 else (ρ e.lab).1.map (·.add (l * (z + 1)))) ((ρ e.lab).2 - l)) w w nx (nx + 1) [⟨nx, .ro (z + 1), (e.cs.drop (l * (z + 1))).take ((h - l) * (z + 1))⟩] := by
  have hwf : ∀ c ∈ (e.cs.drop (l * (z + 1))).take ((h - l) * (z + 1)), c.wf nx := fun c hc => (hp.wf e hm).2 c (List.mem_of_mem_drop (List.mem_of_mem_take hc))
  have hok := hp.ok e hm
  have hcap := hok.cap (z := z + 1) (m := h) (by rw [hk]; rfl) (by omega) h2
  have hlh : l * (z + 1) ≤ h * (z + 1) := Nat.mul_le_mul_right _ h1
  obtain ⟨lab, kd, cs⟩ := e
  simp only at hk h2 hcap
  subst hk
  have hlen : ((cs.drop (l * (z + 1))).take ((h - l) * (z + 1))).length = (h - l) * (z + 1) := by
    rw [List.length_take, List.length_drop, Nat.sub_mul]; omega
  refine ⟨?_, ?_, ?_, ?_, ?_⟩
  · intro x hx; rw [List.mem_singleton.1 hx]
    simp only [EOK, Env.put_same]
    rw [cells_agr (Env.put_agr ρ nx _ _).lt hwf]
    constructor
    · intro hne
      have hlt : l < h := by
        rcases Nat.lt_or_ge l h with hh | hh
        · exact hh
        · exfalso; apply hne; rw [show h - l = 0 by omega]; simp
      have hcl : (ρ lab).2 ≠ l := by omega
      have hcne : cs.map (C.den ρ) ≠ [] := by
        intro hn
        have hc0 : cs = [] := by simpa using hn
        subst hc0
        have hh : h * (z + 1) = 0 := by simpa using h2
        rcases Nat.mul_eq_zero.1 hh with hh | hh <;> omega
      obtain ⟨b, off, e1, e2, e3⟩ := hok.1 hcne
      refine ⟨b, off + l * (z + 1), by simp only [hcl, if_false]; rw [e1, Option.map_some, none_add], e2, fun i hi => ?_⟩
      rw [List.length_map, hlen, Nat.sub_mul] at hi
      have h3 := e3 (l * (z + 1) + i) (by simp; omega)
      rw [← Nat.add_assoc] at h3
      rw [h3]
      have h4 : i < h * (z + 1) - l * (z + 1) := hi
      simp [List.getD_eq_getElem?_getD, List.getElem?_take, List.getElem?_drop, Nat.sub_mul, h4]
    · right
      rw [hlen]
      exact Nat.mul_le_mul_right _ (by omega)
  · intro x hx; rw [List.mem_singleton.1 hx]; exact ⟨by simp, fun c hc => C.wf_mono (by omega) (hwf c hc)⟩
  · intro x hx y hy _; rw [List.mem_singleton.1 hx, List.mem_singleton.1 hy]
  · intro x hx y hy _ hne; rw [List.mem_singleton.1 hx, List.mem_singleton.1 hy] at hne; exact absurd rfl hne
  · intro x hx; rw [List.mem_singleton.1 hx]
    right
    refine ⟨rfl, ?_⟩
    by_cases hne : cs = []
    · left; simp [hne]
    · right
      refine ⟨_, hm, rfl, hne, ?_⟩
      simp only [blk, Env.put_same]
      split
      · rfl
      · rw [Option.map_map]; congr 1; funext x; simp only [Function.comp, Addr.add]; split <;> rfl
theorem rdSlice_ok (hT : TOK P T) (hp : Hp n0 ρ w L nx) {s : S} {t : TypeId} {x : Operand} {lo hi : Option Operand} {K : V → List E → Nat → Prop}
    (hev : ∀ y, (y = x ∨ lo = some y ∨ hi = some y) → ∀ v, ev s y = some v → a.eval y = v.den ρ ∧ v.wf nx) (h : rdSlice T L nx s t (ev s x) (bif isZ s lo then none else lo) hi K) :
    ∃ v new nx' ρ', K v new nx' ∧ nx ≤ nx' ∧ v.wf nx' ∧ Agr nx nx' ρ ρ' ∧ News n0 L ρ ρ' w w nx nx' new ∧ (Instr.sliceAt t (a.eval x) (lo.map a.eval) (hi.map a.eval) none).run P w = .ok (v.den ρ') w := by
  obtain ⟨d, hd, h1⟩ := onV_iff h
  clear h
  split at h1
  · rename_i e l n hk hx
    obtain ⟨de, hde, h2⟩ := onV_iff h1
    obtain ⟨en, hen, h3⟩ := onV_iff h2
    clear h1 h2
    obtain ⟨i, z, _, _, _, _, _, _, _, hkd⟩ := lookT_ok hT hd
    rw [hk] at hkd
    have hsz := run_size (w := w) (lookT_ok hT hde)
    obtain ⟨hok, hl, hm⟩ := hp.entry hen
    obtain ⟨hx1, hx2⟩ := hev x (.inl rfl) _ hx
    have hlw : l < nx := hx2
    rw [hx1]
    split at h3
    · rename_i hlo
      have hz : isZ s lo = true := by
        cases hq : isZ s lo with
        | true => rfl
        | false => rw [hq] at hlo; simp only [cond_false] at hlo; rw [hlo] at hq; cases hq
      have hlo' := isZ_ok (a := a) hz (fun y hy => hev y (.inr (.inl hy)))
      split at h3
      · obtain ⟨z, hz', ⟨h5, h7⟩, hK⟩ := onV_iff h3
        have hcap := hok.cap hz' h5 h7
        rw [hl] at hcap
        refine ⟨_, _, _, ρ, hK, Nat.le_refl _, hlw, Agr.refl _ _, News.nil, ?_⟩
        have := run_sliceAt hkd hsz (ρ l).1 n (ρ l).2 0 n (lo.map a.eval) none hlo' (.inl ⟨rfl, rfl⟩) (Nat.zero_le _) hcap
        simp only [Nat.zero_mul, add_zero_map, ite_self, Nat.sub_zero] at this
        exact this
      · rename_i hx'
        split at h3
        · rename_i k hh hhe
          obtain ⟨z, hz', ⟨h4, h5, h6, h7⟩, hK⟩ := onV_iff h3
          obtain ⟨hh1, _⟩ := hev hx' (.inr (.inr rfl)) _ hhe
          have hcap := hok.cap hz' h5 h7
          rw [hl] at hcap
          refine ⟨_, _, _, ρ, hK, Nat.le_refl _, hlw, Agr.refl _ _, News.nil, ?_⟩
          have := run_sliceAt hkd hsz (ρ l).1 n (ρ l).2 0 hh.toNat (lo.map a.eval) ((some hx').map a.eval) hlo' (.inr ⟨k, by simp only [Option.map_some, hh1, V.den, A.den, C.den]; congr; omega⟩) (Nat.zero_le _) hcap
          simp only [Nat.zero_mul, add_zero_map, ite_self, Nat.sub_zero] at this
          exact this
        · exact h3.elim
    · rename_i lx hlo
      have hlx : lo = some lx := by
        cases hq : isZ s lo with
        | true => rw [hq] at hlo; cases hlo
        | false => rw [hq] at hlo; exact hlo
      subst hlx
      split at h3
      · rename_i kl lw hle
        obtain ⟨hl1, _⟩ := hev lx (.inr (.inl rfl)) _ hle
        split at h3
        · rename_i z hkz
          split at h3
          · obtain ⟨⟨h4, h5, h6, h7⟩, hK⟩ := h3
            have hcap := hok.cap (z := z + 1) (m := n) (by rw [hkz]; rfl) (by omega) h7
            have hnew := sub_new hp hm hkz lw.toNat n (by omega) h7
            rw [hl] at hcap hnew
            refine ⟨_, _, _, _, hK, by omega, Nat.lt_succ_self nx, Env.put_agr _ _ _ _, hnew, ?_⟩
            have := run_sliceAt hkd hsz (ρ l).1 n (ρ l).2 lw.toNat n ((some lx).map a.eval) none (.inr ⟨kl, by simp only [Option.map_some, hl1, V.den, A.den, C.den]; congr; omega⟩) (.inl ⟨rfl, rfl⟩) (by omega) hcap
            rw [← h4] at this
            simp only [V.den, A.den, C.den, Env.put_same, Option.map_none]
            exact this
          · rename_i hx'
            split at h3
            · rename_i kh hh hhe
              obtain ⟨⟨h4, h5, h6, h7⟩, hK⟩ := h3
              obtain ⟨hh1, _⟩ := hev hx' (.inr (.inr rfl)) _ hhe
              have hcap := hok.cap (z := z + 1) (m := hh.toNat) (by rw [hkz]; rfl) (by omega) h7
              have hnew := sub_new hp hm hkz lw.toNat hh.toNat (by omega) h7
              rw [hl] at hcap hnew
              refine ⟨_, _, _, _, hK, by omega, Nat.lt_succ_self nx, Env.put_agr _ _ _ _, hnew, ?_⟩
              have := run_sliceAt hkd hsz (ρ l).1 n (ρ l).2 lw.toNat hh.toNat ((some lx).map a.eval) ((some hx').map a.eval) (.inr ⟨kl, by simp only [Option.map_some, hl1, V.den, A.den, C.den]; congr; omega⟩) (.inr ⟨kh, by simp only [Option.map_some, hh1, V.den, A.den, C.den]; congr; omega⟩) (by omega) hcap
              rw [← h4] at this
              simp only [V.den, A.den, C.den, Env.put_same]
              exact this
            · exact h3.elim
        · exact h3.elim
      · exact h3.elim
  · exact h1.elim
end
end Go.Proofs.Ytnafllhgjidbkaa
