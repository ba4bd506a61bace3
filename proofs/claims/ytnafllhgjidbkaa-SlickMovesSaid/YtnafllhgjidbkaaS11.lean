/- Regions that draw: from the text's order to whatever order. -/
import Derived.Test.YtnafllhgjidbkaaS10
namespace Go.Proofs.Ytnafllhgjidbkaa
open Go.RowKit
set_option linter.unusedVariables false
set_option linter.unusedSimpArgs false
section
variable {P : Program} {T : List (Nat × TD)} {n0 N nx0 : Nat} {all : List Oper} {L0 : List E} {s0 : S}
theorem CallK.mono {f : FuncId} {vs : List V} {L : List E} {nx : Nat} {K K' : V → List E → Nat → Prop} (h : CallK P n0 f vs L nx K) (hk : ∀ v n x, K v n x → K' v n x) : CallK P n0 f vs L nx K' :=
  ⟨h.ok, fun ρ w hp hv => (h.run ρ w hp hv).mono fun e w' ⟨v, new, nx', ρ', h1, h2, h3, h4, h5, h6, h7⟩ => ⟨v, new, nx', ρ', h1, h2, h3, h4, h5, h6, hk _ _ _ h7⟩⟩
theorem HD_call {g : FuncId} {vs : List V} {L : List E} {nx : Nat} {K : V → List E → Nat → Prop} (h : HD P n0 g vs L nx K) : CallK P n0 g vs L nx K := by
  obtain ⟨v, new, nx', h1, h2⟩ := h
  exact h1.mono fun v' n' x' ⟨e1, e2, e3⟩ => by rw [e1, e2, e3]; exact h2
structure AccP (all : List Oper) (s0 : S) (nx0 : Nat) (ds : List Stp) (i : Nat) (ms : List Nat) (news : List Ne) (s : S) (nx : Nat) : Prop where
  len : ds.length = i
  mlen : ms.length = i
  look : LookAt all s0 ds i s
  msk : ∀ D, Closed all D → ∀ (j m : Nat), ms[j]? = some m → D j → ∀ k, Nat.testBit m k = true → D k
  news : ∀ x ∈ news, ∃ st, ds[x.i]? = some st ∧ st.new = x.es ∧ st.lo = x.lo ∧ st.hi = x.hi
  hi : ∀ (j : Nat) (st : Stp), ds[j]? = some st → st.hi ≤ nx
  le : nx0 ≤ nx
theorem selN_mem {m : Nat} {L0 : List E} : ∀ {news : List Ne} {e : E}, e ∈ selN m L0 news → e ∈ L0 ∨ ∃ x ∈ news, Nat.testBit m x.i = true ∧ e ∈ x.es
  | [], e, h => .inl h
  | x :: r, e, h => by
    simp only [selN, tb_eq] at h
    cases hb : Nat.testBit m x.i with
    | true =>
      rw [hb] at h
      rcases List.mem_append.1 h with h | h
      · exact .inr ⟨x, by simp, hb, h⟩
      · rcases selN_mem h with h | ⟨y, h1, h2⟩
        · exact .inl h
        · exact .inr ⟨y, by simp [h1], h2⟩
    | false =>
      rw [hb] at h
      rcases selN_mem h with h | ⟨y, h1, h2⟩
      · exact .inl h
      · exact .inr ⟨y, by simp [h1], h2⟩
theorem flatN_mem {L0 : List E} : ∀ {news : List Ne} {e : E}, e ∈ flatN L0 news → e ∈ L0 ∨ ∃ x ∈ news, e ∈ x.es
  | [], e, h => .inl h
  | x :: r, e, h => by
    rcases List.mem_append.1 h with h | h
    · exact .inr ⟨x, by simp, h⟩
    · rcases flatN_mem h with h | ⟨y, h1, h2⟩
      · exact .inl h
      · exact .inr ⟨y, by simp [h1], h2⟩
theorem LookAt.put {ds : List Stp} {i : Nat} {s : S} (h : LookAt all s0 ds i s) (hl : ds.length = i) {o : Oper} (ho : all[i]? = some o) (st : Stp) : LookAt all s0 (ds ++ [st]) (i + 1) (putS s o.dst st.v) := by
  have hg : gslot all i = o.dst := by simp [gslot, ho]
  have hst : (ds ++ [st])[i]? = some st := by rw [← hl]; simp
  have hold : ∀ t v, o.dst ≠ some t → look s t = some v → (∃ j st', j < i + 1 ∧ (ds ++ [st])[j]? = some st' ∧ gslot all j = some t ∧ (∀ ρ, v.den ρ = st'.v.den ρ) ∧ ∀ n, st'.v.wf n → v.wf n) ∨
      ((∀ j, j < i + 1 → gslot all j ≠ some t) ∧ ∃ v0, look s0 t = some v0 ∧ (∀ ρ, v.den ρ = v0.den ρ) ∧ ∀ n, v0.wf n → v.wf n) := by
    intro t v hne hv
    rcases h t v hv with ⟨j, st', h1, h2, h3⟩ | ⟨h1, h2⟩
    · exact .inl ⟨j, st', by omega, getElem?_app h2, h3⟩
    · refine .inr ⟨fun j hj => ?_, h2⟩
      by_cases hji : j = i
      · subst hji; rw [hg]; exact hne
      · exact h1 j (by omega)
  intro t v hv
  cases hd : o.dst with
  | none => rw [hd] at hv; exact hold t v (by rw [hd]; simp) hv
  | some d =>
    rw [hd] at hv
    simp only [putS, Go.Proofs.Ytnafllhgjidbkaa.look] at hv
    cases hb : Nat.beq d t with
    | true =>
      rw [hb] at hv
      cases hv
      have := Nat.eq_of_beq_eq_true hb
      subst this
      exact .inl ⟨i, st, by omega, hst, by rw [hg, hd], fun _ => rfl, fun _ hw => hw⟩
    | false =>
      rw [hb] at hv
      have hne : d ≠ t := fun e => by rw [e] at hb; simp at hb
      exact hold t v (by rw [hd]; intro e; cases e; exact hne rfl) hv
theorem LookAt.lit {ds : List Stp} {i : Nat} {s : S} (h : LookAt all s0 ds i s) {t : Nat} {p : Bool} (hl : look s t = some (.a (.c (.bool p)))) {c : C} (hc : ∀ ρ, c.den ρ = .bool p) (hw : ∀ n, c.wf n) : LookAt all s0 ds i ((t, V.c c) :: s) := by
  intro t' v hv
  simp only [look] at hv
  cases hb : Nat.beq t t' with
  | true =>
    rw [hb] at hv
    cases hv
    have := Nat.eq_of_beq_eq_true hb
    subst this
    rcases h t _ hl with ⟨j, st, h1, h2, h3, h4, h5⟩ | ⟨h1, v0, h2, h3, h4⟩
    · exact .inl ⟨j, st, h1, h2, h3, fun ρ => by rw [← h4 ρ]; exact hc ρ, fun n _ => hw n⟩
    · exact .inr ⟨h1, v0, h2, fun ρ => by rw [← h3 ρ]; exact hc ρ, fun n _ => hw n⟩
  | false => rw [hb] at hv; exact h t' v hv
theorem okLab_spec {ds : List Stp} {ms : List Nat} {i : Nat} {news : List Ne} {s : S} {nx : Nat} (ha : AccP all s0 nx0 ds i ms news s nx) {v : V} {new : List E} {nx' m : Nat} {r : List Stp} {l : Nat} (h : okLab nx0 m nx nx' news l = true) : LabP (ds ++ r) nx0 ⟨v, new, nx, nx', m⟩ l := by
  simp only [okLab, Bool.or_eq_true, Bool.and_eq_true] at h
  rcases h with (h | h) | h
  · exact .inl (Nat.le_of_ble_eq_true h)
  · exact .inr (.inl ⟨Nat.le_of_ble_eq_true h.1, Nat.le_of_ble_eq_true h.2⟩)
  · obtain ⟨x, hx, h1, h2, h3⟩ := inNews_spec h
    obtain ⟨st, e1, e2, e3, e4⟩ := ha.news x hx
    exact .inr (.inr ⟨x.i, st, getElem?_app e1, h1, by rw [e3]; exact h2, by rw [e4]; exact h3⟩)
theorem looks_op {o : Oper} {t : Nat} (h : Operand.tmp t ∈ o.op.operands) : t ∈ o.looksAt all.toArray := by
  unfold Oper.looksAt
  refine List.mem_append.2 (.inl ?_)
  exact List.mem_filterMap.2 ⟨.tmp t, by simpa using h, rfl⟩
theorem looks_guard {o : Oper} {j t : Nat} {want : Bool} (hg : o.guard = some (j, want)) (ht : gslot all j = some t) : t ∈ o.looksAt all.toArray := by
  unfold Oper.looksAt
  refine List.mem_append.2 (.inr ?_)
  unfold gslot at ht
  split at ht
  · rename_i o' ho'; simp [hg, ho', ht]
  · cases ht
/-- The facts that an operation is met with. -/
def Met (ρ : Env) (a : Act) (o : Oper) (all : List Oper) (s : S) (nx : Nat) : Prop := ∀ t, t ∈ o.looksAt all.toArray → ∀ v, look s t = some v → a.tmps[t]? = some (v.den ρ) ∧ v.wf nx
theorem Met.ev {ρ : Env} {a : Act} {o : Oper} {s : S} {nx : Nat} (h : Met ρ a o all s nx) : ∀ x ∈ o.op.operands, ∀ v, ev s x = some v → a.eval x = v.den ρ ∧ v.wf nx := by
  intro x hx v hv
  cases x with
  | tmp t =>
    obtain ⟨h1, h2⟩ := h t (looks_op hx) v hv
    exact ⟨by simp [Act.eval, h1], h2⟩
  | const c => obtain ⟨h1, h2⟩ := V.ofV_ok hv ρ nx; exact ⟨h1.symm, h2⟩
  | global g => cases hv
  | func f => cases hv; exact ⟨rfl, by simp [V.wf, A.wf, C.wf]⟩
theorem good_run (hT : TOK P T) {o : Oper} {i : Nat} (ho : all[i]? = some o) {Ai : List E} {nx nx' : Nat} {si : S} {v : V} {new : List E} (h : rd (HD P n0) T Ai nx si o.op fun v' n' x' => v' = v ∧ n' = new ∧ x' = nx') {ρ : Env} {a : Act} {w : World}
    (hm : Met ρ a o all si nx) (hp : Hp n0 ρ w Ai nx) (hw : Region.wanted o (yielded all.toArray a.tmps) = true) {next : Act → World → Prop} {Q : Exit → Act → World → Prop}
    (hK : ∀ ρ' w', v.wf nx' → Agr nx nx' ρ ρ' → Below w.heap.size w w' → News n0 Ai ρ ρ' w w' nx nx' new → next (a.put o.dst (v.den ρ')) w') : wpOp P all.toArray Q i next a w := by
  unfold wpOp
  simp only [List.getElem?_toArray, ho, hw, if_true]
  refine .inl (rd_ok hT (fun _ _ _ hh => HD_call hh) hp hm.ev h ?_)
  rintro v' new' nx2 ρ' w' ⟨rfl, rfl, rfl⟩ h1 h2 h3 h4 h5
  exact hK ρ' w' h2 h3 h4 h5
theorem good_skip {o : Oper} {i : Nat} (ho : all[i]? = some o) {Ai : List E} {nx : Nat} {ρ : Env} {a : Act} {w : World} (hw : Region.wanted o (yielded all.toArray a.tmps) = false) {next : Act → World → Prop} {Q : Exit → Act → World → Prop}
    (hK : ∀ ρ' w', (V.tup []).wf nx → Agr nx nx ρ ρ' → Below w.heap.size w w' → News n0 Ai ρ ρ' w w' nx nx [] → next (a.put o.dst ((V.tup []).den ρ')) w') : wpOp P all.toArray Q i next a w := by
  unfold wpOp
  simp only [List.getElem?_toArray, ho, hw]
  exact hK ρ w (by simp [V.wf]) (Agr.refl _ _) (Below.refl _ _) News.nil
/-- The plan: what each head yields. -/
theorem dr_plan (hT : TOK P T) : ∀ {l : List Oper} {K : List Ne → S → Nat → Prop} {i : Nat} {ms : List Nat} {news : List Ne} {s : S} {nx : Nat} {ds : List Stp}, dr P T n0 N all L0 nx0 l K i ms news s nx → AccP all s0 nx0 ds i ms news s nx →
    (∀ j, j < l.length → all[i + j]? = l[j]?) →
    ∃ rest : List Stp, rest.length = l.length ∧ (∀ j st, i ≤ j → (ds ++ rest)[j]? = some st → PStep P n0 N all L0 s0 nx0 (ds ++ rest) j st) ∧
      ∃ msF newsF sF nxF, AccP all s0 nx0 (ds ++ rest) (i + l.length) msF newsF sF nxF ∧ K newsF sF nxF
  | [], K, i, ms, news, s, nx, ds, h, ha, _ => ⟨[], rfl, fun j st hj hs => by
      rw [List.append_nil] at hs
      have := (List.getElem?_eq_some_iff.1 hs).1
      have := ha.len
      omega, ms, news, s, nx, by simpa using ha, h⟩
  | o :: r, K, i, ms, news, s, nx, ds, h, ha, hl => by
    have ho : all[i]? = some o := by have := hl 0 (by simp); simpa using this
    simp only [dr] at h
    cases hd : dstB N o.dst with
    | false => rw [hd] at h; exact h.elim
    | true =>
    rw [hd] at h
    simp only [cond_true, forceN_eq] at h
    generalize hm : maskOf ms o = m at h
    have hanc : ∀ D, Closed all D → (∀ e ∈ o.after, Region.binds .any e = true → D e.on) → ∀ k, Nat.testBit m k = true → D k := fun D hc he k hk => by
      rw [← hm] at hk
      exact maskOf_spec (all := all) D (fun j m' hj hD => ha.msk D hc j m' hj hD) he k hk
    -- one step on, once what it yields is known
    have go : ∀ {s' : S} {st : Stp} {news' : List Ne}, LookAt all s0 ds i s' → st.m = m → st.lo = nx → nx ≤ st.hi → (news' = news ∨ news' = ⟨i, st.lo, st.hi, st.new⟩ :: news) →
        (∀ ρ a w, Met ρ a o all s' nx → Hp n0 ρ w (selN m L0 news) nx → ∀ (next : Act → World → Prop) (Q : Exit → Act → World → Prop), (∀ ρ' w', st.v.wf st.hi → Agr nx st.hi ρ ρ' → Below w.heap.size w w' → News n0 (selN m L0 news) ρ ρ' w w' nx st.hi st.new → next (a.put o.dst (st.v.den ρ')) w') → wpOp P all.toArray Q i next a w) →
        (nx = nx0 ∨ ∀ r, V.labs (LabP (ds ++ r) nx0 st) st.v ∧ ∀ e ∈ st.new, ∀ c ∈ e.cs, c.labs (LabP (ds ++ r) nx0 st)) →
        dr P T n0 N all L0 nx0 r K (i + 1) (ms ++ [m]) news' (putS s' o.dst st.v) st.hi →
        ∃ rest : List Stp, rest.length = (o :: r).length ∧ (∀ j st, i ≤ j → (ds ++ rest)[j]? = some st → PStep P n0 N all L0 s0 nx0 (ds ++ rest) j st) ∧
          ∃ msF newsF sF nxF, AccP all s0 nx0 (ds ++ rest) (i + (o :: r).length) msF newsF sF nxF ∧ K newsF sF nxF := by
      intro s' st news' hlook hstm hstlo hsthi hnews hgood hfine hrest
      have hacc : AccP all s0 nx0 (ds ++ [st]) (i + 1) (ms ++ [m]) news' (putS s' o.dst st.v) st.hi := by
        refine ⟨by simp [ha.len], by simp [ha.mlen], hlook.put ha.len ho st, ?_, ?_, ?_, Nat.le_trans ha.le hsthi⟩
        · intro D hc j m' hj hD
          by_cases hji : j < i
          · rw [List.getElem?_append_left (by rw [ha.mlen]; exact hji)] at hj
            exact ha.msk D hc j m' hj hD
          · have hlt := (List.getElem?_eq_some_iff.1 hj).1
            simp [ha.mlen] at hlt
            have : j = i := by omega
            subst this
            rw [← ha.mlen] at hj
            simp at hj
            subst hj
            exact hanc D hc (fun e he hb => hc j o ho hD e he hb)
        · intro x hx
          rcases hnews with rfl | rfl
          · obtain ⟨st', h1, h2⟩ := ha.news x hx
            exact ⟨st', getElem?_app h1, h2⟩
          · rcases List.mem_cons.1 hx with rfl | hx
            · exact ⟨st, by simp only; rw [← ha.len]; simp, rfl, rfl, rfl⟩
            · obtain ⟨st', h1, h2⟩ := ha.news x hx
              exact ⟨st', getElem?_app h1, h2⟩
        · intro j st' hj
          by_cases hji : j < i
          · rw [List.getElem?_append_left (by rw [ha.len]; exact hji)] at hj
            exact Nat.le_trans (ha.hi j st' hj) hsthi
          · have hlt := (List.getElem?_eq_some_iff.1 hj).1
            simp [ha.len] at hlt
            have : j = i := by omega
            subst this
            rw [← ha.len] at hj
            simp at hj
            subst hj
            exact Nat.le_refl _
      obtain ⟨rest, h1, h2, msF, newsF, sF, nxF, h3, h4⟩ := dr_plan hT hrest hacc (fun j hj => by have := hl (j + 1) (by simp; omega); rw [show i + 1 + j = i + (j + 1) by omega, this]; simp)
      have heq : ds ++ [st] ++ rest = ds ++ st :: rest := by simp
      rw [heq] at h2 h3
      refine ⟨st :: rest, by simp [h1], fun j st' hj hs => ?_, msF, newsF, sF, nxF, by rw [show i + (o :: r).length = i + 1 + r.length by simp; omega]; exact h3, h4⟩
      by_cases hji : j = i
      · subst hji
        have hst : (ds ++ st :: rest)[j]? = some st := by rw [← ha.len]; simp
        rw [hst] at hs
        cases hs
        refine ⟨⟨o, ho, hd, by rw [hstm]; exact hanc, s', selN m L0 news, hlook.app _, fun e he => ?_, ?_⟩, by rw [hstlo]; exact hsthi, by rw [hstlo]; exact ha.le, ?_, ?_⟩
        · rcases selN_mem he with he | ⟨x, hx, hb, hxe⟩
          · exact .inl he
          · obtain ⟨st', e1, e2, _⟩ := ha.news x hx
            refine .inr ⟨x.i, st', ?_, getElem?_app e1, by rw [hstm]; exact hb, by rw [e2]; exact hxe⟩
            have := (List.getElem?_eq_some_iff.1 e1).1
            have := ha.len
            omega
        · rw [hstlo]; exact fun ρ a w hmet hp next Q hK => hgood ρ a w hmet hp next Q hK
        · intro k sk hk hsk
          rw [List.getElem?_append_left (by rw [ha.len]; exact hk)] at hsk
          rw [hstlo]; exact ha.hi k sk hsk
        · rw [hstlo]
          exact hfine.imp id (fun hf => hf _)
      · exact h2 j st' (by omega) hs
    have run : ∀ {s' : S}, LookAt all s0 ds i s' → drRun P T n0 L0 nx0 i m news o (fun news' s' nx' => dr P T n0 N all L0 nx0 r K (i + 1) (ms ++ [m]) news' s' nx') s' nx →
        (∀ ρ a, Met ρ a o all s' nx → Region.wanted o (yielded all.toArray a.tmps) = true) →
        ∃ rest : List Stp, rest.length = (o :: r).length ∧ (∀ j st, i ≤ j → (ds ++ rest)[j]? = some st → PStep P n0 N all L0 s0 nx0 (ds ++ rest) j st) ∧
          ∃ msF newsF sF nxF, AccP all s0 nx0 (ds ++ rest) (i + (o :: r).length) msF newsF sF nxF ∧ K newsF sF nxF := by
      intro s' hlook hr hw
      obtain ⟨v, new, nx', h1, h2⟩ := rd_det P n0 o.op _ hr
      unfold fineK at h2
      split at h2
      · exact h2.elim
      · rename_i hble
        have hle := Nat.le_of_ble_eq_true hble
        have hrest : (nx = nx0 ∨ V.chk (okLab nx0 m nx nx' news) v = true ∧ (new.all fun e => e.cs.all (C.chk (okLab nx0 m nx nx' news))) = true) ∧ putK s' o.dst v fun s2 => consN i nx nx' new news fun news' => dr P T n0 N all L0 nx0 r K (i + 1) (ms ++ [m]) news' s2 nx' := by
          split at h2
          · rename_i hb; exact ⟨.inl (Nat.eq_of_beq_eq_true hb), h2⟩
          · exact ⟨.inr h2.1, h2.2⟩
        obtain ⟨hf, h3⟩ := hrest
        rw [putK_eq] at h3
        have h4 : ∃ news', (news' = news ∨ news' = ⟨i, nx, nx', new⟩ :: news) ∧ dr P T n0 N all L0 nx0 r K (i + 1) (ms ++ [m]) news' (putS s' o.dst v) nx' := by
          unfold consN at h3
          split at h3
          · exact ⟨_, .inl rfl, h3⟩
          · exact ⟨_, .inr rfl, h3⟩
        obtain ⟨news', h5, h6⟩ := h4
        refine go (st := ⟨v, new, nx, nx', m⟩) hlook rfl rfl hle h5 (fun ρ a w hmet hp next Q hK => good_run hT ho h1 hmet hp (hw ρ a hmet) hK) ?_ h6
        rcases hf with hf | ⟨hf1, hf2⟩
        · exact .inl hf
        · exact .inr fun r' => ⟨V.labs_of_chk (fun l hl => okLab_spec ha hl) hf1, fun e he c hc => C.labs_of_chk (fun l hl => okLab_spec ha hl) (List.all_eq_true.1 (List.all_eq_true.1 hf2 e he) c hc)⟩
    have skip : ∀ {s' : S}, LookAt all s0 ds i s' → (putK s' o.dst (.tup []) fun s2 => dr P T n0 N all L0 nx0 r K (i + 1) (ms ++ [m]) news s2 nx) →
        (∀ ρ a, Met ρ a o all s' nx → Region.wanted o (yielded all.toArray a.tmps) = false) →
        ∃ rest : List Stp, rest.length = (o :: r).length ∧ (∀ j st, i ≤ j → (ds ++ rest)[j]? = some st → PStep P n0 N all L0 s0 nx0 (ds ++ rest) j st) ∧
          ∃ msF newsF sF nxF, AccP all s0 nx0 (ds ++ rest) (i + (o :: r).length) msF newsF sF nxF ∧ K newsF sF nxF := by
      intro s' hlook hr hw
      rw [putK_eq] at hr
      exact go (st := ⟨.tup [], [], nx, nx, m⟩) hlook rfl rfl (Nat.le_refl _) (.inl rfl) (fun ρ a w hmet hp next Q hK => good_skip ho (hw ρ a hmet) hK) (.inr fun r' => ⟨by simp [V.labs], by simp⟩) hr
    split at h
    · rename_i hg
      exact run ha.look h (fun ρ a _ => by simp [Region.wanted, hg])
    · rename_i j want hg
      split at h
      · exact h.elim
      · rename_i t ht
        have hwant : ∀ {s' : S} {v : V} {ρ : Env} {a : Act}, look s' t = some v → Met ρ a o all s' nx → Region.wanted o (yielded all.toArray a.tmps) = (vb (v.den ρ) == some want) := fun hv hmet => by
          simp only [Region.wanted, hg, yielded_slot ht (hmet t (looks_guard hg ht) _ hv).1]
        split at h
        · rename_i hl
          cases want
          · exact skip ha.look h (fun ρ a hmet => by rw [hwant hl hmet]; rfl)
          · exact run ha.look h (fun ρ a hmet => by rw [hwant hl hmet]; rfl)
        · rename_i hl
          cases want
          · exact run ha.look h (fun ρ a hmet => by rw [hwant hl hmet]; rfl)
          · exact skip ha.look h (fun ρ a hmet => by rw [hwant hl hmet]; rfl)
        · rename_i p hl
          have hls : ∀ c : C, look ((t, V.c c) :: s) t = some (V.c c) := fun c => by simp [look]
          by_cases hpw : p = want
          · subst hpw
            refine run (ha.look.lit hl (c := bif p then .tt else .ff) (fun ρ => by cases p <;> rfl) (fun n => by cases p <;> trivial)) (h.1 rfl) (fun ρ a hmet => ?_)
            rw [hwant (hls _) hmet]; cases p <;> rfl
          · have hpn : p = !want := by cases p <;> cases want <;> simp_all
            subst hpn
            refine skip (ha.look.lit hl (c := bif want then .ff else .tt) (fun ρ => by cases want <;> rfl) (fun n => by cases want <;> trivial)) (h.2 rfl) (fun ρ a hmet => ?_)
            rw [hwant (hls _) hmet]; cases want <;> rfl
        · rename_i l hl
          exact skip ha.look h (fun ρ a hmet => by rw [hwant hl hmet]; rfl)
        · exact h.elim
end
end Go.Proofs.Ytnafllhgjidbkaa
