/- Texts of the proof, part 5: E3, G1, N2, N3, N4, N5, U27, G2, G3, G4, V6, N6, G5, G6, G7, V11, V9, N7, N8d, N8, N9, N10, N11, V7, N12, N13, V8, N14, V10, E4, E5, E6, E7, L3, L11. -/
import Derived.Test.YtjijjncddjkdlaaK4
import Derived.WalkKit
import Derived.Below
import Derived.Laws.OwnMore
import Derived.Maps.AppendAt
import Derived.Laws.IdiomCopy
import Derived.Laws.CopyRow
import Derived.IntWalk
import Derived.StillTail
import Derived.Scope
import Derived.ChangeKeysEq
import Derived.Laws.Small
import Derived.OrdersIn
import Derived.TacticsIn
import Derived.OwnWalkIn
import Derived.RangeFuncNested
import Derived.RangeFuncLeaves
import Derived.RangeFuncRecord
import Derived.Maps.Keyed
import Derived.Maps.RangeRun
import Derived.DeepKeys4
import Derived.Test.YtjijjncddjkdlaaRows
import Derived.KernelRfl
import Derived.ProofKit
import Derived.OpenShut
import Derived.Lib.SmallJoins
import Derived.Deep.Slices
import Derived.PlainAid
import Derived.StillTailTactics
import Derived.WalkSpells
import Derived.OwnWalk
import Derived.Lib.AppendZerosOnto
import Derived.Lib.AppendZeros
import Derived.Deep.AppendSrc
import Derived.Lib.SliceRun
import Derived.Lib.Walk
/- A region that draws its order, with one call that turns a map: in a walk. -/
namespace Go.Proofs.Ytjijjncddjkdlaa
open Go.RowKit
set_option linter.unusedVariables false
set_option linter.unusedSimpArgs false
section
variable {P : Program} {T : List (Nat × TD)} {n0 : Nat} {cx : Cx} {N na nx : Nat} {s : S} {L : List E}
def drawT (P : Program) (T : List (Nat × TD)) (n0 N g0 lm : Nat) (ops : List Oper) (K : K3) (s : S) (L : List E) (nx : Nat) : Prop :=
  rmK lm L fun Lv => Nat.blt lm nx = true ∧ drT P T n0 N g0 lm L Lv nx ops (fun s' L1 => K s' L1 nx) s none
theorem draw_turn_rule (g0 lm : Nat) (hT : TOK P T) (hm : P.follows .mixedOrders = true) {id : Nat} {ops : Array Oper} {K : Kt} (hB : drawB ops ops.size = true) (h : drawT P T n0 N g0 lm ops.toList (K .normal) s L nx) :
    Tri P n0 cx N na (.region id ops true) K s L nx := by
  refine ⟨fun ρ a w hna hs hp hi => ?_⟩
  obtain ⟨all, rfl⟩ : ∃ l : List Oper, ops = l.toArray := ⟨ops.toList, by simp⟩
  simp only [drawB, Bool.and_eq_true, decide_eq_true_eq, Bool.or_eq_true, List.size_toArray] at hB
  obtain ⟨⟨⟨hn, hH⟩, ht⟩, hseq⟩ := hB
  unfold drawT at h
  rw [rmK_eq] at h
  obtain ⟨hlm, h⟩ := h
  have hlm : lm < nx := Nat.le_of_ble_eq_true hlm
  have hlook : LookAt all s ([] : List Stp) 0 s := fun t v hv => .inr ⟨fun j hj => by omega, v, hv, fun _ => rfl, fun _ h => h⟩
  obtain ⟨ds, L1, sF, t0, hlen, ht0l, ht0, hP, hF, hK, _, hL1⟩ := drT_plan (i := 0) h (fun j hj => by simp) rfl hlook (.inl ⟨rfl, fun j st hj => by simp at hj⟩)
  obtain ⟨ks, f, hL1⟩ := hL1 rfl
  simp only [List.nil_append, Nat.zero_add] at hP hF ht0 ht0l
  have hlen : ds.length = all.length := by simpa using hlen
  have ht0l : t0 < all.length := by simpa using ht0l
  have hP' : ∀ (j : Nat) (st : Stp), ds[j]? = some st → PT P T n0 N g0 all L (rmL L lm) L1 nx s ds j st := fun j st hj => hP j st (Nat.zero_le _) hj
  have hwfs : ∀ t v, look s t = some v → v.wf nx := fun t v hv => (hs.ok t v hv).2
  have hLv : ∀ e ∈ rmL L lm, e ∈ L := fun e he => (rm_mem he).1
  refine wpIn_region_any hm ?_
  have hgoal := simG (P := P) (n := all.length) (all := all) (St := fun D a' w' => ∃ ρ', StR n0 N nx all L (rmL L lm) L1 s ds all.length ρ w.drew a.defers D ρ' a' w') (g := 0) (rd := cx.rd) (Q := fun e a' w' => Fin n0 cx N na ρ w a' w' (K e)) (Nat.le_refl _) hH (.inl rfl)
    (fun D a' w' i hi hDi hc hdep hSt next hnext => StR.step hT hP' hlen hH ht0 hLv hL1 hlm hwfs hSt hc hi hDi hdep hnext _) ?_ all.length (Array.replicate all.length false) a w.drew ?_ ?_ ?_
  · simpa using hgoal
  · rintro a' w' ⟨ρ', hd⟩
    obtain ⟨st0, hst0⟩ : ∃ st, ds[t0]? = some st := ⟨ds[t0]'(by omega), List.getElem?_eq_getElem (by omega)⟩
    have hD : ∀ k, k < all.length → (fun j => Nat.blt j all.length) k = true := fun k hk => Nat.ble_eq_true_of_le hk
    have hsl : SlOK N ρ' a' sF nx := by
      refine ⟨hd.size, fun t v hv => ?_⟩
      rcases hF t v hv with ⟨j, sj, hj, hsj, hg, hden, hwf⟩ | ⟨hnone, v0, hv0, hden, hwf⟩
      · exact ⟨by rw [hden ρ']; exact hd.done j sj t hsj (hD j hj) hg, hwf _ (hd.wfd j sj hsj (hD j hj))⟩
      · exact ⟨by rw [hden ρ']; exact hd.old t v0 hv0 (fun j hj _ => hnone j hj), hwf _ (hwfs t v0 hv0)⟩
    have hhp : Hp n0 ρ' w' L1 nx := hd.h1 ⟨t0, st0, hst0, (ht0 t0 st0 hst0).2 rfl, hD t0 (by omega)⟩
    have hagr : AgrLt na ρ ρ' := hd.agr.mono hna
    have hbel : Keep n0 cx w w' := (Keep.of (drew_below w) hp.base).trans hd.bel.top
    have hinv : Inv cx na ρ' w' a'.defers := by rw [hd.defers]; exact hi.keep hagr hbel
    have hw := vcOps_ok (P := P) (T := T) (n0 := n0) (cx := cx) (N := N) (all := all) (l := []) (Q := fun e a2 w2 => Fin n0 cx N na ρ w a2 w2 (K e)) (na := na) hT hna hsl hhp hinv hK (fun a2 w2 hf => Fin.trans hagr hbel hf)
    have := wpAnyIn_of_seq (md := .any) (F := FR cx.rd) (k0 := 0) (Q' := fun e a2 w2 => Fin n0 cx N na ρ w a2 w2 (K e)) (P := P) (ops := all.toArray) [] all.length (listedN all.length (all.length - all.length)) a' w' (fun j => by simp) (by rw [Nat.sub_self] at hseq ⊢; exact hseq) hw
    exact this
  · have : ∀ m, cnt (Array.replicate all.length false) m = m := by
      intro m
      induction m with
      | zero => rfl
      | succ m ih => simp only [cnt, ih, getD_replicate_false]; simp
    exact this _
  · exact ⟨by simp, fun j oj _ hl => (by rw [getD_replicate_false] at hl; cases hl), fun t _ ht => getD_in (by simpa using ht) (getD_replicate_false _ _)⟩
  · refine ⟨ρ, hs.size, rfl, AgrLt.refl _ _, Keep.refl _, hp.drew.mono hLv (Nat.le_refl _), fun _ => hp.drew, ?_, ?_, ?_, ?_⟩
    · rintro ⟨j, st, _, _, hD⟩
      rw [getD_replicate_false] at hD; cases hD
    · intro j st hj hD; rw [getD_replicate_false] at hD; cases hD
    · intro j st d hj hD; rw [getD_replicate_false] at hD; cases hD
    · intro t v hv _; exact (hs.ok t v hv).1
theorem draw_turn (g0 lm : Nat) (hT : TOK P T) (hm : P.follows .mixedOrders = true) {id : Nat} {ops : Array Oper} {K : Kt} (hB : drawB ops ops.size = true) (h : Opq (K .normal) fun K' => drawT P T n0 N g0 lm ops.toList K' s L nx) :
    Tri P n0 cx N na (.region id ops true) K s L nx := draw_turn_rule g0 lm hT hm hB (h (K .normal) fun _ _ _ h => h)
/-- The call, in a walk. -/
theorem turn_mk {g0 lm : Nat} {vs : List V} {Lv : List E} {R : Int → KS → MF → Prop} (z : Int) (ks : KS) (f : MF) (h : CallM P n0 g0 vs L nx (fun v L' _ => v = V.i z ∧ L' = ⟨lm, .mp true ks f, []⟩ :: Lv)) (hR : R z ks f) :
    ∃ z ks f, CallM P n0 g0 vs L nx (fun v L' _ => v = V.i z ∧ L' = ⟨lm, .mp true ks f, []⟩ :: Lv) ∧ R z ks f := ⟨z, ks, f, h, hR⟩
end
end Go.Proofs.Ytjijjncddjkdlaa

/- Shore: slices.Grow of no row. -/
namespace Go.Proofs.Ytjijjncddjkdlaa
open Go.RowKit
set_option linter.unusedVariables false
set_option linter.unusedSimpArgs false
open Go.Lib
end Go.Proofs.Ytjijjncddjkdlaa

/- Shore: results that are rows of rows; the reference's Done. -/
namespace Go.Proofs.Ytjijjncddjkdlaa
open Go.RowKit
set_option linter.unusedVariables false
set_option linter.unusedSimpArgs false
section
variable {α : Type} {kd : Kd} {cs : α → List C} {ln : α → Nat} {d : α}
/-- Rows and an error. -/
def rowsR (t : Nat) (kd : Kd) (cs : α → List C) (ln : α → Nat) (d : α) (l : List α) (Er : Int) (v : V) (L' : List E) : Prop :=
  ∃ o : C, v = V.tup [A.c o, A.c (C.i Er)] ∧ ((o = C.nil ∧ l = []) ∨ ∃ lab, o = C.sl lab l.length ∧ find L' lab = some ⟨lab, .vec t 1, famS ln 40 l⟩ ∧ ∀ k, k < l.length → find L' (k + 40) = some ⟨k + 40, kd, cs (l.getD k d)⟩)
/-- The names of rows that a call gives, as the callee has them. -/
def shiftR (b c n : Nat) : Rn := (List.range n).map fun k => (k + b, some (k + c))
theorem renL_shift {b c l : Nat} : ∀ {n : Nat}, renL (shiftR b c n) l = if b ≤ l ∧ l < b + n then some (l - b + c) else some l := by
  have key : ∀ {r : List Nat}, renL (r.map fun k => (k + b, some (k + c))) l = if ∃ k ∈ r, k + b = l then some (l - b + c) else some l := by
    intro r
    induction r with
    | nil => simp [renL]
    | cons a r ih =>
      simp only [List.map_cons, renL]
      cases hb : Nat.beq (a + b) l with
      | true =>
        have := Nat.eq_of_beq_eq_true hb
        simp only [cond_true]
        rw [if_pos ⟨a, by simp, this⟩]
        congr 1; omega
      | false =>
        have hne : a + b ≠ l := fun e => by rw [e, Nat.beq_refl] at hb; cases hb
        simp only [cond_false]
        rw [ih]
        congr 1
        simp only [List.mem_cons, eq_iff_iff]
        exact ⟨fun ⟨k, h1, h2⟩ => ⟨k, .inr h1, h2⟩, fun ⟨k, h1, h2⟩ => h1.elim (fun e => absurd (by rw [e] at h2; exact h2) hne) (fun h => ⟨k, h, h2⟩)⟩
  intro n
  unfold shiftR
  rw [key]
  congr 1
  simp only [List.mem_range, eq_iff_iff]
  exact ⟨fun ⟨k, h1, h2⟩ => by omega, fun h => ⟨l - b, by omega, by omega⟩⟩
theorem famS_shift {a b c n : Nat} {o : Option Nat} : ∀ {m : Nat} {l : List α}, b ≤ m → m + l.length ≤ b + n → a < b → seqO ((famS ln m l).map (C.ren ((a, o) :: shiftR b c n))) = some (famS ln (m - b + c) l)
  | m, [], _, _, _ => rfl
  | m, x :: r, h1, h2, h3 => by
    simp only [List.length_cons] at h2
    simp only [famS, List.map_cons, C.ren, renL, beq_ne (show a ≠ m by omega), cond_false]
    rw [renL_shift, if_pos (by omega)]
    simp only [seqO, famS_shift (a := a) (o := o) (b := b) (c := c) (n := n) (m := m + 1) (l := r) (by omega) (by omega) h3]
    rw [show m + 1 - b + c = m - b + c + 1 by omega]
theorem injB_of {R : Rn} : ∀ {L : List E}, (L.map E.lab).Nodup → (∀ e ∈ L, ∀ e' ∈ L, e.lab ≠ e'.lab → ∀ a, renL R e.lab = some a → renL R e'.lab = some a → False) → injB R L = true
  | [], _, _ => rfl
  | e :: r, hn, h => by
    simp only [List.map_cons, List.nodup_cons] at hn
    rw [injB, Bool.and_eq_true]
    refine ⟨List.all_eq_true.2 fun e' he' => ?_, injB_of hn.2 (fun x hx y hy => h x (by simp [hx]) y (by simp [hy]))⟩
    have hne : e'.lab ≠ e.lab := fun h => hn.1 (by rw [← h]; exact List.mem_map.2 ⟨e', he', rfl⟩)
    rw [beq_ne hne]
    cases h1 : renL R e.lab with
    | none => rfl
    | some a =>
      cases h2 : renL R e'.lab with
      | none => rfl
      | some b =>
        have hab : a ≠ b := fun e1 => h e (by simp) e' (by simp [he']) (fun e2 => hne e2.symm) a h1 (by rw [h2, e1])
        simp [beq_ne hab]
theorem CallK.rows {P : Program} {n0 nx nac t : Nat} {f : FuncId} {vs vs' : List V} {Lc L : List E} {R : Rn} {K : V → List E → Nat → Prop} {l : List α} {Er : Int} (B : Nat) (hB : nx < B) (hp : Plain cs) (hck : ∀ p x, (cs x).all (C.chk p) = true) (hkd : kd.isRo = false) (hkt : kd ≠ .vec t 1) (hl : l.length ≤ 20) (spec : Spec P f vs Lc nac (fun v L' _ => rowsR t kd cs ln d l Er v L')) (hok : callB P f = true)
    (hv : renVs R vs = some vs') (hvw : ∀ v ∈ vs, v.wf nac) (hL : roL R nac L Lc) (hLc : injB [] Lc = true)
    (hK : K (V.tup [A.c (.sl nx l.length), A.c (C.i Er)]) (⟨nx, .vec t 1, famS ln B l⟩ :: famE kd cs B l) (B + 20)) : CallK P n0 f vs' L nx K := by
  refine CallK.mk' hok spec hv hvw hL hLc ?_
  have hin : inLab nx (B + 20) nx = true := by simp only [inLab, Bool.and_eq_true]; rw [Nat.ble_eq, Nat.blt_eq]; omega
  have hin2 : ∀ k, k < l.length → inLab nx (B + 20) (k + B) = true := fun k hk => by
    simp only [inLab, Bool.and_eq_true]; rw [Nat.ble_eq, Nat.blt_eq]; omega
  rintro v L' nx' hw ⟨o, rfl, ⟨rfl, rfl⟩ | ⟨lab, rfl, hf, hfk⟩⟩
  · refine ⟨V.tup [A.c (.sl nx 0), A.c (C.i Er)], [⟨nx, .vec t 1, []⟩], B + 20, [(nx, none)], ⟨by omega, ?_, ?_, ⟨covE_nil (renL_one _ _) (by simp only; omega) rfl rfl, trivial⟩, rfl, ?_⟩, hK⟩
    · simp [V.ren, A.ren, C.ren, renL_one, C.i, seqO]
    · simp [V.chk, A.chk, C.chk, hin, C.i]
    · simp only [List.all_cons, List.all_nil, Bool.and_true, hin, Kd.isRo, Bool.not_false]
  · refine ⟨V.tup [A.c (.sl nx l.length), A.c (C.i Er)], ⟨nx, .vec t 1, famS ln B l⟩ :: famE kd cs B l, B + 20, (nx, some lab) :: shiftR B 40 l.length, ⟨by omega, ?_, ?_, ⟨covE_some (by simp [renL]) (show nx < B + 20 by omega) (wf_famS _ _ _ (by omega)) hf ?_, ?_⟩, ?_, ?_⟩, hK⟩
    · simp [V.ren, A.ren, C.ren, renL, C.i, seqO]
    · simp [V.chk, A.chk, C.chk, hin, C.i]
    · have := famS_shift (ln := ln) (a := nx) (o := some lab) (b := B) (c := 40) (n := l.length) (m := B) (l := l) (Nat.le_refl _) (Nat.le_refl _) (by omega)
      rw [Nat.sub_self, Nat.zero_add] at this
      exact this
    · refine covL_all fun e he => ?_
      obtain ⟨i, hi, rfl⟩ := famE_mem (d := d) he
      refine covE_some (l := i + 40) ?_ (by simp only; omega) (hp.wf _ _) (hfk i hi) (hp.ren _ _)
      simp only [renL, beq_ne (show nx ≠ i + B by omega), cond_false]
      rw [renL_shift, if_pos (by omega)]
      congr 1; omega
    · have hr : ∀ i, i < l.length → renL ((nx, some lab) :: shiftR B 40 l.length) (i + B) = some (i + 40) := fun i hi => by
        simp only [renL, beq_ne (show nx ≠ i + B by omega), cond_false]
        rw [renL_shift, if_pos (by omega)]
        congr 1; omega
      have hlab : ∀ i, i < l.length → lab ≠ i + 40 := fun i hi e1 => by
        rw [e1, hfk i hi] at hf
        simp only [Option.some.injEq, E.mk.injEq] at hf
        exact hkt hf.2.1
      have hr0 : renL ((nx, some lab) :: shiftR B 40 l.length) nx = some lab := by simp [renL]
      refine injB_of ?_ ?_
      · rw [List.map_cons, famE_labs, List.nodup_cons]
        exact ⟨fun hm => by have := List.mem_range'_1.1 hm; simp only at this; omega, range_nd _ _⟩
      · intro e he e' he' hne a h1 h2
        rcases List.mem_cons.1 he with rfl | he
        · rcases List.mem_cons.1 he' with rfl | he'
          · exact hne rfl
          · obtain ⟨i, hi, rfl⟩ := famE_mem (d := d) he'
            simp only at h1 h2
            rw [hr0] at h1; rw [hr i hi] at h2
            cases h1; cases h2
            exact hlab i hi rfl
        · obtain ⟨i, hi, rfl⟩ := famE_mem (d := d) he
          simp only at h1
          rw [hr i hi] at h1; cases h1
          rcases List.mem_cons.1 he' with rfl | he'
          · simp only at h2
            rw [hr0] at h2; cases h2
            exact hlab i hi rfl
          · obtain ⟨i', hi', rfl⟩ := famE_mem (d := d) he'
            simp only at h2 hne
            rw [hr i' hi'] at h2; cases h2
            omega
    · rw [List.all_cons, Bool.and_eq_true]
      refine ⟨?_, List.all_eq_true.2 fun e he => ?_⟩
      · simp only [hin, Kd.isRo, Bool.not_false, Bool.true_and]
        refine List.all_eq_true.2 fun c hc => ?_
        have : ∀ {m : Nat} {l' : List α}, nx ≤ m → m + l'.length ≤ B + 20 → ∀ c ∈ famS ln m l', C.chk (inLab nx (B + 20)) c = true := by
          intro m l'
          induction l' generalizing m with
          | nil => intro _ _ c hc; cases hc
          | cons x r ih =>
            intro h1 h2 c hc
            simp only [List.length_cons] at h2
            rcases List.mem_cons.1 hc with rfl | hc
            · simp only [C.chk, inLab, Bool.and_eq_true]; rw [Nat.ble_eq, Nat.blt_eq]; omega
            · exact ih (m := m + 1) (by omega) (by omega) c hc
        exact this (by omega) (by omega) c hc
      · obtain ⟨i, hi, rfl⟩ := famE_mem (d := d) he
        simp only [hin2 i hi, hkd, Bool.not_false, Bool.true_and]
        exact hck _ _
theorem CallM.rows {P : Program} {n0 nx nac t : Nat} {f : FuncId} {vs vs' : List V} {Lc L : List E} {R : Rn} {K : V → List E → Nat → Prop} {l : List α} {Er : Int} (B : Nat) (hB : nx < B) (hp : Plain cs) (hck : ∀ p x, (cs x).all (C.chk p) = true) (hkd : kd.isRo = false) (hkt : kd ≠ .vec t 1) (hl : l.length ≤ 20) (spec : Spec P f vs Lc nac (fun v L' _ => rowsR t kd cs ln d l Er v L')) (hok : callB P f = true)
    (hv : renVs R vs = some vs') (hvw : ∀ v ∈ vs, v.wf nac) (hL : roL R nac L Lc) (hLc : injB [] Lc = true)
    (hK : K (V.tup [A.c (.sl nx l.length), A.c (C.i Er)]) (⟨nx, .vec t 1, famS ln B l⟩ :: (famE kd cs B l ++ L)) (B + 20)) : CallM P n0 f vs' L nx K :=
  CallK.m (CallK.rows (d := d) B hB hp hck hkd hkt hl spec hok hv hvw hL hLc (by rw [appK_eq]; exact hK))
end
/-- The hours at which the jobs of each beach are done, of the first jobs of an order. -/
def doneL (j : Coast) (o : List Int) : Nat → List (List Int)
  | 0 => List.replicate j.length []
  | i + 1 => (doneL j o i).set (beachO o i) ((doneL j o i).getD (beachO o i) [] ++ [hourO j o (i + 1)])
abbrev rowE : Kd := .vec 3 1
end Go.Proofs.Ytjijjncddjkdlaa

/- Shore: Done. -/
namespace Go.Proofs.Ytjijjncddjkdlaa
open Go.RowKit
set_option linter.unusedVariables false
set_option linter.unusedSimpArgs false
end Go.Proofs.Ytjijjncddjkdlaa

/- Shore: Done with its errors; the reference's harm and Harm. -/
namespace Go.Proofs.Ytjijjncddjkdlaa
open Go.RowKit
set_option linter.unusedVariables false
set_option linter.unusedSimpArgs false
def ordE (j : Coast) (o : List Int) : Int := if validL j then (if isOrdB j o then 0 else 61) else 60
def doneR (j : Coast) (o : List Int) : List (List Int) := if ordE j o = 0 then doneL j o o.length else []
/-- The harm of a beach's jobs, by when they are done. -/
def hrmF (j : Coast) (rows : List (List Int)) (b : Nat) : Nat → Int := fun k => (rows.getD b []).getD k 0 * (jobA j b k).2
end Go.Proofs.Ytjijjncddjkdlaa

/- Shore: Turned. -/
namespace Go.Proofs.Ytjijjncddjkdlaa
open Go.RowKit
set_option linter.unusedVariables false
set_option linter.unusedSimpArgs false
/-- A tail whose cells name nothing. -/
def TailPl (T : List E) : Prop := ∀ e ∈ T, (∀ n, ∀ c ∈ e.cs, c.wf n) ∧ ∀ R, seqO (e.cs.map (C.ren R)) = some e.cs
def swapJ (x : Job) : Job := (x.2, x.1)
/-- The first m jobs of a beach from behind, with hours and harm exchanged. -/
def tpart (l : List Job) (m : Nat) : List Job := (l.reverse.take m).map swapJ
/-- The turned beaches, of the first k. -/
def turnL (j : Coast) (k : Nat) : List (List Job) := (List.range j.length).map fun i => if i < k then tpart (j.getD i []) (j.getD i []).length else []
/-- The jobs turned round. -/
def turnJ (j : Coast) : Coast := turnL j j.length
def harmful (j : Coast) : Bool := j.all fun l => l.all fun x => decide (x.2 ≠ 0)
def turnE (j : Coast) : Int := if validL j then (if harmful j then 0 else 5) else 60
def turnR (j : Coast) : Coast := if turnE j = 0 then turnJ j else []
abbrev rowJ : Kd := .vec 47 2
theorem chk_jobs (p : Nat → Bool) (l : List Job) : (jobC l).all (C.chk p) = true := List.all_eq_true.2 fun c hc => by
  simp only [jobC, List.mem_flatMap] at hc
  obtain ⟨j, _, hc⟩ := hc
  simp at hc
  rcases hc with rfl | rfl <;> rfl
end Go.Proofs.Ytjijjncddjkdlaa

/- Shore: how many orders there are. -/
namespace Go.Proofs.Ytjijjncddjkdlaa
open Go.RowKit
set_option linter.unusedVariables false
set_option linter.unusedSimpArgs false
/-- So many ways, when i jobs of a beach have found their places among those in front. -/
def numI (o m : Nat) : Nat → Nat
  | 0 => o
  | i + 1 => numI o m i * (m + i + 1) / (i + 1)
def numJ (j : Coast) : Nat → Nat
  | 0 => 1
  | b + 1 => numI (numJ j b) (manyN j b) (j.getD b []).length
end Go.Proofs.Ytjijjncddjkdlaa

/- Shore: slices.Concat of beaches. -/
namespace Go.Proofs.Ytjijjncddjkdlaa
open Go.RowKit
set_option linter.unusedVariables false
set_option linter.unusedSimpArgs false
/-- The jobs of the first beaches, one after the other. -/
def flatP (j : Coast) (k : Nat) : List Job := (j.take k).flatten
def flatJ (j : Coast) : List Job := flatP j j.length
end Go.Proofs.Ytjijjncddjkdlaa

/- Shore: rows of rows that grow; the reference's Free. -/
namespace Go.Proofs.Ytjijjncddjkdlaa
open Go.RowKit
set_option linter.unusedVariables false
set_option linter.unusedSimpArgs false
section
variable {α : Type} {kd : Kd} {cs : α → List C} {ln : α → Nat} {d : α}
end
/-- A beach for each job. -/
def sglL (l : List Job) : Coast := l.map fun x => [x]
def freeE (j : Coast) : Int := if validL j then (if 1 ≤ (flatJ j).length ∧ (flatJ j).length ≤ 6 then 0 else 5) else 60
def freeR (j : Coast) : Coast := if freeE j = 0 then sglL (flatJ j) else []
def flatB (j : Coast) (b i : Nat) : List Job := flatP j b ++ (j.getD b []).take i
end Go.Proofs.Ytjijjncddjkdlaa

/- Shore: Free. -/
namespace Go.Proofs.Ytjijjncddjkdlaa
open Go.RowKit
set_option linter.unusedVariables false
set_option linter.unusedSimpArgs false
end Go.Proofs.Ytjijjncddjkdlaa

/- The pairs' bound is below the harm of each order; jobs turned round have the same harm backwards. Plain law. -/
namespace Go.Proofs.Ytjijjncddjkdlaa
open Go.RowKit
set_option linter.unusedVariables false
set_option linter.unusedSimpArgs false
theorem sum_getD {α : Type} {F : α → Int} {d : α} : ∀ {l : List α}, sumZ l.length (fun i => F (l.getD i d)) = (l.map F).sum := by
  intro l
  have key : ∀ n, n ≤ l.length → sumZ n (fun i => F (l.getD i d)) = ((l.take n).map F).sum := by
    intro n
    induction n with
    | zero => intro _; rfl
    | succ n ih =>
      intro h
      rw [take_succ_getD (d := d) (by omega), List.map_append, List.sum_append]
      simp only [sumZ, ih (by omega)]
      simp
  rw [key l.length (Nat.le_refl _), List.take_length]
theorem sumZ_add {n : Nat} {F G : Nat → Int} : sumZ n (fun i => F i + G i) = sumZ n F + sumZ n G := by
  induction n with
  | zero => rfl
  | succ n ih => simp only [sumZ, ih]; omega
theorem sumZ_comm {n m : Nat} {F : Nat → Nat → Int} : sumZ n (fun i => sumZ m (fun k => F i k)) = sumZ m (fun k => sumZ n (fun i => F i k)) := by
  induction n with
  | zero => simp only [sumZ]; exact sumZ_zero.symm
  | succ n ih => simp only [sumZ, ih, sumZ_add]
def minJ (x y : Job) : Int := if y.1 * x.2 < x.1 * y.2 then y.1 * x.2 else x.1 * y.2
theorem minJ_comm (x y : Job) : minJ x y = minJ y x := by
  unfold minJ
  split <;> split <;> omega
theorem minJ_le (x y : Job) : minJ x y ≤ x.1 * y.2 := by unfold minJ; split <;> omega
def P1 (x : Job) (m : List Job) : Int := (m.map (minJ x)).sum
def PP (l m : List Job) : Int := (l.map fun x => P1 x m).sum
theorem P1_le (x : Job) (m : List Job) : P1 x m ≤ x.1 * wS m := by
  induction m with
  | nil => simp [P1, wS]
  | cons y m ih =>
    have := minJ_le x y
    simp only [P1, List.map_cons, List.sum_cons, wS_cons] at *
    rw [Int.mul_add]; omega
theorem PP_cons (x : Job) (l m : List Job) : PP (x :: l) m = P1 x m + PP l m := by simp [PP]
theorem PP_cons' (l : List Job) (y : Job) (m : List Job) : PP l (y :: m) = P1 y l + PP l m := by
  induction l with
  | nil => simp [PP, P1]
  | cons x l ih =>
    rw [PP_cons, PP_cons, ih]
    simp only [P1, List.map_cons, List.sum_cons]
    rw [minJ_comm x y]; omega
/-- The bound of what is left. -/
def BR (j : Coast) (f : Nat → Nat) : Int := sumZ j.length fun b => costS 0 (remC j f b) + sumZ b fun c => PP (remC j f b) (remC j f c)
theorem tri_same {n c : Nat} {G G' : Nat → Nat → Int} (h : ∀ b d, d < b → b ≠ c → d ≠ c → G b d = G' b d) (hn : n ≤ c) : sumZ n (fun b => sumZ b (G b)) = sumZ n (fun b => sumZ b (G' b)) :=
  sumZ_congr fun b hb => sumZ_congr fun d hd => h b d hd (by omega) (by omega)
theorem tri_diff {c : Nat} {G G' : Nat → Nat → Int} {e : Nat → Int} (h : ∀ b d, d < b → b ≠ c → d ≠ c → G b d = G' b d) (h1 : ∀ d, d < c → G c d = G' c d + e d) (h2 : ∀ b, c < b → G b c = G' b c + e b) : ∀ {n : Nat}, c < n → sumZ n (fun b => sumZ b (G b)) = sumZ n (fun b => sumZ b (G' b)) + sumZ n (fun d => if d = c then 0 else e d)
  | n + 1, hn => by
    simp only [sumZ]
    by_cases hc : c = n
    · subst hc
      rw [tri_same h (Nat.le_refl _), if_pos rfl]
      have e1 : sumZ c (G c) = sumZ c (fun d => G' c d + e d) := sumZ_congr fun d hd => h1 d hd
      have e2 : sumZ c (fun d => if d = c then 0 else e d) = sumZ c e := sumZ_congr fun d hd => by rw [if_neg (by omega)]
      rw [e1, sumZ_add, e2]
      omega
    · have ih := tri_diff h h1 h2 (n := n) (by omega)
      have e1 : sumZ n (G n) = sumZ n (G' n) + e n := sumZ_upd (c := c) (by omega) (h2 n (by omega)) (fun d hd hne => h n d hd (fun e => hc e.symm) hne)
      rw [ih, e1, if_neg (fun e => hc e.symm)]
      omega
theorem wS_jobsF {j : Coast} : ∀ {o : List Nat} {f : Nat → Nat}, OrdF j f o → wS (jobsF j f o) = sumZ j.length fun b => wS (remC j f b)
  | [], f, ho => by
    have : sumZ j.length (fun b => wS (remC j f b)) = sumZ j.length (fun _ => 0) := sumZ_congr fun b hb => by
      have := ho.remLen hb
      rw [List.count_nil] at this
      rw [List.length_eq_zero_iff.1 this]; rfl
    rw [this, sumZ_zero]; rfl
  | c :: o, f, ho => by
    have ih := wS_jobsF ho.tail
    have hcl := ho.lt c (by simp)
    simp only [jobsF, wS_cons, ih]
    rw [sumZ_upd (F := fun b => wS (remC j f b)) (G := fun b => wS (remC j (upd f c 1) b)) (c := c) (d := ((j.getD c []).getD (f c) (0, 0)).2) hcl]
    · omega
    · rw [ho.head, wS_cons]; omega
    · intro b _ hne
      rw [remC_upd_ne hne]
theorem bound_le {j : Coast} (hp : ∀ c, c < j.length → ∀ x ∈ j.getD c [], 0 ≤ x.1 ∧ 0 ≤ x.2) : ∀ {o : List Nat} {f : Nat → Nat}, OrdF j f o → BR j f ≤ costS 0 (jobsF j f o)
  | [], f, ho => by
    have hnil : ∀ b, b < j.length → remC j f b = [] := fun b hb => by
      have := ho.remLen hb
      rw [List.count_nil] at this
      exact List.length_eq_zero_iff.1 this
    have : BR j f = sumZ j.length (fun _ => 0) := by
      unfold BR
      refine sumZ_congr fun b hb => ?_
      rw [hnil b hb]
      have e : sumZ b (fun c => PP [] (remC j f c)) = sumZ b (fun _ => 0) := sumZ_congr fun c _ => rfl
      rw [e, sumZ_zero]; rfl
    rw [this, sumZ_zero]; simp [jobsF, costS]
  | c :: o, f, ho => by
    have ih := bound_le hp ho.tail
    have hcl := ho.lt c (by simp)
    have hhd := ho.head
    have hw := wS_jobsF ho.tail
    obtain ⟨x, hx⟩ : ∃ x, x = (j.getD c []).getD (f c) (0, 0) := ⟨_, rfl⟩
    rw [← hx] at hhd
    have hx0 : 0 ≤ x.1 ∧ 0 ≤ x.2 := by
      refine hp c hcl x ?_
      have : x ∈ remC j f c := by rw [hhd]; simp
      exact List.mem_of_mem_drop this
    simp only [jobsF, costS]
    rw [← hx]
    rw [show (0 : Int) + x.1 = 0 + x.1 from rfl, costS_shift 0 x.1]
    have hB : BR j f = BR j (upd f c 1) + (x.2 * (0 + x.1) + x.1 * wS (remC j (upd f c 1) c)) + sumZ j.length (fun d => if d = c then 0 else P1 x (remC j f d)) := by
      unfold BR
      rw [sumZ_add, sumZ_add]
      have e1 : sumZ j.length (fun b => costS 0 (remC j f b)) = sumZ j.length (fun b => costS 0 (remC j (upd f c 1) b)) + (x.2 * (0 + x.1) + x.1 * wS (remC j (upd f c 1) c)) := by
        refine sumZ_upd hcl ?_ (fun b _ hne => by rw [remC_upd_ne hne])
        rw [hhd]
        simp only [costS]
        rw [costS_shift 0 x.1]
        omega
      have e2 := tri_diff (n := j.length) (c := c) (G := fun b d => PP (remC j f b) (remC j f d)) (G' := fun b d => PP (remC j (upd f c 1) b) (remC j (upd f c 1) d)) (e := fun d => P1 x (remC j f d))
        (fun b d _ hb hd => by rw [remC_upd_ne hb, remC_upd_ne hd])
        (fun d hd => by rw [hhd, PP_cons, remC_upd_ne (show d ≠ c by omega)]; omega)
        (fun b hb => by rw [hhd, PP_cons', remC_upd_ne (show b ≠ c by omega)]; omega) hcl
      rw [e1, e2]
      omega
    have hP : sumZ j.length (fun d => if d = c then 0 else P1 x (remC j f d)) + x.1 * wS (remC j (upd f c 1) c) ≤ x.1 * sumZ j.length (fun b => wS (remC j (upd f c 1) b)) := by
      have e3 : x.1 * sumZ j.length (fun b => wS (remC j (upd f c 1) b)) = sumZ j.length (fun b => x.1 * wS (remC j (upd f c 1) b)) := by
        generalize j.length = n
        induction n with
        | zero => simp [sumZ]
        | succ n ih2 => simp only [sumZ, Int.mul_add, ih2]
      rw [e3]
      have e4 : sumZ j.length (fun b => if b = c then x.1 * wS (remC j (upd f c 1) c) else P1 x (remC j f b)) = sumZ j.length (fun d => if d = c then 0 else P1 x (remC j f d)) + x.1 * wS (remC j (upd f c 1) c) :=
        sumZ_upd hcl (by simp) (fun b _ hne => by rw [if_neg hne, if_neg hne])
      rw [← e4]
      refine sumZ_le fun b hb => ?_
      split
      · next h => rw [h]; exact Int.le_refl _
      · next h => rw [← remC_upd_ne (k := 1) h]; exact P1_le _ _
    rw [hB, hw]
    rw [hw] at *
    omega
theorem boundO_BR (j : Coast) : boundO j = BR j (fun _ => 0) := by
  unfold boundO BR
  refine sumZ_congr fun b hb => ?_
  have hr : ∀ c, remC j (fun _ => 0) c = j.getD c [] := fun c => by simp [remC]
  rw [hr b]
  simp only [hr]
  unfold beachF rowF
  rw [sumZ_add]
  congr 1
  · -- within a beach
    have key : ∀ (l : List Job), sumZ l.length (fun i => sumZ (l.length - i) (fun k => (l.getD i (0, 0)).1 * (l.getD (i + k) (0, 0)).2)) = costS 0 l := by
      intro l
      induction l with
      | nil => rfl
      | cons x l ih =>
        have shift : ∀ (n : Nat) (F : Nat → Int), sumZ (n + 1) F = F 0 + sumZ n (fun i => F (i + 1)) := by
          intro n F
          induction n with
          | zero => simp [sumZ]
          | succ n ih => rw [sumZ, ih]; simp only [sumZ]; omega
        rw [List.length_cons, shift]
        simp only [costS]
        rw [costS_shift 0 x.1, ← ih]
        have e1 : sumZ l.length (fun i => sumZ (l.length + 1 - (i + 1)) (fun k => ((x :: l).getD (i + 1) (0, 0)).1 * ((x :: l).getD (i + 1 + k) (0, 0)).2)) = sumZ l.length (fun i => sumZ (l.length - i) (fun k => (l.getD i (0, 0)).1 * (l.getD (i + k) (0, 0)).2)) := by
          refine sumZ_congr fun i hi => ?_
          rw [show l.length + 1 - (i + 1) = l.length - i by omega]
          refine sumZ_congr fun k hk => ?_
          rw [List.getD_cons_succ, show i + 1 + k = (i + k) + 1 by omega, List.getD_cons_succ]
        have e2 : sumZ (l.length + 1 - 0) (fun k => ((x :: l).getD 0 (0, 0)).1 * ((x :: l).getD (0 + k) (0, 0)).2) = x.2 * (0 + x.1) + x.1 * wS l := by
          rw [Nat.sub_zero, shift]
          have e3 : sumZ l.length (fun i => ((x :: l).getD 0 (0, 0)).1 * ((x :: l).getD (0 + (i + 1)) (0, 0)).2) = sumZ l.length (fun i => x.1 * (l.getD i (0, 0)).2) := sumZ_congr fun i hi => by
            rw [Nat.zero_add, List.getD_cons_succ]; rfl
          have e4 : sumZ l.length (fun i => x.1 * (l.getD i (0, 0)).2) = (l.map fun y => x.1 * y.2).sum := sum_getD (F := fun y : Job => x.1 * y.2)
          have e5 : (l.map fun y => x.1 * y.2).sum = x.1 * wS l := by
            clear ih e1 e3 e4
            induction l with
            | nil => simp [wS]
            | cons y l ih => simp only [List.map_cons, List.sum_cons, wS_cons, ih, Int.mul_add]
          rw [e3, e4, e5]
          show x.1 * x.2 + x.1 * wS l = x.2 * (0 + x.1) + x.1 * wS l
          rw [Int.zero_add, Int.mul_comm]
        rw [e1, e2]
        omega
    exact key (j.getD b [])
  · rw [sumZ_comm]
    refine sumZ_congr fun c hc => ?_
    have e1 : PP (j.getD b []) (j.getD c []) = sumZ (j.getD b []).length (fun i => P1 ((j.getD b []).getD i (0, 0)) (j.getD c [])) := (sum_getD (F := fun x => P1 x (j.getD c []))).symm
    rw [e1]
    refine sumZ_congr fun i hi => ?_
    exact sum_getD (F := minJ ((j.getD b []).getD i (0, 0)))
theorem CoastOk.pos {j : Coast} (hj : CoastOk j) : ∀ c, c < j.length → ∀ x ∈ j.getD c [], 0 ≤ x.1 ∧ 0 ≤ x.2 := fun c hc x hx => by
  have := (hj.jobs c hc).1.mem hx; omega
theorem bound_least {j : Coast} (hj : CoastOk j) : boundO j ≤ leastO j := by
  unfold leastO
  rw [harm_costS, boundO_BR]
  exact bound_le hj.pos (bestO_ord hj)
end Go.Proofs.Ytjijjncddjkdlaa

/- Shore: lists backwards; calls on beaches turned round. -/
namespace Go.Proofs.Ytjijjncddjkdlaa
open Go.RowKit
set_option linter.unusedVariables false
set_option linter.unusedSimpArgs false
/-- Names of beaches that lie as rows of one's own. -/
def turR (lab oa n B : Nat) : Rn := (0, some lab) :: (21, some oa) :: shiftR 1 B n
theorem turR_be {lab oa n B i : Nat} (hi : i < n) (hn : n ≤ 20) : renL (turR lab oa n B) (1 + i) = some (i + B) := by
  simp only [turR, renL, beq_ne (show 0 ≠ 1 + i by omega), beq_ne (show 21 ≠ 1 + i by omega), cond_false]
  rw [renL_shift, if_pos (by omega)]
  congr 1; omega
theorem turR_sls {lab oa n B : Nat} (hn : n ≤ 20) : ∀ {m : Nat} {t : Coast}, m + t.length ≤ n → seqO ((slsC (1 + m) t).map (C.ren (turR lab oa n B))) = some (famS List.length (m + B) t)
  | m, [], _ => rfl
  | m, x :: r, h => by
    simp only [List.length_cons] at h
    have ih := turR_sls (lab := lab) (oa := oa) (B := B) hn (m := m + 1) (t := r) (by omega)
    simp only [slsC, List.map_cons, C.ren, turR_be (show m < n by omega) hn, seqO, famS]
    rw [show 1 + m + 1 = 1 + (m + 1) by omega, ih, show m + 1 + B = m + B + 1 by omega]
structure HasT (L : List E) (lab B : Nat) (t : Coast) : Prop where
  sl : find L lab = some ⟨lab, .vec 31 1, famS List.length B t⟩
  be : ∀ i, i < t.length → find L (i + B) = some ⟨i + B, rowJ, jobC (t.getD i [])⟩
theorem HasT.ro {L : List E} {lab B oa : Nat} {t : Coast} {o : List Int} {ko : Kd} (h : HasT L lab B t) (ht : Sized t) (ho : find L oa = some ⟨oa, ko, o.map C.i⟩) : roL (turR lab oa t.length B) 32 L (⟨0, .ro 1, slsC 1 t⟩ :: ⟨21, .ro 0, o.map C.i⟩ :: entC 1 t) := by
  have := ht.len
  have hs := turR_sls (lab := lab) (oa := oa) (B := B) ht.len (m := 0) (t := t) (by omega)
  rw [Nat.zero_add] at hs
  refine ⟨⟨Nat.le_of_ble_eq_true rfl, wf_sls _ _ _ (by omega), .vec 31 1, _, h.sl, .inr rfl, hs⟩, ⟨Nat.le_of_ble_eq_true rfl, wf_ints _ _, ko, _, ho, .inl rfl, ren_ints _ _⟩, roL_all fun e he => ?_⟩
  obtain ⟨i, hi, rfl⟩ := entC_mem he
  unfold roE
  simp only [turR_be hi ht.len]
  exact ⟨by omega, wf_jobs _ _, rowJ, _, h.be i hi, .inr rfl, ren_jobs _ _⟩
end Go.Proofs.Ytjijjncddjkdlaa

/- Shore: the reference's Same, where both lists are the same. -/
namespace Go.Proofs.Ytjijjncddjkdlaa
open Go.RowKit
set_option linter.unusedVariables false
set_option linter.unusedSimpArgs false
end Go.Proofs.Ytjijjncddjkdlaa

/- Shore: the reference's Turned. -/
namespace Go.Proofs.Ytjijjncddjkdlaa
open Go.RowKit
set_option linter.unusedVariables false
set_option linter.unusedSimpArgs false
end Go.Proofs.Ytjijjncddjkdlaa

/- Shore: two lists of beaches that lie as rows of one's own, held against each other. -/
namespace Go.Proofs.Ytjijjncddjkdlaa
open Go.RowKit
set_option linter.unusedVariables false
set_option linter.unusedSimpArgs false
theorem slsC_ren {R : Rn} {b B n : Nat} (hR : ∀ i, i < n → renL R (b + i) = some (i + B)) : ∀ {m : Nat} {t : Coast}, m + t.length ≤ n → seqO ((slsC (b + m) t).map (C.ren R)) = some (famS List.length (m + B) t)
  | m, [], _ => rfl
  | m, x :: r, h => by
    simp only [List.length_cons] at h
    have ih := slsC_ren (R := R) (b := b) (B := B) (n := n) hR (m := m + 1) (t := r) (by omega)
    simp only [slsC, List.map_cons, C.ren, hR m (by omega), seqO, famS]
    rw [show b + m + 1 = b + (m + 1) by omega, ih, show m + 1 + B = m + B + 1 by omega]
theorem renL_app {l : Nat} {Q : Rn} : ∀ {R : Rn}, (∀ p ∈ R, p.1 ≠ l) → renL (R ++ Q) l = renL Q l
  | [], _ => rfl
  | p :: R, h => by
    simp only [List.cons_append, renL, beq_ne (h p (by simp)), cond_false]
    exact renL_app fun q hq => h q (by simp [hq])
theorem renL_shift_app {b c l n : Nat} {Q : Rn} (h : b ≤ l ∧ l < b + n) : renL (shiftR b c n ++ Q) l = some (l - b + c) := by
  have key : ∀ {r : List Nat}, (∃ k ∈ r, k + b = l) → renL ((r.map fun k => (k + b, some (k + c))) ++ Q) l = some (l - b + c) := by
    intro r
    induction r with
    | nil => rintro ⟨k, hk, _⟩; cases hk
    | cons a r ih =>
      rintro ⟨k, hk, he⟩
      simp only [List.map_cons, List.cons_append, renL]
      by_cases ha : a + b = l
      · rw [ha, Nat.beq_refl, cond_true]; congr 1; omega
      · rw [beq_ne ha, cond_false]
        refine ih ⟨k, ?_, he⟩
        rcases List.mem_cons.1 hk with rfl | hk
        · exact absurd he ha
        · exact hk
  exact key ⟨l - b, List.mem_range.2 (by omega), by omega⟩
/-- Names of two lists of beaches. -/
def samR (la Ba lb Bb n : Nat) : Rn := (0, some la) :: (21, some lb) :: (shiftR 1 Ba n ++ shiftR 22 Bb n)
theorem samR_1 {la Ba lb Bb n i : Nat} (hi : i < n) (hn : n ≤ 20) : renL (samR la Ba lb Bb n) (1 + i) = some (i + Ba) := by
  simp only [samR, renL, beq_ne (show 0 ≠ 1 + i by omega), beq_ne (show 21 ≠ 1 + i by omega), cond_false]
  rw [renL_shift_app (by omega)]; congr 1; omega
theorem samR_2 {la Ba lb Bb n i : Nat} (hi : i < n) (hn : n ≤ 20) : renL (samR la Ba lb Bb n) (22 + i) = some (i + Bb) := by
  simp only [samR, renL, beq_ne (show 0 ≠ 22 + i by omega), beq_ne (show 21 ≠ 22 + i by omega), cond_false]
  rw [renL_app, renL_shift, if_pos (by omega)]
  · congr 1; omega
  · intro p hp
    obtain ⟨k, hk, rfl⟩ := List.mem_map.1 hp
    have := List.mem_range.1 hk
    simp only; omega
/-- Beaches that came in, or that lie as rows of one's own. -/
structure HasU (L : List E) (lab B : Nat) (t : Coast) : Prop where
  sl : ∃ k, find L lab = some ⟨lab, k, famS List.length B t⟩ ∧ k.z = some 1
  be : ∀ i, i < t.length → ∃ k, find L (i + B) = some ⟨i + B, k, jobC (t.getD i [])⟩ ∧ k.z = some 2
theorem HasT.u {L : List E} {lab B : Nat} {t : Coast} (h : HasT L lab B t) : HasU L lab B t := ⟨⟨_, h.sl, rfl⟩, fun i hi => ⟨_, h.be i hi, rfl⟩⟩
theorem slsC_fam : ∀ {b : Nat} {j : Coast}, slsC b j = famS List.length b j
  | _, [] => rfl
  | b, x :: r => by simp only [slsC, famS, slsC_fam (b := b + 1) (j := r)]
theorem HasC.u {L : List E} {j : Coast} (h : HasC L j) : HasU L 0 1 j := ⟨⟨_, by rw [← slsC_fam]; exact h.sl, rfl⟩, fun i hi => ⟨.ro 2, by rw [Nat.add_comm]; exact h.be i hi, rfl⟩⟩
theorem HasU.same {L : List E} {la Ba lb Bb : Nat} {t : Coast} (h : HasU L la Ba t) (h2 : HasU L lb Bb t) (ht : Sized t) : roL (samR la Ba lb Bb t.length) 43 L (⟨0, .ro 1, slsC 1 t⟩ :: ⟨21, .ro 1, slsC 22 t⟩ :: (entC 1 t ++ entC 22 t)) := by
  have h20 := ht.len
  have hs := slsC_ren (R := samR la Ba lb Bb t.length) (b := 1) (B := Ba) (n := t.length) (fun i hi => samR_1 hi h20) (m := 0) (t := t) (by omega)
  have hs2 := slsC_ren (R := samR la Ba lb Bb t.length) (b := 22) (B := Bb) (n := t.length) (fun i hi => samR_2 hi h20) (m := 0) (t := t) (by omega)
  rw [Nat.zero_add] at hs hs2
  obtain ⟨k1, e1, z1⟩ := h.sl
  obtain ⟨k2, e2, z2⟩ := h2.sl
  refine ⟨⟨Nat.le_of_ble_eq_true rfl, wf_sls _ _ _ (by omega), k1, _, e1, .inr z1, hs⟩, ⟨Nat.le_of_ble_eq_true rfl, wf_sls _ _ _ (by omega), k2, _, e2, .inr z2, hs2⟩, roL_all fun e he => ?_⟩
  rcases List.mem_append.1 he with he | he
  · obtain ⟨i, hi, rfl⟩ := entC_mem he
    obtain ⟨k, e3, z3⟩ := h.be i hi
    unfold roE
    simp only [samR_1 hi h20]
    exact ⟨by omega, wf_jobs _ _, k, _, e3, .inr z3, ren_jobs _ _⟩
  · obtain ⟨i, hi, rfl⟩ := entC_mem he
    obtain ⟨k, e3, z3⟩ := h2.be i hi
    unfold roE
    simp only [samR_2 hi h20]
    exact ⟨by omega, wf_jobs _ _, k, _, e3, .inr z3, ren_jobs _ _⟩
end Go.Proofs.Ytjijjncddjkdlaa

/- Shore, plain: a beach for each job: the bound is the least harm, and without order nothing is worse. -/
namespace Go.Proofs.Ytjijjncddjkdlaa
open Go.RowKit
set_option linter.unusedVariables false
set_option linter.unusedSimpArgs false
theorem P1_eq {x : Job} : ∀ {l : List Job}, (∀ y ∈ l, x.1 * y.2 ≤ y.1 * x.2) → P1 x l = x.1 * wS l
  | [], _ => by simp [P1, wS]
  | y :: l, h => by
    have ih := P1_eq (x := x) (l := l) fun z hz => h z (by simp [hz])
    have h1 : minJ x y = x.1 * y.2 := by
      have := h y (by simp)
      unfold minJ; rw [if_neg (by omega)]
    simp only [P1, List.map_cons, List.sum_cons] at *
    rw [ih, h1, wS_cons, Int.mul_add]
theorem BR_step {j : Coast} {c : Nat} {f : Nat → Nat} {x : Job} (hcl : c < j.length) (hhd : remC j f c = x :: remC j (upd f c 1) c) : BR j f = BR j (upd f c 1) + (x.2 * (0 + x.1) + x.1 * wS (remC j (upd f c 1) c)) + sumZ j.length (fun d => if d = c then 0 else P1 x (remC j f d)) := by
  unfold BR
  rw [sumZ_add, sumZ_add]
  have e1 : sumZ j.length (fun b => costS 0 (remC j f b)) = sumZ j.length (fun b => costS 0 (remC j (upd f c 1) b)) + (x.2 * (0 + x.1) + x.1 * wS (remC j (upd f c 1) c)) := by
    refine sumZ_upd hcl ?_ (fun b _ hne => by rw [remC_upd_ne hne])
    rw [hhd]
    simp only [costS]
    rw [costS_shift 0 x.1]
    omega
  have e2 := tri_diff (n := j.length) (c := c) (G := fun b d => PP (remC j f b) (remC j f d)) (G' := fun b d => PP (remC j (upd f c 1) b) (remC j (upd f c 1) d)) (e := fun d => P1 x (remC j f d))
    (fun b d _ hb hd => by rw [remC_upd_ne hb, remC_upd_ne hd])
    (fun d hd => by rw [hhd, PP_cons, remC_upd_ne (show d ≠ c by omega)]; omega)
    (fun b hb => by rw [hhd, PP_cons', remC_upd_ne (show b ≠ c by omega)]; omega) hcl
  rw [e1, e2]
  omega
theorem bound_ge {j : Coast} {f : Nat → Nat} {o : List Nat} (h : LedF j f o) : (∀ c, c < j.length → (remC j f c).length ≤ 1) → costS 0 (jobsF j f o) ≤ BR j f := by
  induction h with
  | @nil f hd =>
    intro _
    have hnil : ∀ b, b < j.length → remC j f b = [] := fun b hb => by
      unfold remC; rw [hd b hb]; simp
    have : BR j f = sumZ j.length (fun _ => 0) := by
      unfold BR
      refine sumZ_congr fun b hb => ?_
      rw [hnil b hb]
      have e : sumZ b (fun c => PP [] (remC j f c)) = sumZ b (fun _ => 0) := sumZ_congr fun c _ => rfl
      rw [e, sumZ_zero]; rfl
    rw [this, sumZ_zero]; simp [jobsF, costS]
  | @cons f c k o ht hl ih =>
    intro h1
    have hcl := ht.lt
    have hk : k = 1 := by
      have h2 := h1 c hcl
      have h3 := ht.le
      have h4 := ht.k1
      unfold remC at h2
      rw [List.length_drop] at h2; omega
    subst hk
    have hord := (LedF.cons ht hl).ord
    rw [show List.replicate 1 c ++ o = c :: o from rfl] at hord ⊢
    have hhd := hord.head
    have hw := wS_jobsF hord.tail
    obtain ⟨x, hx⟩ : ∃ x, x = (j.getD c []).getD (f c) (0, 0) := ⟨_, rfl⟩
    rw [← hx] at hhd
    have hB := BR_step hcl hhd
    have hemp : remC j (upd f c 1) c = [] := by
      have := h1 c hcl
      rw [hhd, List.length_cons] at this
      exact List.length_eq_zero_iff.1 (by omega)
    have ih' := ih fun d hd => by
      by_cases hdc : d = c
      · rw [hdc, hemp]; simp
      · rw [remC_upd_ne hdc]; exact h1 d hd
    have hm := ht.most
    rw [hhd] at hm
    have hxs : hS ((x :: remC j (upd f c 1) c).take 1) = x.1 ∧ wS ((x :: remC j (upd f c 1) c).take 1) = x.2 := by simp [hS, wS]
    rw [hxs.1, hxs.2] at hm
    have hP : ∀ d, d < j.length → d ≠ c → P1 x (remC j f d) = x.1 * wS (remC j f d) := fun d hd _ => P1_eq fun y hy => by
      have h2 := h1 d hd
      have h3 : remC j f d = [y] := by
        cases hr : remC j f d with
        | nil => rw [hr] at hy; cases hy
        | cons z r =>
          rw [hr] at hy h2
          rw [List.length_cons] at h2
          have : r = [] := List.length_eq_zero_iff.1 (by omega)
          subst this
          rw [List.mem_singleton.1 hy]
      have h4 := hm d hd 1
      rw [h3] at h4
      have h5 : wS ([y].take 1) = y.2 ∧ hS ([y].take 1) = y.1 := by simp [wS, hS]
      rw [h5.1, h5.2] at h4
      have e1 : y.2 * x.1 = x.1 * y.2 := Int.mul_comm _ _
      have e2 : x.2 * y.1 = y.1 * x.2 := Int.mul_comm _ _
      omega
    simp only [jobsF, costS]
    rw [← hx]
    rw [show (0 : Int) + x.1 = 0 + x.1 from rfl, costS_shift 0 x.1, hw, hB, hemp]
    have hsum : x.1 * sumZ j.length (fun b => wS (remC j (upd f c 1) b)) = sumZ j.length (fun d => if d = c then 0 else P1 x (remC j f d)) := by
      have e3 : x.1 * sumZ j.length (fun b => wS (remC j (upd f c 1) b)) = sumZ j.length (fun b => x.1 * wS (remC j (upd f c 1) b)) := by
        generalize j.length = n
        induction n with
        | zero => simp [sumZ]
        | succ n ih2 => simp only [sumZ, Int.mul_add, ih2]
      rw [e3]
      refine sumZ_congr fun b hb => ?_
      by_cases hbc : b = c
      · rw [if_pos hbc, hbc, hemp]; simp [wS]
      · rw [if_neg hbc, hP b hb hbc, remC_upd_ne hbc]
    rw [hsum]
    simp only [wS, List.map_nil, List.sum_nil, Int.mul_zero]
    omega
/-- Where no beach has more than one job, the pairs' bound is the least harm. -/
theorem bound_one {j : Coast} (hj : CoastOk j) (h1 : ∀ c, c < j.length → (j.getD c []).length ≤ 1) : boundO j = leastO j := by
  have h2 := bound_least hj
  have h3 := bound_ge (bestO_led hj) fun c hc => by simpa [remC] using h1 c hc
  rw [← boundO_BR] at h3
  have h4 : leastO j = costS 0 (jobsF j (fun _ => 0) (bestO j)) := by unfold leastO; rw [harm_costS]
  omega
/-! A beach for each job. -/
def flR (j : Coast) (f : Nat → Nat) : Nat → List Job
  | 0 => []
  | n + 1 => flR j f n ++ remC j f n
end Go.Proofs.Ytjijjncddjkdlaa

/- Shore, plain: how many orders there are, and that each next one leaves one less. -/
namespace Go.Proofs.Ytjijjncddjkdlaa
open Go.RowKit
set_option linter.unusedVariables false
set_option linter.unusedSimpArgs false
/-! Ways by Pascal's triangle. -/
noncomputable def chN : Nat → Nat → Nat
  | 0 => fun _ => 1
  | m + 1 => fun i => Nat.rec 1 (fun i r => chN m (i + 1) + r) i
def fct : Nat → Nat
  | 0 => 1
  | n + 1 => fct n * (n + 1)
def prF (f : Nat → Nat) : Nat → Nat
  | 0 => 1
  | b + 1 => prF f b * fct (f b)
/-! Sums. -/
def smN (F : Nat → Nat) : Nat → Nat
  | 0 => 0
  | n + 1 => smN F n + F n
theorem smN_congr {F H : Nat → Nat} : ∀ {n}, (∀ i, i < n → F i = H i) → smN F n = smN H n
  | 0, _ => rfl
  | n + 1, h => by simp only [smN]; rw [smN_congr (n := n) fun i hi => h i (by omega), h n (by omega)]
/-! Orders of numbers, by how often each stands. -/
def decF (f : Nat → Nat) (y : Nat) : Nat → Nat := fun z => if z = y then f z - 1 else f z
def tpN (n : Nat) : Nat → (Nat → Nat) → Nat
  | 0, _ => 1
  | s + 1, f => smN (fun y => if 0 < f y then tpN n s (decF f y) else 0) n
/-- How many numbers of each kind. -/
def cnF (o : List Int) : Nat → Nat := fun y => o.count (y : Int)
/-- How many orders of the same numbers come behind one. -/
def rkN (n : Nat) : List Int → Nat
  | [] => 0
  | x :: r => smN (fun y => if x < (y : Int) ∧ 0 < cnF (x :: r) y then tpN n r.length (decF (cnF (x :: r)) y) else 0) n + rkN n r
end Go.Proofs.Ytjijjncddjkdlaa

/- Shore: lists turned in place; ranges backwards over numbers. -/
namespace Go.Proofs.Ytjijjncddjkdlaa
open Go.RowKit
set_option linter.unusedVariables false
set_option linter.unusedSimpArgs false
/-- A part of a list, turned at its first x places. -/
def revX {α : Type} (l : List α) (d : α) (o n x : Nat) : List α := (List.range l.length).map fun j => if (o ≤ j ∧ j < o + n) ∧ (j < o + x ∨ o + n ≤ j + x) then l.getD (2 * o + n - 1 - j) d else l.getD j d
/-- A tail of which nothing is known but that it is not turned. -/
structure TailC (T : List E) (a nx : Nat) : Prop where
  nd : (T.map E.lab).Nodup
  lab : ∀ e ∈ T, e.lab ≠ a ∧ e.lab < nx
  wf : ∀ e ∈ T, ∀ c ∈ e.cs, c.wf nx
  ob : ∀ e ∈ T, ∀ m, nx ≤ m → m ≠ e.lab
end Go.Proofs.Ytjijjncddjkdlaa

/- Shore: Next. -/
namespace Go.Proofs.Ytjijjncddjkdlaa
open Go.RowKit
set_option linter.unusedVariables false
set_option linter.unusedSimpArgs false
/-- The last place with a greater number behind it. -/
structure PivAt (o : List Int) (k : Nat) : Prop where
  lt : k + 1 < o.length
  up : o.getD k 0 < o.getD (k + 1) 0
  rest : ∀ m, k < m → m + 1 < o.length → o.getD m 0 ≥ o.getD (m + 1) 0
def NoPiv (o : List Int) : Prop := ∀ m, m + 1 < o.length → o.getD m 0 ≥ o.getD (m + 1) 0
/-- The last number behind it that is greater. -/
structure LastAt (o : List Int) (k i : Nat) : Prop where
  gt : k < i
  lt : i < o.length
  up : o.getD k 0 < o.getD i 0
  rest : ∀ m, i < m → m < o.length → ¬ o.getD k 0 < o.getD m 0
def nextR (o : List Int) (k i : Nat) : List Int := revX ((o.set k (o.getD i 0)).set i (o.getD k 0)) 0 (k + 1) (o.length - (k + 1)) (o.length - (k + 1))
end Go.Proofs.Ytjijjncddjkdlaa

/- Shore: Next, walked. -/
namespace Go.Proofs.Ytjijjncddjkdlaa
open Go.RowKit
set_option linter.unusedVariables false
set_option linter.unusedSimpArgs false
end Go.Proofs.Ytjijjncddjkdlaa

/- Shore: Next where there is no next order, and its errors. -/
namespace Go.Proofs.Ytjijjncddjkdlaa
open Go.RowKit
set_option linter.unusedVariables false
set_option linter.unusedSimpArgs false
end Go.Proofs.Ytjijjncddjkdlaa

/- Shore: the reference's sorted. -/
namespace Go.Proofs.Ytjijjncddjkdlaa
open Go.RowKit
set_option linter.unusedVariables false
set_option linter.unusedSimpArgs false
/-- The numbers v among the first i of a part. -/
def cntI (ls : List Int) (o : Nat) (v : Nat) : Nat → List Int
  | 0 => []
  | i + 1 => cntI ls o v i ++ (if ls.getD (o + i) 0 = v then [(v : Int)] else [])
/-- A part's numbers below v, in order. -/
def srtV (ls : List Int) (o n : Nat) : Nat → List Int
  | 0 => []
  | v + 1 => srtV ls o n v ++ cntI ls o v n
end Go.Proofs.Ytjijjncddjkdlaa

/- Shore: the reference's Swap. -/
namespace Go.Proofs.Ytjijjncddjkdlaa
open Go.RowKit
set_option linter.unusedVariables false
set_option linter.unusedSimpArgs false
end Go.Proofs.Ytjijjncddjkdlaa

/- The order that comes next. Plain law. -/
namespace Go.Proofs.Ytjijjncddjkdlaa
open Go.RowKit
set_option linter.unusedVariables false
set_option linter.unusedSimpArgs false
/-- The numbers behind the place, turned, with one exchanged. -/
def swK (o : List Int) (k i : Nat) : List Int := (o.set k (o.getD i 0)).set i (o.getD k 0)
/-- What the reference answers: the place, the first of the least greater numbers behind it, and the rest in order. -/
structure LeastAt (o : List Int) (k l : Nat) : Prop where
  gt : k < l
  lt : l < o.length
  up : o.getD k 0 < o.getD l 0
  least : ∀ m, k < m → m < o.length → o.getD k 0 < o.getD m 0 → o.getD l 0 ≤ o.getD m 0
/-- Numbers below six, in order. -/
def sortL (l : List Int) : List Int := ((List.range 6).map fun (n : Nat) => List.replicate (l.count (n : Int)) (n : Int)).flatten
def nextRef (o : List Int) (k l : Nat) : List Int := o.take k ++ [o.getD l 0] ++ sortL (((o.drop k).set (l - k) (o.getD k 0)).drop 1)
end Go.Proofs.Ytjijjncddjkdlaa

/- Shore: the reference's Next. -/
namespace Go.Proofs.Ytjijjncddjkdlaa
open Go.RowKit
set_option linter.unusedVariables false
set_option linter.unusedSimpArgs false
/-- The place of the least greater number among the i behind place k, or -1. -/
def lsF (o : List Int) (k : Nat) : Nat → Int
  | 0 => -1
  | i + 1 => if o.getD k 0 < o.getD (k + 1 + i) 0 ∧ (lsF o k i < 0 ∨ o.getD (k + 1 + i) 0 < o.getD (lsF o k i).toNat 0) then ((k + 1 + i : Nat) : Int) else lsF o k i
end Go.Proofs.Ytjijjncddjkdlaa

/- Shore: the reference's Next where a next order is. -/
namespace Go.Proofs.Ytjijjncddjkdlaa
open Go.RowKit
set_option linter.unusedVariables false
set_option linter.unusedSimpArgs false
/-- What stays behind the place, before it is put in order. -/
def leftF (o : List Int) (k l : Nat) : List Int := (o.drop k).set (l - k) (o.getD k 0)
def rnextF (o : List Int) (k l : Nat) : List Int := o.take k ++ [o.getD l 0] ++ srtV (leftF o k l) 1 (o.length - k - 1) 6
/-- The cells of the part behind a place, copied. -/
def LC (o : List Int) (a : Nat) : List C := repC 0 [C.i 0] ++ ((((o.map C.i).drop (((a : Nat) : Int).toNat * (0 + 1))).take ((o.length - ((a : Nat) : Int).toNat) * (0 + 1))).take ((o.length - ((a : Nat) : Int).toNat) * 1))
end Go.Proofs.Ytjijjncddjkdlaa

/- The order that comes next: both answers are the same. Plain law. -/
namespace Go.Proofs.Ytjijjncddjkdlaa
open Go.RowKit
set_option linter.unusedVariables false
set_option linter.unusedSimpArgs false
end Go.Proofs.Ytjijjncddjkdlaa

/- Shore: the reference's First. -/
namespace Go.Proofs.Ytjijjncddjkdlaa
open Go.RowKit
set_option linter.unusedVariables false
set_option linter.unusedSimpArgs false
/-- The first order: beach by beach. -/
def firstL (j : Coast) : Nat → List Int
  | 0 => []
  | b + 1 => firstL j b ++ List.replicate (j.getD b []).length (b : Int)
end Go.Proofs.Ytjijjncddjkdlaa

/- Shore, plain: the orders come to one after the other. -/
namespace Go.Proofs.Ytjijjncddjkdlaa
open Go.RowKit
set_option linter.unusedVariables false
set_option linter.unusedSimpArgs false
theorem smN_many {j : Coast} : ∀ {b : Nat}, b ≤ j.length → smN (fun c => (j.getD c []).length) b = manyN j b
  | 0, _ => by simp [smN, manyN]
  | b + 1, h => by simp only [smN]; rw [smN_many (by omega), manyN_succ (by omega)]
end Go.Proofs.Ytjijjncddjkdlaa

/- Shore: the most harm that an order of what is left can do, and the program's memory of it. Plain law. -/
namespace Go.Proofs.Ytjijjncddjkdlaa
open Go.RowKit
set_option linter.unusedVariables false
set_option linter.unusedSimpArgs false
/-- Counts of what is done: in bounds. -/
def DOk (j : Coast) (d : Nat → Nat) : Prop := (∀ b, b < j.length → d b ≤ (j.getD b []).length) ∧ ∀ b, j.length ≤ b → d b = 0
theorem DOk.up {j : Coast} {d : Nat → Nat} (h : DOk j d) {b : Nat} (hb : b < j.length) (hlt : d b < (j.getD b []).length) : DOk j (upd d b 1) := by
  refine ⟨fun c hc => ?_, fun c hc => ?_⟩
  · by_cases e : c = b
    · subst e; rw [upd_same]; omega
    · rw [upd_ne e]; exact h.1 c hc
  · rw [upd_ne (by omega)]; exact h.2 c hc
def jobD (j : Coast) (d : Nat → Nat) (b : Nat) : Job := (j.getD b []).getD (d b) (0, 0)
def hourD (j : Coast) (d : Nat → Nat) : Int := sumZ j.length fun b => hS ((j.getD b []).take (d b))
def remD (j : Coast) (d : Nat → Nat) : Nat := smN (fun b => (j.getD b []).length - d b) j.length
def stepD (j : Coast) (d : Nat → Nat) (b : Nat) : Int := (jobD j d b).2 * (hourD j d + (jobD j d b).1)
theorem smN_upd {F G : Nat → Nat} {c : Nat} : ∀ {n : Nat}, c < n → F c = G c + 1 → (∀ i, i < n → i ≠ c → F i = G i) → smN F n = smN G n + 1
  | n + 1, hc, h1, h2 => by
    simp only [smN]
    by_cases he : c = n
    · subst he
      rw [smN_congr (n := c) (fun i hi => h2 i (by omega) (by omega)), h1]; omega
    · rw [smN_upd (n := n) (by omega) h1 (fun i hi => h2 i (by omega)), h2 n (by omega) (fun e => he e.symm)]; omega
theorem rem_up {j : Coast} {d : Nat → Nat} {b : Nat} (hb : b < j.length) (hlt : d b < (j.getD b []).length) : remD j d = remD j (upd d b 1) + 1 :=
  smN_upd hb (by rw [upd_same]; omega) fun i _ hi => by rw [upd_ne hi]
theorem hour_up {j : Coast} {d : Nat → Nat} {b : Nat} (hb : b < j.length) (hlt : d b < (j.getD b []).length) : hourD j (upd d b 1) = hourD j d + (jobD j d b).1 :=
  sumZ_upd hb (by
    rw [upd_same, take_succ_getD (d := (0, 0)) hlt, hS_app, hS_cons, hS_nil]
    unfold jobD; omega) fun i _ hi => by rw [upd_ne hi]
theorem hour_zero (j : Coast) : hourD j (fun _ => 0) = 0 := by
  unfold hourD
  rw [sumZ_congr (G := fun _ => 0) fun i _ => by simp [hS]]; exact sumZ_zero
theorem jobD_bd {j : Coast} (hj : CoastOk j) {d : Nat → Nat} {b : Nat} (hb : b < j.length) (hlt : d b < (j.getD b []).length) : 1 ≤ (jobD j d b).1 ∧ (jobD j d b).1 ≤ 100 ∧ 0 ≤ (jobD j d b).2 ∧ (jobD j d b).2 ≤ 100 :=
  (hj.jobs b hb).1 _ hlt
theorem hS_take_bd {l : List Job} (hl : JobsOk l) : ∀ n, n ≤ l.length → 0 ≤ hS (l.take n) ∧ hS (l.take n) ≤ 100 * n
  | 0, _ => by simp [hS]
  | n + 1, h => by
    have h1 := hS_take_bd hl n (by omega)
    have h2 := hl n (by omega)
    rw [take_succ_getD (d := (0, 0)) (by omega), hS_app, hS_cons, hS_nil]; omega
theorem hour_bd {j : Coast} (hj : CoastOk j) {d : Nat → Nat} (hd : DOk j d) : 0 ≤ hourD j d ∧ hourD j d ≤ 100 * (manyN j j.length : Int) := by
  rw [← smN_many (Nat.le_refl _)]
  have : ∀ n, n ≤ j.length → 0 ≤ sumZ n (fun b => hS ((j.getD b []).take (d b))) ∧ sumZ n (fun b => hS ((j.getD b []).take (d b))) ≤ 100 * (smN (fun c => (j.getD c []).length) n : Int) := by
    intro n
    induction n with
    | zero => intro _; exact ⟨Int.le_refl _, Int.le_refl _⟩
    | succ n ih =>
      intro hn
      have h1 := ih (by omega)
      have h2 := hS_take_bd (hj.jobs n (by omega)).1 (d n) (hd.1 n (by omega))
      have h3 := hd.1 n (by omega)
      simp only [sumZ, smN]; omega
  exact this _ (Nat.le_refl _)
/-- The most of the steps that can be taken. -/
def mostG (j : Coast) (d : Nat → Nat) (g : Nat → Int) : Nat → Int
  | 0 => 0
  | k + 1 => if d k < (j.getD k []).length then max (mostG j d g k) (g k) else mostG j d g k
def worstN (j : Coast) : Nat → (Nat → Nat) → Int
  | 0, _ => 0
  | r + 1, d => mostG j d (fun b => stepD j d b + worstN j r (upd d b 1)) j.length
def worstD (j : Coast) (d : Nat → Nat) : Int := worstN j (remD j d) d
def worstG (j : Coast) (d : Nat → Nat) (b : Nat) : Int := stepD j d b + worstD j (upd d b 1)
theorem mostG_congr {j : Coast} {d d' : Nat → Nat} {g g' : Nat → Int} : ∀ {n : Nat}, (∀ b, b < n → d b = d' b) → (∀ b, b < n → d b < (j.getD b []).length → g b = g' b) → mostG j d g n = mostG j d' g' n
  | 0, _, _ => rfl
  | n + 1, h1, h2 => by
    simp only [mostG]
    rw [mostG_congr (n := n) (fun b hb => h1 b (by omega)) (fun b hb => h2 b (by omega)), ← h1 n (by omega)]
    split
    · next h => rw [h2 n (by omega) h]
    · rfl
theorem mostG_none {j : Coast} {d : Nat → Nat} {g : Nat → Int} : ∀ {n : Nat}, (∀ b, b < n → ¬ d b < (j.getD b []).length) → mostG j d g n = 0
  | 0, _ => rfl
  | n + 1, h => by simp only [mostG]; rw [if_neg (h n (by omega))]; exact mostG_none fun b hb => h b (by omega)
theorem worst_eq (j : Coast) (d : Nat → Nat) : worstD j d = mostG j d (worstG j d) j.length := by
  unfold worstD
  cases hr : remD j d with
  | zero =>
    refine (mostG_none fun b hb hlt => ?_).symm
    have := rem_up hb hlt; omega
  | succ r =>
    refine mostG_congr (fun _ _ => rfl) fun b hb hlt => ?_
    have := rem_up hb hlt
    unfold worstG worstD
    rw [show remD j (upd d b 1) = r by omega]
theorem step_bd {j : Coast} (hj : CoastOk j) {d : Nat → Nat} (hd : DOk j d) {b : Nat} (hb : b < j.length) (hlt : d b < (j.getD b []).length) : 0 ≤ stepD j d b ∧ stepD j d b ≤ 10000 * (manyN j j.length : Int) + 10000 := by
  obtain ⟨h1, h2⟩ := hour_bd hj hd
  obtain ⟨h3, h4, h5, h6⟩ := jobD_bd hj hb hlt
  unfold stepD
  have h7 := Int.mul_nonneg h5 (show 0 ≤ hourD j d + (jobD j d b).1 by omega)
  have h8 := Int.mul_le_mul h6 (show hourD j d + (jobD j d b).1 ≤ 100 * (manyN j j.length : Int) + 100 by omega) (by omega) (by omega)
  exact ⟨h7, by omega⟩
theorem mostG_bd {j : Coast} {d : Nat → Nat} {g : Nat → Int} {M : Int} (hM : 0 ≤ M) : ∀ {n : Nat}, (∀ b, b < n → d b < (j.getD b []).length → g b ≤ M) → 0 ≤ mostG j d g n ∧ mostG j d g n ≤ M
  | 0, _ => ⟨Int.le_refl _, hM⟩
  | n + 1, h => by
    have h1 := mostG_bd hM (n := n) fun b hb => h b (by omega)
    simp only [mostG]
    split
    · next hlt => have := h n (by omega) hlt; omega
    · exact h1
theorem mostG_ge {j : Coast} {d : Nat → Nat} {g : Nat → Int} : ∀ {n : Nat} {b : Nat}, b < n → d b < (j.getD b []).length → g b ≤ mostG j d g n
  | n + 1, b, hb, hlt => by
    simp only [mostG]
    by_cases e : b = n
    · subst e; rw [if_pos hlt]; omega
    · have := mostG_ge (n := n) (g := g) (show b < n by omega) hlt
      split <;> omega
theorem worst_bd {j : Coast} (hj : CoastOk j) : ∀ (r : Nat) {d : Nat → Nat}, DOk j d → remD j d ≤ r → 0 ≤ worstD j d ∧ worstD j d ≤ (10000 * (manyN j j.length : Int) + 10000) * r
  | r, d, hd, hr => by
    have hM : 0 ≤ (10000 * (manyN j j.length : Int) + 10000) := by omega
    rw [worst_eq]
    refine mostG_bd (Int.mul_nonneg hM (by omega)) fun b hb hlt => ?_
    have h1 := rem_up hb hlt
    obtain ⟨r, rfl⟩ : ∃ k, r = k + 1 := ⟨r - 1, by omega⟩
    have h2 := worst_bd hj r (hd.up hb hlt) (by omega)
    have h3 := step_bd hj hd hb hlt
    unfold worstG
    rw [show ((r + 1 : Nat) : Int) = (r : Int) + 1 by omega, Int.mul_add, Int.mul_one]; omega
/-- No order of what is left costs more. -/
theorem worst_ge {j : Coast} : ∀ {o : List Nat} {d : Nat → Nat}, OrdF j d o → costS (hourD j d) (jobsF j d o) ≤ worstD j d
  | [], d, h => by
    rw [worst_eq, mostG_none fun b hb => by have := h.cnt b hb; rw [List.count_nil] at this; omega]
    exact Int.le_refl _
  | b :: o, d, h => by
    have hb := h.lt b (by simp)
    have hlt : d b < (j.getD b []).length := by have := h.cnt b hb; rw [List.count_cons, beq_self_eq_true, if_pos rfl] at this; omega
    have ih := worst_ge h.tail
    rw [hour_up hb hlt] at ih
    have h1 := mostG_ge (j := j) (d := d) (g := worstG j d) hb hlt
    rw [← worst_eq] at h1
    simp only [jobsF, costS]
    unfold worstG stepD jobD at h1
    unfold jobD at ih
    omega
/-- Counts as the program keeps them. -/
def encL (d : Nat → Nat) : List Int := (List.range 6).map fun b => (d b : Int)
theorem encL_len (d : Nat → Nat) : (encL d).length = 6 := rfl
theorem encL_get {d : Nat → Nat} {b : Nat} (hb : b < 6) : (encL d).getD b 0 = (d b : Int) := by
  simp [encL, List.getD_eq_getElem?_getD, hb]
theorem encL_inj {d d' : Nat → Nat} (h : encL d = encL d') {b : Nat} (hb : b < 6) : d b = d' b := by
  have := congrArg (fun l => l.getD b 0) h
  simp only [encL_get hb] at this
  omega
theorem encL_set {d : Nat → Nat} {b : Nat} (hb : b < 6) : (encL d).set b ((d b : Int) + 1) = encL (upd d b 1) := by
  apply List.ext_getElem
  · simp [encL]
  · intro k h1 h2
    rw [List.getElem_set]
    simp only [encL, List.getElem_map, List.getElem_range]
    by_cases e : b = k
    · subst e; rw [if_pos rfl, upd_same]; omega
    · rw [if_neg e, upd_ne (fun h => e h.symm)]
theorem DOk.eq {j : Coast} (h6 : j.length ≤ 6) {d d' : Nat → Nat} (h : DOk j d) (h' : DOk j d') (he : encL d = encL d') : d = d' := by
  funext b
  by_cases hb : b < 6
  · exact encL_inj he hb
  · rw [h.2 b (by omega), h'.2 b (by omega)]
/-- What the program comes to know. -/
def lpF (j : Coast) (d : Nat → Nat) (step : Nat → MF → MF) (f : MF) : Nat → MF
  | 0 => f
  | k + 1 => if d k < (j.getD k []).length then step k (lpF j d step f k) else lpF j d step f k
def memF (j : Coast) : Nat → MF → (Nat → Nat) → MF
  | 0, f, _ => f
  | r + 1, f, d => if (f (encL d)).isSome = true then f else updF (lpF j d (fun k f => memF j r f (upd d k 1)) f j.length) (encL d) (.i (worstD j d))
def GoodF (j : Coast) (f : MF) : Prop := ∀ d v, DOk j d → f (encL d) = some v → v = .i (worstD j d)
theorem lpF_good {j : Coast} {d : Nat → Nat} {step : Nat → MF → MF} {f : MF} (hf : GoodF j f) : ∀ {n : Nat}, (∀ k f, k < n → d k < (j.getD k []).length → GoodF j f → GoodF j (step k f)) → GoodF j (lpF j d step f n)
  | 0, _ => hf
  | n + 1, h => by
    have ih := lpF_good hf (n := n) fun k f hk => h k f (by omega)
    simp only [lpF]
    split
    · next hlt => exact h n _ (by omega) hlt ih
    · exact ih
theorem memF_good {j : Coast} (h6 : j.length ≤ 6) : ∀ (r : Nat) {f : MF} {d : Nat → Nat}, GoodF j f → DOk j d → GoodF j (memF j r f d)
  | 0, _, _, hf, _ => hf
  | r + 1, f, d, hf, hd => by
    simp only [memF]
    split
    · exact hf
    · have h1 := lpF_good (d := d) (step := fun k f => memF j r f (upd d k 1)) hf (n := j.length) fun k f hk hlt hf => memF_good h6 r hf (hd.up hk hlt)
      intro d' v hd' hv
      simp only [updF] at hv
      split at hv
      · next he =>
        have := hd'.eq h6 hd he
        subst this
        cases hv; rfl
      · exact h1 d' v hd' hv
theorem encL_bd {j : Coast} (hj : CoastOk j) {d : Nat → Nat} (hd : DOk j d) : inL (encL d) := inL_iff.2 fun x hx => by
  obtain ⟨b, _, rfl⟩ := List.mem_map.1 hx
  have : d b ≤ 100 := by
    by_cases hb : b < j.length
    · have := hd.1 b hb; have := (hj.jobs b hb).2; omega
    · rw [hd.2 b (by omega)]; omega
  omega
end Go.Proofs.Ytjijjncddjkdlaa

/- Shore: a callee that turns what comes in, told of it under names of its own; memory that stays behind a callee as it was. -/
namespace Go.Proofs.Ytjijjncddjkdlaa
open Go.RowKit
set_option linter.unusedVariables false
set_option linter.unusedSimpArgs false
theorem C.den_chk {p : Nat → Bool} {ρ ρ' : Env} (h : ∀ l, p l = true → ρ' l = ρ l) {c : C} (hc : c.chk p = true) : c.den ρ' = c.den ρ := by
  cases c <;> simp only [C.den, ptrD, C.chk] at *
  case ptr l o => rw [h l hc]
  case sl l n => rw [h l hc]
  case mp l => rw [h l hc]
  case sub l o n k => rw [h l hc]
  case fn f caps =>
    have : caps.map (fun p => (Value.pointer ((ρ' p.1).1.map (·.add p.2)))) = caps.map (fun p => (Value.pointer ((ρ p.1).1.map (·.add p.2)))) := List.map_congr_left fun q hq => by
      rw [h q.1 (List.all_eq_true.1 hc q hq)]
    show Value.func _ _ (caps.map (ptrD ρ')).toArray = Value.func _ _ (caps.map (ptrD ρ)).toArray
    exact congrArg (fun l => Value.func (.func f) #[] (List.toArray l)) this
theorem A.den_chk {p : Nat → Bool} {ρ ρ' : Env} (h : ∀ l, p l = true → ρ' l = ρ l) {c : A} (hc : c.chk p = true) : c.den ρ' = c.den ρ := by
  cases c with
  | c x => exact C.den_chk h hc
  | agg l =>
    show Value.agg (l.map (C.den ρ')).toArray = Value.agg (l.map (C.den ρ)).toArray
    rw [List.map_congr_left fun c hm => C.den_chk h (List.all_eq_true.1 hc c hm)]
theorem V.den_chk {p : Nat → Bool} {ρ ρ' : Env} (h : ∀ l, p l = true → ρ' l = ρ l) {c : V} (hc : c.chk p = true) : c.den ρ' = c.den ρ := by
  cases c with
  | a x => exact A.den_chk h hc
  | tup l => simp only [V.den]; rw [List.map_congr_left fun c hm => A.den_chk h (List.all_eq_true.1 hc c hm)]
/-- The same memory, where the names that are used stand for the same. -/
theorem Hp.envU {n0 nx : Nat} {ρ ρ' : Env} {w : World} {L : List E} (h : Hp n0 ρ w L nx) (ha : ∀ e ∈ L, ρ' e.lab = ρ e.lab ∧ ∀ c ∈ e.cs, c.den ρ' = c.den ρ) : Hp n0 ρ' w L nx := by
  have hb : ∀ e ∈ L, blk ρ' e.lab = blk ρ e.lab := fun e he => by simp only [blk, (ha e he).1]
  refine ⟨h.base, fun e he => ?_, h.wf, h.fn, fun e he e' he' h1 h2 h3 b h4 h5 => h.apart e he e' he' h1 h2 h3 b (by rw [← hb e he]; exact h4) (by rw [← hb e' he']; exact h5)⟩
  have h2 := h.ok e he
  obtain ⟨h3, h5⟩ := ha e he
  have h4 : e.cs.map (C.den ρ') = e.cs.map (C.den ρ) := List.map_congr_left h5
  obtain ⟨lab, kd, c0⟩ := e
  simp only at h3 h4
  cases kd <;> simp only [EOK] at h2 ⊢ <;> (first | rw [h3, h4] | rw [h3]) <;> exact h2
/-- A name of the caller's that the callee knows, and that stands for what it did. -/
def usedOk (R R2 : Rn) (nac nx l : Nat) : Bool := !(Nat.blt l nx) || (match renL R2 l with | some c => Nat.blt c nac && (match renL R c with | some l' => Nat.beq l' l | none => false) | none => false)
theorem CallM.at {P : Program} {n0 : Nat} {f : FuncId} {vs vsc : List V} {L Lc : List E} {nx nac : Nat} {R : Rn} {Q K : V → List E → Nat → Prop} (hok : callB P f = true) (spec : SpecM P f vsc Lc nac Q)
    (hv : renVs R vsc = some vs) (hvw : ∀ v ∈ vsc, v.wf nac) (hL : covL R nac L Lc) (hin : injB R Lc = true)
    (h : ∀ v L' nx', v.wf nx' → Q v L' nx' → ∃ R2 v1 L1 nx1, nx ≤ nx1 ∧ v1.ren R2 = some v ∧ v1.wf nx1 ∧ covL R2 nx1 L' L1 ∧ injB R2 L1 = true ∧
      (L1.all (fun e => usedOk R R2 nac nx e.lab && e.cs.all (C.chk (usedOk R R2 nac nx))) && v1.chk (usedOk R R2 nac nx)) = true ∧ K v1 L1 nx1) : CallM P n0 f vs L nx K := by
  refine ⟨hok, fun ρ w hp hvv => ?_⟩
  obtain ⟨_, p2, _⟩ := Enter.state (N := 0) (na := 0) (s := []) (s' := []) (a := { tmps := #[], defers := [] }) (ρ := ρ) (w := w) (n0 := n0) ⟨trivial, hL, hin, by simp [fixB], Nat.zero_le _⟩ ⟨rfl, fun t v hv => (by cases hv)⟩ hp
  have hargs : (vs.map (V.den ρ)).toArray = (vsc.map (V.den (renE R ρ))).toArray := by
    congr 1
    have : ∀ {l m : List V}, seqO (l.map (V.ren R)) = some m → m.map (V.den ρ) = l.map (V.den (renE R ρ)) := by
      intro l
      induction l with
      | nil => intro m hm; cases hm; rfl
      | cons x r ih =>
        intro m hm
        simp only [List.map_cons] at hm
        cases hx : V.ren R x with
        | none => rw [hx] at hm; cases hm
        | some y =>
          rw [hx] at hm
          simp only [seqO] at hm
          cases hr : seqO (r.map (V.ren R)) with
          | none => rw [hr] at hm; cases hm
          | some z =>
            rw [hr] at hm; cases hm
            rw [List.map_cons, List.map_cons, ih hr, V.ren_den hx]
    exact this hv
  rw [hargs]
  refine (spec n0 _ w p2 hvw).mono ?_
  rintro e w' ⟨v, ρ', L', nx', rfl, h1, h2, h3, h4, h5, h6⟩
  obtain ⟨R2, v1, L1, nx1, g1, g2, g3, g4, g5, g6, g7⟩ := h v L' nx' h2 h6
  obtain ⟨_, q2, _⟩ := Enter.state (N := 0) (na := 0) (s := []) (s' := []) (a := { tmps := #[], defers := [] }) (ρ := ρ') (w := w') (n0 := n0) ⟨trivial, g4, g5, by simp [fixB], Nat.zero_le _⟩ ⟨rfl, fun t v hv => (by cases hv)⟩ h5
  simp only [Bool.and_eq_true, List.all_eq_true] at g6
  obtain ⟨g8, g9⟩ := g6
  -- the caller's names
  have key : ∀ l, (usedOk R R2 nac nx l && Nat.blt l nx1) = true → (fun l => if nx ≤ l ∧ l < nx1 then renE R2 ρ' l else ρ l) l = renE R2 ρ' l := by
    intro l hl
    simp only [Bool.and_eq_true] at hl
    obtain ⟨hl, hl1⟩ := hl
    have hl1 : l < nx1 := Nat.le_of_ble_eq_true hl1
    simp only
    split
    · rfl
    · rename_i hn
      have hlt : l < nx := by omega
      unfold usedOk at hl
      have : Nat.blt l nx = true := by rw [Nat.blt_eq]; exact hlt
      rw [this] at hl
      simp only [Bool.not_true, Bool.false_or] at hl
      cases hr : renL R2 l with
      | none => rw [hr] at hl; cases hl
      | some c =>
        rw [hr] at hl
        simp only [Bool.and_eq_true] at hl
        obtain ⟨hc, hl⟩ := hl
        have hc : c < nac := Nat.le_of_ble_eq_true hc
        cases hr2 : renL R c with
        | none => rw [hr2] at hl; cases hl
        | some l' =>
          rw [hr2] at hl
          have hll := Nat.eq_of_beq_eq_true hl
          subst hll
          have e1 : renE R2 ρ' l' = ρ' c := by simp only [renE, hr]
          have e2 : renE R ρ c = ρ l' := by simp only [renE, hr2]
          rw [e1, h3 c hc, e2]
  have chkw : ∀ {c : C}, c.chk (usedOk R R2 nac nx) = true → c.wf nx1 → c.chk (fun l => usedOk R R2 nac nx l && Nat.blt l nx1) = true := by
    intro c h1 h2
    cases c <;> simp only [C.chk, C.wf, Bool.and_eq_true, Nat.blt_eq, List.all_eq_true] at *
    case ptr l o => exact ⟨h1, h2⟩
    case sl l n => exact ⟨h1, h2⟩
    case mp l => exact ⟨h1, h2⟩
    case sub l o n k => exact ⟨h1, h2⟩
    case fn f caps => exact fun q hq => ⟨h1 q hq, h2 q hq⟩
  have chka : ∀ {c : A}, c.chk (usedOk R R2 nac nx) = true → c.wf nx1 → c.chk (fun l => usedOk R R2 nac nx l && Nat.blt l nx1) = true := by
    intro c h1 h2
    cases c with
    | c x => exact chkw h1 h2
    | agg l => exact List.all_eq_true.2 fun c hc => chkw (List.all_eq_true.1 h1 c hc) (h2 c hc)
  have hvc : v1.chk (fun l => usedOk R R2 nac nx l && Nat.blt l nx1) = true := by
    cases v1 with
    | a x => exact chka g9 g3
    | tup l => exact List.all_eq_true.2 fun c hc => chka (List.all_eq_true.1 g9 c hc) (g3 c hc)
  refine ⟨v1, L1, nx1, fun l => if nx ≤ l ∧ l < nx1 then renE R2 ρ' l else ρ l, ?_, g1, g3, fun l hl => if_neg hl, h4, q2.envU fun e he => ?_, g7⟩
  · rw [V.den_chk key hvc, V.ren_den g2]
  · have h7 := g8 e he
    obtain ⟨h8, h9⟩ := q2.wf e he
    exact ⟨key _ (by rw [h7.1]; simpa using h8), fun c hc => C.den_chk key (chkw (h7.2 c hc) (h9 c hc))⟩
theorem SpecM.ren {P : Program} {f : FuncId} {vs : List V} {L : List E} {na : Nat} {Q Q' : V → List E → Nat → Prop} (spec : SpecM P f vs L na Q)
    (h : ∀ v L' nx', v.wf nx' → Q v L' nx' → ∃ R v1 L1 nx1, na ≤ nx1 ∧ v1.ren R = some v ∧ v1.wf nx1 ∧ covL R nx1 L' L1 ∧ injB R L1 = true ∧ fixB R na = true ∧ Q' v1 L1 nx1) : SpecM P f vs L na Q' := by
  intro n1 ρ w hp hv
  refine (spec n1 ρ w hp hv).mono ?_
  rintro e w' ⟨v, ρ', L', nx', rfl, h1, h2, h3, h4, h5, h6⟩
  obtain ⟨R, v1, L1, nx1, g1, g2, g3, g4, g5, g6, g7⟩ := h v L' nx' h2 h6
  obtain ⟨_, q2, q3⟩ := Enter.state (N := 0) (na := na) (s := []) (s' := []) (a := { tmps := #[], defers := [] }) (ρ := ρ') (w := w') (n0 := n1) ⟨trivial, g4, g5, g6, g1⟩ ⟨rfl, fun t v hv => (by cases hv)⟩ h5
  exact ⟨v1, renE R ρ', L1, nx1, by rw [V.ren_den g2], g1, g3, fun l hl => (q3 l hl).trans (h3 l hl), h4, q2, g7⟩
theorem find_nd : ∀ {L : List E}, (L.map E.lab).Nodup → ∀ e ∈ L, find L e.lab = some e
  | ⟨lab, kd, cs⟩ :: r, h, e, he => by
    simp only [List.map_cons, List.nodup_cons] at h
    rcases List.mem_cons.1 he with rfl | he
    · simp [find]
    · have hne : lab ≠ e.lab := fun q => h.1 (by rw [q]; exact List.mem_map.2 ⟨e, he, rfl⟩)
      rw [find_skip hne]; exact find_nd h.2 e he
/-- The beaches, and boxes under labels from lo on. -/
structure Tw (lo : Nat) (j : Coast) (X : List E) : Prop where
  lab : ∀ e ∈ X, (1 ≤ e.lab ∧ e.lab ≤ 20) ∨ (lo ≤ e.lab ∧ 21 ≤ e.lab ∧ e.lab < 600)
  pl : ∀ e ∈ X, (∀ n, ∀ c ∈ e.cs, c.wf n) ∧ (∀ R, seqO (e.cs.map (C.ren R)) = some e.cs) ∧ ∀ p, e.cs.all (C.chk p) = true
  nd : (X.map E.lab).Nodup
  be : ∀ k, k < j.length → find X (1 + k) = some ⟨1 + k, .ro 2, jobC (j.getD k [])⟩
def boxW (l t : Nat) (ls : List Int) : E := ⟨l, .own t, ls.map C.i⟩
section
variable {lo : Nat} {j : Coast} {X : List E}
theorem Tw.ne (h : Tw lo j X) {l : Nat} (hl : l = 0 ∨ (21 ≤ l ∧ l < lo) ∨ 600 ≤ l) : ∀ e ∈ X, e.lab ≠ l := fun e he heq => by
  have := h.lab e he; rw [heq] at this; omega
theorem Tw.mono (h : Tw lo j X) {lo' : Nat} (hl : lo' ≤ lo) : Tw lo' j X :=
  ⟨fun e he => by have := h.lab e he; omega, h.pl, h.nd, h.be⟩
theorem Tw.cons (h : Tw lo j X) (hj : j.length ≤ 20) {l t : Nat} (ls : List Int) (h1 : 21 ≤ l) (hl : l < lo) (hlo : lo ≤ 600) : Tw l j (boxW l t ls :: X) := by
  refine ⟨fun e he => ?_, fun e he => ?_, ?_, fun k hk => ?_⟩
  · rcases List.mem_cons.1 he with rfl | he
    · exact .inr ⟨Nat.le_refl _, h1, by simp only [boxW]; omega⟩
    · have := h.lab e he; omega
  · rcases List.mem_cons.1 he with rfl | he
    · exact ⟨fun n => wf_ints _ _, fun R => ren_ints _ _, fun p => chk_ints _ _⟩
    · exact h.pl e he
  · simp only [List.map_cons, List.nodup_cons]
    refine ⟨fun hm => ?_, h.nd⟩
    obtain ⟨e, he, heq⟩ := List.mem_map.1 hm
    exact h.ne (l := l) (.inr (.inl ⟨h1, hl⟩)) e he heq
  · unfold boxW
    rw [find_skip (by omega)]; exact h.be k hk
theorem updK_tw (h : Tw lo j X) {l o : Nat} {vs : List C} {K : List E → Prop} (hl : l = 0 ∨ (21 ≤ l ∧ l < lo) ∨ 600 ≤ l) (hK : K X) : updK l o vs X K := by
  rw [updK_eq, updL_none (h.ne hl)]; exact hK
theorem covL_al {R : Rn} {nx : Nat} {L : List E} : ∀ {q : List E}, (∀ e ∈ q, covE R nx L e) → covL R nx L q
  | [], _ => trivial
  | e :: q, h => ⟨h e (by simp), covL_al fun x hx => h x (by simp [hx])⟩
theorem Tw.cov (h : Tw lo j X) {R : Rn} {nx : Nat} {L : List E} (hR : ∀ l, (1 ≤ l ∧ l ≤ 20) ∨ (lo ≤ l ∧ 21 ≤ l ∧ l < 600) → renL R l = some l) (hnx : 600 ≤ nx) (hf : ∀ e ∈ X, find L e.lab = some e) : covL R nx L X := by
  refine covL_al fun e he => ?_
  have h1 := h.lab e he
  obtain ⟨h2, h3, _⟩ := h.pl e he
  exact covE_some (hR _ h1) (by omega) (h2 nx) (hf e he) (h3 R)
theorem ren3 {a x l : Nat} : renL [(a, some x), (a + 1, some (x + 1)), (a + 2, some (x + 2))] l = some (if l = a then x else if l = a + 1 then x + 1 else if l = a + 2 then x + 2 else l) := by
  simp only [renL]
  by_cases h1 : l = a
  · subst h1; simp
  · by_cases h2 : l = a + 1
    · subst h2; simp [beq_ne (show a ≠ a + 1 by omega)]
    · by_cases h3 : l = a + 2
      · subst h3; simp [beq_ne (show a ≠ a + 2 by omega), beq_ne (show a + 1 ≠ a + 2 by omega)]
      · simp only [beq_ne (show a ≠ l by omega), beq_ne (show a + 1 ≠ l by omega), beq_ne (show a + 2 ≠ l by omega), cond_false]
        rw [if_neg h1, if_neg h2, if_neg h3]
theorem used3 {c l : Nat} (hc : c + 2 < 600) (h : l = 600 ∨ l = 601 ∨ l = 602 ∨ (l < 600 ∧ l ≠ c ∧ l ≠ c + 1 ∧ l ≠ c + 2)) :
    usedOk [(c, some 600), (c + 1, some (600 + 1)), (c + 2, some (600 + 2))] [(600, some c), (600 + 1, some (c + 1)), (600 + 2, some (c + 2))] 600 603 l = true := by
  unfold usedOk
  rw [ren3]
  simp only
  rw [ren3]
  simp only [Bool.or_eq_true, Bool.and_eq_true, Nat.blt_eq]
  refine .inr ?_
  rcases h with rfl | rfl | rfl | ⟨h1, h2, h3, h4⟩
  · simp; omega
  · simp; omega
  · simp; omega
  · rw [if_neg (show ¬ l = 600 by omega), if_neg (show ¬ l = 600 + 1 by omega), if_neg (show ¬ l = 600 + 2 by omega), if_neg h2, if_neg h3, if_neg h4]
    exact ⟨h1, Nat.beq_refl l⟩
/-- The memory of worst. -/
def wL (j : Coast) (f : MF) (X : List E) : List E := ⟨21, .mp true (.arr 6) f, []⟩ :: ⟨0, .ro 1, slsC 1 j⟩ :: X
def wX (c : Nat) (d x d' : List Int) (X : List E) : List E := boxW c 85 d :: boxW (c + 1) 47 x :: boxW (c + 2) 85 d' :: X
theorem Tw.three (h : Tw lo j X) (hj : j.length ≤ 20) {c : Nat} (d x d' : List Int) (h1 : 21 ≤ c) (hl : c + 2 < lo) (hlo : lo ≤ 600) : Tw c j (wX c d x d' X) :=
  (((h.cons hj d' (show 21 ≤ c + 2 by omega) hl hlo).cons hj x (show 21 ≤ c + 1 by omega) (by omega) (by omega)).cons hj d h1 (by omega) (by omega))
theorem wL_findX (h : Tw lo j X) (hlo : 22 ≤ lo) (f : MF) : ∀ e ∈ X, find (wL j f X) e.lab = some e := fun e he => by
  have := h.lab e he
  unfold wL
  rw [find_skip (by omega), find_skip (by omega)]; exact find_nd h.nd e he
theorem wL_nd (h : Tw lo j X) (hlo : 22 ≤ lo) (f : MF) : ((wL j f X).map E.lab).Nodup := by
  unfold wL
  simp only [List.map_cons, List.nodup_cons, List.mem_cons, List.mem_map, not_or]
  refine ⟨⟨by omega, fun ⟨e, he, q⟩ => ?_⟩, fun ⟨e, he, q⟩ => ?_, h.nd⟩ <;> (have := h.lab e he; omega)
theorem injB_nil {L : List E} (h : (L.map E.lab).Nodup) : injB [] L = true :=
  injB_of h fun e he e' he' hne a h1 h2 => by simp only [renL, Option.some.injEq] at h1 h2; exact hne (h1.trans h2.symm)
end
/-- The call within itself. -/
theorem w_call {j : Coast} {f f' : MF} {X L : List E} {c lo n0 : Nat} {d x d' e : List Int} {hr z : Int} (hj : j.length ≤ 20) (hT : Tw lo j X) (hc : 22 ≤ c) (hlo : c + 2 < lo) (hlo6 : lo ≤ 600)
    (ih : SpecM Try.prog 71 [V.c (.sl 0 j.length), V.c (.mp 21), V.agg (e.map C.i), V.i hr] (wL j f (wX c d x d' X)) 600 (fun v L' nx' => v = V.i z ∧ L' = wL j f' (wX c d x d' X) ∧ nx' = 600))
    (h0 : find L 0 = some ⟨0, .ro 1, slsC 1 j⟩) (h21 : find L 21 = some ⟨21, .mp true (.arr 6) f, []⟩) (h600 : find L 600 = some (boxW 600 85 d)) (h601 : find L 601 = some (boxW 601 47 x)) (h602 : find L 602 = some (boxW 602 85 d')) (hX : ∀ e ∈ X, find L e.lab = some e) :
    CallM Try.prog n0 71 [V.c (.sl 0 j.length), V.c (.mp 21), V.agg (e.map C.i), V.i hr] L 603 (fun v L' _ => v = V.i z ∧ L' = ⟨21, .mp true (.arr 6) f', []⟩ :: boxW 602 85 d' :: boxW 601 47 x :: boxW 600 85 d :: ⟨0, .ro 1, slsC 1 j⟩ :: X) := by
  have hT3 := hT.three hj d x d' (by omega) hlo hlo6
  have key : ∀ {a y l : Nat}, l ≠ a → l ≠ a + 1 → l ≠ a + 2 → renL [(a, some y), (a + 1, some (y + 1)), (a + 2, some (y + 2))] l = some l := fun h1 h2 h3 => by rw [ren3, if_neg h1, if_neg h2, if_neg h3]
  refine CallM.at (R := [(c, some 600), (c + 1, some (600 + 1)), (c + 2, some (600 + 2))]) (by kernel_rfl) ih ?_ ?_ ⟨covE_mp (key (by omega) (by omega) (by omega)) (by omega) h21 rfl, covE_some (key (by simp only; omega) (by simp only; omega) (by simp only; omega)) (by simp only; omega) (wf_sls _ _ _ (by omega)) h0 (ren_sls_of (fun l hl => key (by omega) (by omega) (by omega)) (by omega)),
    covE_some (by simp only [boxW]; rw [ren3, if_pos rfl]) (by simp only [boxW]; omega) (wf_ints _ _) h600 (ren_ints _ _), covE_some (by simp only [boxW]; rw [ren3, if_neg (by omega), if_pos rfl]) (by simp only [boxW]; omega) (wf_ints _ _) h601 (ren_ints _ _),
    covE_some (by simp only [boxW]; rw [ren3, if_neg (by omega), if_neg (by omega), if_pos rfl]) (by simp only [boxW]; omega) (wf_ints _ _) h602 (ren_ints _ _), hT.cov (fun l hl => key (by omega) (by omega) (by omega)) (by omega) hX⟩ ?_ ?_
  · have e1 : ∀ l : List Int, seqO ((l.map C.i).map (C.ren [(c, some 600), (c + 1, some (600 + 1)), (c + 2, some (600 + 2))])) = some (l.map C.i) := fun l => ren_ints _ _
    simp only [renVs, List.map_cons, List.map_nil, V.ren, A.ren, C.ren, key (show 0 ≠ c by omega) (show 0 ≠ c + 1 by omega) (show 0 ≠ c + 2 by omega), key (show 21 ≠ c by omega) (show 21 ≠ c + 1 by omega) (show 21 ≠ c + 2 by omega), e1, seqO, V.i, C.i]
  · intro v hv
    simp only [List.mem_cons, List.not_mem_nil, or_false] at hv
    rcases hv with rfl | rfl | rfl | rfl
    · show 0 < 600; omega
    · show 21 < 600; omega
    · exact wf_ints _ _
    · trivial
  · refine injB_of (wL_nd hT3 (by omega) f) fun e he e' he' hne a g1 g2 => ?_
    rw [ren3, Option.some.injEq] at g1 g2
    have l1 := hT3.lab
    have hl : ∀ e ∈ wL j f (wX c d x d' X), e.lab = 21 ∨ e.lab = 0 ∨ (1 ≤ e.lab ∧ e.lab ≤ 20) ∨ (c ≤ e.lab ∧ 21 ≤ e.lab ∧ e.lab < 600) := fun e he => by
      unfold wL at he
      rcases List.mem_cons.1 he with rfl | he
      · exact .inl rfl
      · rcases List.mem_cons.1 he with rfl | he
        · exact .inr (.inl rfl)
        · exact .inr (.inr (l1 e he))
    have l2 := hl e he
    have l3 := hl e' he'
    clear hl l1
    split at g1 <;> split at g2 <;> (try split at g1) <;> (try split at g2) <;> (try split at g1) <;> (try split at g2) <;> omega
  · rintro v L' nx' _ ⟨rfl, rfl, rfl⟩
    have hn : ∀ k t1 t2 t3 : Nat, True := fun _ _ _ _ => trivial
    have fX : ∀ e ∈ X, find (wL j f' (wX c d x d' X)) e.lab = some e := fun e he => wL_findX hT3 hc f' e (by unfold wX; simp [he])
    have fc : ∀ b ∈ [boxW c 85 d, boxW (c + 1) 47 x, boxW (c + 2) 85 d'], find (wL j f' (wX c d x d' X)) b.lab = some b := fun b hb => wL_findX hT3 hc f' b (by
      unfold wX
      simp only [List.mem_cons, List.not_mem_nil, or_false] at hb ⊢
      rcases hb with h | h | h <;> simp [h])
    have hl : ∀ e ∈ X, e.lab < 600 ∧ e.lab ≠ c ∧ e.lab ≠ c + 1 ∧ e.lab ≠ c + 2 := fun e he => by have := hT.lab e he; omega
    refine ⟨[(600, some c), (600 + 1, some (c + 1)), (600 + 2, some (c + 2))], V.i z, ⟨21, .mp true (.arr 6) f', []⟩ :: boxW 602 85 d' :: boxW 601 47 x :: boxW 600 85 d :: ⟨0, .ro 1, slsC 1 j⟩ :: X, 603, Nat.le_refl _, rfl, trivial, ⟨covE_mp (key (by omega) (by omega) (by omega)) (by omega) rfl rfl,
      covE_some (by simp only [boxW]; rw [ren3, if_neg (by omega), if_neg (by omega), if_pos rfl]) (by simp only [boxW]; omega) (wf_ints _ _) (fc (boxW (c + 2) 85 d') (by simp)) (ren_ints _ _), covE_some (by simp only [boxW]; rw [ren3, if_neg (by omega), if_pos rfl]) (by simp only [boxW]; omega) (wf_ints _ _) (fc (boxW (c + 1) 47 x) (by simp)) (ren_ints _ _),
      covE_some (by simp only [boxW]; rw [ren3, if_pos rfl]) (by simp only [boxW]; omega) (wf_ints _ _) (fc (boxW c 85 d) (by simp)) (ren_ints _ _), covE_some (key (by simp only; omega) (by simp only; omega) (by simp only; omega)) (by simp only; omega) (wf_sls _ _ _ (by omega)) rfl (ren_sls_of (fun l hl => key (by omega) (by omega) (by omega)) (by omega)),
      hT.cov (fun l hl => key (by omega) (by omega) (by omega)) (by omega) fX⟩, ?_, ?_, rfl, rfl⟩
    · refine injB_of ?_ fun e he e' he' hne a g1 g2 => ?_
      · simp only [List.map_cons, List.nodup_cons, List.mem_cons, List.mem_map, not_or, boxW]
        refine ⟨⟨by omega, by omega, by omega, by omega, fun ⟨e, he, q⟩ => ?_⟩, ⟨by omega, by omega, by omega, fun ⟨e, he, q⟩ => ?_⟩, ⟨by omega, by omega, fun ⟨e, he, q⟩ => ?_⟩, ⟨by omega, fun ⟨e, he, q⟩ => ?_⟩, fun ⟨e, he, q⟩ => ?_, hT.nd⟩ <;> (have := hT.lab e he; omega)
      · rw [ren3, Option.some.injEq] at g1 g2
        have hl : ∀ e ∈ (⟨21, .mp true (.arr 6) f', []⟩ :: boxW 602 85 d' :: boxW 601 47 x :: boxW 600 85 d :: ⟨0, .ro 1, slsC 1 j⟩ :: X : List E), e.lab = 21 ∨ e.lab = 602 ∨ e.lab = 601 ∨ e.lab = 600 ∨ e.lab = 0 ∨ (e.lab < 600 ∧ e.lab ≠ c ∧ e.lab ≠ c + 1 ∧ e.lab ≠ c + 2) := fun e he => by
          simp only [List.mem_cons] at he
          rcases he with rfl | rfl | rfl | rfl | rfl | he
          · exact .inl rfl
          · exact .inr (.inl rfl)
          · exact .inr (.inr (.inl rfl))
          · exact .inr (.inr (.inr (.inl rfl)))
          · exact .inr (.inr (.inr (.inr (.inl rfl))))
          · exact .inr (.inr (.inr (.inr (.inr (hl e he)))))
        have l2 := hl e he
        have l3 := hl e' he'
        clear hl
        split at g1 <;> split at g2 <;> (try split at g1) <;> (try split at g2) <;> (try split at g1) <;> (try split at g2) <;> omega
    · have u : ∀ l, (l = 600 ∨ l = 601 ∨ l = 602 ∨ (l < 600 ∧ l ≠ c ∧ l ≠ c + 1 ∧ l ≠ c + 2)) → usedOk [(c, some 600), (c + 1, some (600 + 1)), (c + 2, some (600 + 2))] [(600, some c), (600 + 1, some (c + 1)), (600 + 2, some (c + 2))] 600 603 l = true := fun l h => used3 (by omega) h
      refine Bool.and_eq_true_iff.2 ⟨List.all_eq_true.2 fun e he => Bool.and_eq_true_iff.2 ?_, rfl⟩
      simp only [List.mem_cons] at he
      rcases he with rfl | rfl | rfl | rfl | rfl | he
      · exact ⟨u _ (by simp only; omega), rfl⟩
      · exact ⟨u _ (by simp [boxW]), chk_ints _ _⟩
      · exact ⟨u _ (by simp [boxW]), chk_ints _ _⟩
      · exact ⟨u _ (by simp [boxW]), chk_ints _ _⟩
      · refine ⟨u _ (by simp only; omega), List.all_eq_true.2 fun y hy => ?_⟩
        have hs : ∀ {b : Nat} {j : Coast}, b + j.length ≤ 21 → ∀ y ∈ slsC b j, ∃ l n, y = C.sl l n ∧ l ≤ 20 := by
          intro b j
          induction j generalizing b with
          | nil => intro _ y hy; cases hy
          | cons a r ih =>
            intro hb y hy
            simp only [List.length_cons] at hb
            rcases List.mem_cons.1 hy with rfl | hy
            · exact ⟨_, _, rfl, by omega⟩
            · exact ih (by omega) y hy
        obtain ⟨l, n, rfl, hl'⟩ := hs (by omega) y hy
        exact u _ (by omega)
      · have h1 := hl e he
        exact ⟨u _ (.inr (.inr (.inr h1))), (hT.pl e he).2.2 _⟩
end Go.Proofs.Ytjijjncddjkdlaa

/- Shore: worst: the most harm. -/
namespace Go.Proofs.Ytjijjncddjkdlaa
open Go.RowKit
set_option linter.unusedVariables false
set_option linter.unusedSimpArgs false
theorem updK_to {l o : Nat} {vs : List C} {L L2 : List E} {K : List E → Prop} (h : updL L l o vs = L2) (hK : K L2) : updK l o vs L K := by
  rw [updK_eq, h]; exact hK
theorem wN_upd {lo : Nat} {j : Coast} {X : List E} (hT : Tw lo j X) {d : Nat → Nat} {k : Nat} (hk : k < 6) {f : MF} {x : List C} :
    updL (⟨602, .own 85, (encL d).map C.i⟩ :: ⟨601, .own 47, x⟩ :: ⟨21, .mp true (.arr 6) f, []⟩ :: ⟨600, .own 85, (encL d).map C.i⟩ :: ⟨0, .ro 1, slsC 1 j⟩ :: X) 602 (addO 0 (mulS ((k : Nat) : Int).toNat 1)) [C.i ((d k : Int) + 1)] =
    ⟨602, .own 85, (encL (upd d k 1)).map C.i⟩ :: ⟨601, .own 47, x⟩ :: ⟨21, .mp true (.arr 6) f, []⟩ :: ⟨600, .own 85, (encL d).map C.i⟩ :: ⟨0, .ro 1, slsC 1 j⟩ :: X := by
  have h1 : setL ((encL d).map C.i) (addO 0 (mulS ((k : Nat) : Int).toNat 1)) [C.i ((d k : Int) + 1)] = (encL (upd d k 1)).map C.i := by
    rw [addO_eq, mulS_eq, Int.toNat_natCast, Nat.zero_add, Nat.mul_one, ← encL_set hk, List.map_set]; rfl
  show (⟨602, .own 85, setL ((encL d).map C.i) (addO 0 (mulS ((k : Nat) : Int).toNat 1)) [C.i ((d k : Int) + 1)]⟩ :: ⟨601, .own 47, x⟩ :: ⟨21, .mp true (.arr 6) f, []⟩ :: ⟨600, .own 85, (encL d).map C.i⟩ :: ⟨0, .ro 1, slsC 1 j⟩ :: updL X 602 _ _ : List E) = _
  rw [h1, updL_none (hT.ne (.inr (.inr (by omega))))]
theorem drawT_mk {P : Program} {T : List (Nat × TD)} {n0 N g0 lm nx : Nat} {ops : List Oper} {K : K3} {s : S} {L Lv : List E} (h : rmL L lm = Lv) (hb : Nat.blt lm nx = true) (hK : drT P T n0 N g0 lm L Lv nx ops (fun s' L1 => K s' L1 nx) s none) : drawT P T n0 N g0 lm ops K s L nx := by
  unfold drawT; rw [rmK_eq, h]; exact ⟨hb, hK⟩
theorem wN_rm {lo : Nat} {j : Coast} {X : List E} (hT : Tw lo j X) (hlo : 22 ≤ lo) {c1 c2 c3 : List C} {f : MF} : rmL (⟨602, .own 85, c1⟩ :: ⟨601, .own 47, c2⟩ :: ⟨21, .mp true (.arr 6) f, []⟩ :: ⟨600, .own 85, c3⟩ :: ⟨0, .ro 1, slsC 1 j⟩ :: X) 21 = ⟨602, .own 85, c1⟩ :: ⟨601, .own 47, c2⟩ :: ⟨600, .own 85, c3⟩ :: ⟨0, .ro 1, slsC 1 j⟩ :: X := by
  show (⟨602, .own 85, c1⟩ :: ⟨601, .own 47, c2⟩ :: ⟨600, .own 85, c3⟩ :: ⟨0, .ro 1, slsC 1 j⟩ :: rmL X 21 : List E) = _
  rw [rmL_none (hT.ne (.inr (.inl (by omega))))]
attribute [local irreducible] drawT
theorem updM_to {l : Nat} {kd : Kd} {L L2 : List E} {K : List E → Prop} (h : updML l kd L = L2) (hK : K L2) : updM l kd L K := by
  rw [updM_eq, h]; exact hK
theorem updML_none {l : Nat} {kd : Kd} : ∀ {L : List E}, (∀ e ∈ L, e.lab ≠ l) → updML l kd L = L
  | [], _ => rfl
  | ⟨lab, k, cs⟩ :: r, h => by
    have : Nat.beq lab l = false := beq_ne (h ⟨lab, k, cs⟩ (by simp))
    rw [updML, this, cond_false, updML_none (fun x hx => h x (by simp [hx]))]
theorem wN_map {lo : Nat} {j : Coast} {X : List E} (hT : Tw lo j X) (hlo : 22 ≤ lo) {c : List C} {f f' : MF} : updML 21 (.mp true (.arr 6) f') (⟨21, .mp true (.arr 6) f, []⟩ :: ⟨600, .own 85, c⟩ :: ⟨0, .ro 1, slsC 1 j⟩ :: X) = ⟨21, .mp true (.arr 6) f', []⟩ :: ⟨600, .own 85, c⟩ :: ⟨0, .ro 1, slsC 1 j⟩ :: X := by
  show (⟨21, .mp true (.arr 6) f', []⟩ :: ⟨600, .own 85, c⟩ :: ⟨0, .ro 1, slsC 1 j⟩ :: updML 21 _ X : List E) = _
  rw [updML_none (hT.ne (.inr (.inl (by omega))))]
def WorstR (j : Coast) (r : Nat) : Prop := ∀ (d : Nat → Nat) (f : MF) (X : List E), DOk j d → remD j d < r → GoodF j f → Tw (100 + 3 * remD j d) j X →
    SpecM Try.prog 71 [V.c (.sl 0 j.length), V.c (.mp 21), V.agg ((encL d).map C.i), V.i (hourD j d)] (wL j f X) 600 (fun v L' nx' => v = V.i (worstD j d) ∧ L' = wL j (memF j r f d) X ∧ nx' = 600)
theorem smN_le {F G : Nat → Nat} : ∀ {n : Nat}, (∀ i, i < n → F i ≤ G i) → smN F n ≤ smN G n
  | 0, _ => Nat.le_refl _
  | n + 1, h => by
    have := smN_le (n := n) fun i hi => h i (by omega)
    have := h n (by omega)
    simp only [smN]; omega
theorem remD_le (j : Coast) (d : Nat → Nat) : remD j d ≤ manyN j j.length := by
  rw [← smN_many (Nat.le_refl _)]
  exact smN_le fun i _ => Nat.sub_le _ _
set_option maxRecDepth 100000 in
theorem worst_step (j : Coast) (hj : Sized j) (hv : validL j = true) (r : Nat) (IH : WorstR j r) : WorstR j (r + 1) := by
    intro d f X hd hr hf hT
    have hm := validL_many hv
    have hc := validL_coast hj hv
    have hj20 := hj.len
    have h6 : j.length ≤ 6 := by simp only [validL, Bool.and_eq_true, decide_eq_true_eq] at hv; omega
    have hin := encL_bd hc hd
    have hr12 := remD_le j d
    have hsl := slsC_len (b := 1) (j := j)
    have hel : ((encL d).map C.i).length = 6 := rfl
    refine SpecM.ren (Q := fun v L' nx' => v = V.i (worstD j d) ∧ (L' = ⟨21, .mp true (.arr 6) (memF j (r + 1) f d), []⟩ :: ⟨600, .own 85, (encL d).map C.i⟩ :: ⟨0, .ro 1, slsC 1 j⟩ :: X ∨ L' = ⟨600, .own 85, (encL d).map C.i⟩ :: ⟨21, .mp true (.arr 6) (memF j (r + 1) f d), []⟩ :: ⟨0, .ro 1, slsC 1 j⟩ :: X) ∧ nx' = 601) ?_ ?_
    · refine SpecM.of tok Try.func71 rfl rfl rfl fun n0 cx => vc_ok tok ?_
      unfold wL
      cases hfe : f (encL d) with
      | some v0 =>
        have hv0 := hf d v0 hd hfe
        subst hv0
        have hmem : memF j (r + 1) f d = f := by simp only [memF]; rw [hfe]; rfl
        rw [hmem]
        have hfe' : f [(d 0 : Int), (d 1 : Int), (d 2 : Int), (d 3 : Int), (d 4 : Int), (d 5 : Int)] = some (.i (worstD j d)) := hfe
        repeat ((conv => whnf); first | with_reducible refine lkm (hfe') ?_ | refine Exists.intro _ (And.intro rfl ?_) | refine fun (K' : K3) hK' => ?_ | (refine hK' _ _ _ ?_; clear hK' K') | refine And.intro (And.intro rfl hin) ?_)
        exact ⟨rfl, .inr rfl, rfl⟩
      | none =>
        have hfe' : f [(d 0 : Int), (d 1 : Int), (d 2 : Int), (d 3 : Int), (d 4 : Int), (d 5 : Int)] = none := hfe
        repeat ((conv => whnf); first | with_reducible refine lkm (hfe') ?_ | refine Exists.intro _ (And.intro rfl ?_) | refine fun (K' : K3) hK' => ?_ | (refine hK' _ _ _ ?_; clear hK' K') | refine And.intro (And.intro rfl hin) ?_)
        obtain ⟨F, hF⟩ : ∃ F, F = lpF j d (fun k f => memF j r f (upd d k 1)) f := ⟨_, rfl⟩
        have hF0 : F 0 = f := by rw [hF]; rfl
        have hFs : ∀ k, F (k + 1) = if d k < (j.getD k []).length then memF j r (F k) (upd d k 1) else F k := fun k => by rw [hF]; rfl
        have hFg : ∀ k, k ≤ j.length → GoodF j (F k) := fun k hk => by
          rw [hF]; exact lpF_good hf fun k f hk' hlt hf => memF_good h6 r hf (hd.up (by omega) hlt)
        obtain ⟨M, hM⟩ : ∃ M, M = mostG j d (worstG j d) := ⟨_, rfl⟩
        have hM0 : M 0 = 0 := by rw [hM]; rfl
        have hMs : ∀ k, M (k + 1) = if d k < (j.getD k []).length then max (M k) (worstG j d k) else M k := fun k => by rw [hM]; rfl
        have hMn : M j.length = worstD j d := by rw [hM, worst_eq]
        have hFm : updF (F j.length) (encL d) (.i (worstD j d)) = memF j (r + 1) f d := by
          rw [hF]; simp only [memF]; rw [hfe]; rfl
        have hnd : ∀ f : MF, ((⟨21, .mp true (.arr 6) f, []⟩ :: ⟨600, .own 85, (encL d).map C.i⟩ :: ⟨0, .ro 1, slsC 1 j⟩ :: X : List E).map E.lab).Nodup := fun f => by
          simp only [List.map_cons, List.nodup_cons, List.mem_cons, List.mem_map, not_or]
          refine ⟨⟨by omega, by omega, fun ⟨e, he, q⟩ => ?_⟩, ⟨by omega, fun ⟨e, he, q⟩ => ?_⟩, fun ⟨e, he, q⟩ => ?_, hT.nd⟩ <;> (have := hT.lab e he; omega)
        refine Tri.loop (γ := Nat) (fun k => k ≤ j.length)
          (fun k => [(0, V.c (.sl 0 j.length)), (1, V.c (.mp 21)), (3, V.i (hourD j d)), (6, V.c (.ptr 600 0)), (11, V.i (M k)), (24, V.c (.sl 0 j.length)), (25, V.i j.length), (26, V.i (k : Nat))])
          (fun k => ⟨21, .mp true (.arr 6) (F k), []⟩ :: ⟨600, .own 85, (encL d).map C.i⟩ :: ⟨0, .ro 1, slsC 1 j⟩ :: X) 601 (fun k => j.length - k) 0 (R0 := []) ?_ ?_ ?_
        · omega
        · rw [hF0, hM0]
          refine ⟨?_, ?_, injB_nil (hnd _), rfl, by exact Nat.le_of_ble_eq_true rfl⟩
          · repeat (first | exact trivial | (refine And.intro (covS_syn (by rfl) rfl (by first | exact trivial | exact Nat.le_of_ble_eq_true rfl)) ?_))
          · repeat (first | refine And.intro (covE_mp rfl (Nat.le_of_ble_eq_true rfl) rfl rfl) ?_ | (exact hT.cov (fun _ _ => rfl) (by omega) (fun e he => by have := hT.lab e he; (repeat rw [find_skip (by omega)]); exact find_nd hT.nd e he)) | (refine And.intro (covE_id (Nat.le_of_ble_eq_true rfl) (by first | exact wf_ints _ _ | first | exact wf_sls _ _ _ (by omega) | exact wf_jobs _ _ | exact wf_ints _ _) rfl (by rfl)) ?_))
        · intro k hk
          refine vc_ok tok ?_
          by_cases hlt : k < j.length
          · have hlen := hj.be k hlt
            have hdk : ((encL d).map C.i)[addO 0 (mulS ((k : Nat) : Int).toNat 1)]? = some (C.i (d k : Int)) := by
              rw [addO_eq, Nat.zero_add, intL (by rw [encL_len]; omega), encL_get (by omega)]
            by_cases hdl : d k < (j.getD k []).length
            · have hdn : ¬ (d k : Int) = ((j.getD k []).length : Nat) := by omega
              have hjl : (jobC (j.getD k [])).length = 2 * (j.getD k []).length := jobC_len _
              repeat ((conv => whnf); first | (refine And.intro (by first | omega | exact Nat.le_of_ble_eq_true rfl | (dsimp only [inK]; omega) | exact ⟨by omega, by omega, by exact Nat.le_of_ble_eq_true rfl⟩) ?_) | with_reducible refine ld (slL hlt) ?_ | with_reducible refine ld (hdk) ?_ | with_reducible refine ld (jobT rfl hdl) ?_ | refine Exists.intro _ (And.intro rfl ?_) | refine br_t (by omega) ?_ | refine br_f (by omega) ?_ | refine fun (K' : K3) hK' => ?_ | (refine hK' _ _ _ ?_; clear hK' K') | (refine onV_ld (c := ⟨1 + k, .ro 2, jobC (j.getD k [])⟩) (by (try (conv => lhs; arg 1; whnf)); (repeat rw [find_skip (by omega)]); exact hT.be k hlt) ?_) | with_reducible refine updK_tw hT (.inr (.inr (by omega))) ?_ | refine Exists.intro (C.i (d k : Int)) (And.intro hdk ?_))
              (conv => whnf)
              refine And.intro ?_ (updK_to (wN_upd hT (k := k) (by omega)) ?_)
              · show addO 0 (mulS ((k : Nat) : Int).toNat 1) + 1 ≤ 6
                rw [addO_eq, mulS_eq]; omega
              have hup := hd.up hlt hdl
              have hrem := rem_up hlt hdl
              have hT2 : Tw (100 + 3 * remD j (upd d k 1)) j (wX (100 + 3 * remD j (upd d k 1)) (encL d) [((j.getD k []).getD (d k) (0, 0)).1, ((j.getD k []).getD (d k) (0, 0)).2] (encL (upd d k 1)) X) :=
                hT.three hj20 _ _ _ (by omega) (by omega) (by omega)
              have ih := IH (upd d k 1) (F k) _ hup (by omega) (hFg k hk) hT2
              rw [hour_up hlt hdl] at ih
              have hcall := fun n0 => w_call (n0 := n0) (L := ⟨602, .own 85, (encL (upd d k 1)).map C.i⟩ :: ⟨601, .own 47, [C.i ((j.getD k []).getD (d k) (0, 0)).1, C.i ((j.getD k []).getD (d k) (0, 0)).2]⟩ :: ⟨21, .mp true (.arr 6) (F k), []⟩ :: ⟨600, .own 85, (encL d).map C.i⟩ :: ⟨0, .ro 1, slsC 1 j⟩ :: X) hj20 hT (by omega) (by omega) (by omega) ih rfl rfl rfl rfl rfl (fun e he => by
                have := hT.lab e he
                rw [find_skip (by omega), find_skip (by omega), find_skip (by omega), find_skip (by omega), find_skip (by omega)]; exact find_nd hT.nd e he)
              have hb1 : 1 ≤ ((j.getD k []).getD (d k) (0, 0)).1 ∧ ((j.getD k []).getD (d k) (0, 0)).1 ≤ 100 ∧ 0 ≤ ((j.getD k []).getD (d k) (0, 0)).2 ∧ ((j.getD k []).getD (d k) (0, 0)).2 ≤ 100 := jobD_bd hc hlt hdl
              have hb2 := hour_bd hc hd
              have hb3 : 0 ≤ ((j.getD k []).getD (d k) (0, 0)).2 * (hourD j d + ((j.getD k []).getD (d k) (0, 0)).1) ∧ ((j.getD k []).getD (d k) (0, 0)).2 * (hourD j d + ((j.getD k []).getD (d k) (0, 0)).1) ≤ 10000 * (manyN j j.length : Int) + 10000 := step_bd hc hd hlt hdl
              have hb4 := worst_bd hc 12 hup (by omega)
              have hb5 := worst_bd hc 12 hd (by omega)
              repeat ((conv => whnf); first | (refine And.intro (by first | omega | exact Nat.le_of_ble_eq_true rfl | (dsimp only [inK]; omega) | exact Eq.refl true) ?_) | refine Exists.intro _ (And.intro rfl ?_) | refine fun (K' : K3) hK' => ?_ | (refine hK' _ _ _ ?_; clear hK' K') | refine draw_turn 71 21 tok mixed (by decide +kernel) ?_ | refine drawT_mk (wN_rm hT (by omega)) rfl ?_ | refine turn_mk (worstD j (upd d k 1)) (.arr 6) (memF j r (F k) (upd d k 1)) (hcall _) ?_)
              have hMk : (if ((j.getD k []).getD (d k) (0, 0)).2 * (hourD j d + ((j.getD k []).getD (d k) (0, 0)).1) + worstD j (upd d k 1) > M k then ((j.getD k []).getD (d k) (0, 0)).2 * (hourD j d + ((j.getD k []).getD (d k) (0, 0)).1) + worstD j (upd d k 1) else M k) = M (k + 1) := by
                rw [hMs, if_pos hdl]
                show _ = max (M k) (((j.getD k []).getD (d k) (0, 0)).2 * (hourD j d + ((j.getD k []).getD (d k) (0, 0)).1) + worstD j (upd d k 1))
                split <;> omega
              have hFk : memF j r (F k) (upd d k 1) = F (k + 1) := by rw [hFs, if_pos hdl]
              refine ⟨k + 1, [], by omega, by omega, ?_⟩
              refine ⟨?_, ?_, injB_nil (hnd _), rfl, by exact Nat.le_of_ble_eq_true rfl⟩
              · repeat (first | exact trivial | (refine And.intro (covS_syn (by first | rfl | (refine congrArg some (congrArg V.i ?_); exact hMk)) rfl (by first | exact trivial | exact Nat.le_of_ble_eq_true rfl)) ?_))
              · repeat (first | refine And.intro (covE_mp rfl (Nat.le_of_ble_eq_true rfl) rfl hFk) ?_ | (exact hT.cov (fun _ _ => rfl) (by omega) (fun e he => by have := hT.lab e he; (repeat rw [find_skip (by omega)]); exact find_nd hT.nd e he)) | (refine And.intro (covE_id (Nat.le_of_ble_eq_true rfl) (by first | exact wf_ints _ _ | first | exact wf_sls _ _ _ (by omega) | exact wf_jobs _ _ | exact wf_ints _ _) rfl (by rfl)) ?_))
            · have hde : (d k : Int) = ((j.getD k []).length : Nat) := by have := hd.1 k hlt; omega
              have hMk : M k = M (k + 1) := by rw [hMs, if_neg hdl]
              have hFk : F k = F (k + 1) := by rw [hFs, if_neg hdl]
              repeat ((conv => whnf); first | (refine And.intro (by first | omega | (dsimp only [inK]; omega)) ?_) | with_reducible refine ld (slL hlt) ?_ | with_reducible refine ld (hdk) ?_ | refine br_t (by omega) ?_ | refine fun (K' : K3) hK' => ?_ | (refine hK' _ _ _ ?_; clear hK' K'))
              refine ⟨k + 1, [], by omega, by omega, ?_⟩
              refine ⟨?_, ?_, injB_nil (hnd _), rfl, by exact Nat.le_of_ble_eq_true rfl⟩
              · repeat (first | exact trivial | (refine And.intro (covS_syn (by first | rfl | (refine congrArg some (congrArg V.i ?_); exact hMk)) rfl (by first | exact trivial | exact Nat.le_of_ble_eq_true rfl)) ?_))
              · repeat (first | refine And.intro (covE_mp rfl (Nat.le_of_ble_eq_true rfl) rfl hFk) ?_ | (exact hT.cov (fun _ _ => rfl) (by omega) (fun e he => by have := hT.lab e he; (repeat rw [find_skip (by omega)]); exact find_nd hT.nd e he)) | (refine And.intro (covE_id (Nat.le_of_ble_eq_true rfl) (by first | exact wf_ints _ _ | first | exact wf_sls _ _ _ (by omega) | exact wf_jobs _ _ | exact wf_ints _ _) rfl (by rfl)) ?_))
          · obtain rfl : k = j.length := by omega
            rw [hMn]
            repeat ((conv => whnf); first | refine Exists.intro _ (And.intro rfl ?_) | refine br_f (by omega) ?_ | refine fun (K' : K3) hK' => ?_ | (refine hK' _ _ _ ?_; clear hK' K'))
            (conv => whnf)
            refine And.intro (And.intro rfl hin) (updM_to (wN_map hT (by omega)) ?_)
            repeat ((conv => whnf); first | refine fun (K' : K3) hK' => ?_ | (refine hK' _ _ _ ?_; clear hK' K'))
            exact ⟨rfl, .inl (by rw [← hFm]; rfl), rfl⟩
    · rintro v L' nx' _ ⟨rfl, hL', rfl⟩
      refine ⟨[], V.i (worstD j d), wL j (memF j (r + 1) f d) X, 600, Nat.le_refl _, rfl, trivial, ?_, injB_nil (wL_nd hT (by omega) _), rfl, rfl, rfl, rfl⟩
      rcases hL' with rfl | rfl
      · exact ⟨covE_mp rfl (by omega) rfl rfl, covE_id (by simp only; omega) (wf_sls _ _ _ (by omega)) rfl rfl, hT.cov (fun _ _ => rfl) (by omega) fun e he => by
          have := hT.lab e he; rw [find_skip (by omega), find_skip (by omega), find_skip (by omega)]; exact find_nd hT.nd e he⟩
      · exact ⟨covE_mp rfl (by omega) rfl rfl, covE_id (by simp only; omega) (wf_sls _ _ _ (by omega)) rfl rfl, hT.cov (fun _ _ => rfl) (by omega) fun e he => by
          have := hT.lab e he; rw [find_skip (by omega), find_skip (by omega), find_skip (by omega)]; exact find_nd hT.nd e he⟩
theorem worst_all (j : Coast) (hj : Sized j) (hv : validL j = true) : ∀ r, WorstR j r
  | 0 => fun _ _ _ _ hr _ _ => absurd hr (Nat.not_lt_zero _)
  | r + 1 => worst_step j hj hv r (worst_all j hj hv r)
end Go.Proofs.Ytjijjncddjkdlaa

/- Shore: Worst. -/
namespace Go.Proofs.Ytjijjncddjkdlaa
open Go.RowKit
set_option linter.unusedVariables false
set_option linter.unusedSimpArgs false
theorem entC_lab : ∀ {b : Nat} {j : Coast}, (entC b j).map E.lab = List.range' b j.length
  | b, [] => rfl
  | b, x :: r => by simp only [entC, List.map_cons, entC_lab (b := b + 1) (j := r), List.length_cons, List.range'_succ]
theorem tw_ent {j : Coast} (hj : j.length ≤ 20) (lo : Nat) : Tw lo j (entC 1 j) := by
  refine ⟨fun e he => ?_, fun e he => ?_, ?_, fun k hk => entC_find hk⟩
  · obtain ⟨k, hk, rfl⟩ := entC_mem he
    exact .inl ⟨by simp only; omega, by simp only; omega⟩
  · obtain ⟨k, hk, rfl⟩ := entC_mem he
    exact ⟨fun n => wf_jobs _ _, fun R => ren_jobs _ _, fun p => chk_jobs _ _⟩
  · rw [entC_lab]; exact List.nodup_range'
theorem zero_ok (j : Coast) : DOk j (fun _ => 0) := ⟨fun _ _ => Nat.zero_le _, fun _ _ => rfl⟩
theorem worst_spec (j : Coast) (hj : Sized j) : Spec Try.prog 35 [V.c (.sl 0 j.length)] (⟨0, .ro 1, slsC 1 j⟩ :: entC 1 j) 32 (Is (if validL j then .tup [.c (.i (worstD j (fun _ => 0))), .c (.i 0)] else .tup [.c (.i 0), .c (.i 60)])) := by
  have hj20 := hj.len
  have hC : HasC (⟨0, .ro 1, slsC 1 j⟩ :: entC 1 j) j := ⟨rfl, fun k hk => by (repeat (first | rw [find_skip (by omega)] | rw [find_hi (by omega) (by rfl)])); exact entC_find hk⟩
  refine Spec.of tok Try.func35 rfl rfl rfl fun n0 cx => vc_ok tok ?_
  cases hv : validL j with
  | true =>
    have hT := tw_ent hj20 (100 + 3 * remD j (fun _ => 0))
    have ih := worst_all j hj hv (remD j (fun _ => 0) + 1) (fun _ => 0) (fun _ => none) (entC 1 j) (zero_ok j) (by omega) (fun d v _ h => by cases h) hT
    rw [hour_zero] at ih
    have k1 : ∀ l, l ≠ 21 → renL [(21, some 32)] l = some l := fun l hl => by simp only [renL, beq_ne (show 21 ≠ l by omega), cond_false]
    have hcv : covL [(21, some 32)] 600 (⟨32, .mp true (.arr 6) (fun _ => none), []⟩ :: ⟨0, .ro 1, slsC 1 j⟩ :: entC 1 j) (wL j (fun _ => none) (entC 1 j)) :=
      ⟨covE_mp (l' := 32) rfl (by omega) rfl rfl, covE_some (k1 _ (by simp only; omega)) (by simp only; omega) (wf_sls _ _ _ (by omega)) rfl (ren_sls_of (fun l hl => k1 l (by omega)) (by omega)), hT.cov (fun l hl => k1 l (by omega)) (by omega) fun e he => by
        obtain ⟨k, hk, rfl⟩ := entC_mem he
        simp only
        rw [find_skip (by omega), find_skip (by omega)]; exact entC_find hk⟩
    have hij : injB [(21, some 32)] (wL j (fun _ => none) (entC 1 j)) = true := injB_of (wL_nd hT (by omega) _) fun e he e' he' hne a g1 g2 => by
      have hl : ∀ e ∈ wL j (fun _ => none) (entC 1 j), e.lab = 21 ∨ (e.lab ≠ 21 ∧ e.lab ≠ 32) := fun e he => by
        unfold wL at he
        rcases List.mem_cons.1 he with rfl | he
        · exact .inl rfl
        · rcases List.mem_cons.1 he with rfl | he
          · exact .inr ⟨by simp, by simp⟩
          · have := hT.lab e he
            obtain ⟨k, hk, rfl⟩ := entC_mem he
            exact .inr ⟨by simp only; omega, by simp only; omega⟩
      have h1 := hl e he
      have h2 := hl e' he'
      rcases h1 with h1 | ⟨h1, h1'⟩ <;> rcases h2 with h2 | ⟨h2, h2'⟩
      · exact hne (h1.trans h2.symm)
      · rw [h1, show renL [(21, some 32)] 21 = some 32 from rfl, Option.some.injEq] at g1; rw [k1 _ h2, Option.some.injEq] at g2; omega
      · rw [h2, show renL [(21, some 32)] 21 = some 32 from rfl, Option.some.injEq] at g2; rw [k1 _ h1, Option.some.injEq] at g1; omega
      · rw [k1 _ h1, Option.some.injEq] at g1; rw [k1 _ h2, Option.some.injEq] at g2; omega
    repeat ((conv => whnf); first | refine br_f (by omega) ?_ | refine fun (K' : K3) hK' => ?_ | (refine hK' _ _ _ ?_; clear hK' K') | refine CallM.eq (by kernel_rfl) (open_spec j hj _ _ hC) ?_ | refine CallM.at (R := [(21, some 32)]) (by kernel_rfl) ih rfl (by simp [V.wf, A.wf, C.wf, V.i, encL]) hcv hij ?_ | rw [hv])
    rintro v L' nx' _ ⟨rfl, rfl, rfl⟩
    refine ⟨[], V.i (worstD j fun _ => 0), [], 33, by omega, rfl, trivial, trivial, rfl, rfl, ?_⟩
    repeat ((conv => whnf); refine hK' _ _ _ ?_; clear hK' K')
    intro ρ; rfl
  | false =>
    repeat ((conv => whnf); first | refine br_t (by omega) ?_ | refine fun (K' : K3) hK' => ?_ | (refine hK' _ _ _ ?_; clear hK' K') | refine CallM.eq (by kernel_rfl) (open_spec j hj _ _ hC) ?_ | rw [hv])
    intro ρ; rfl
end Go.Proofs.Ytjijjncddjkdlaa

/- The law of the leads. -/
namespace Go.Proofs.Ytjijjncddjkdlaa
open Go.RowKit
set_option linter.unusedVariables false
set_option linter.unusedSimpArgs false
section
variable {n0 nx : Nat} {L : List E} {K : V → List E → Nat → Prop} {j : Coast}
theorem long_k (hj : j.length < 9223372036854775808) (hs : find L 0 = some ⟨0, .ro 1, slsC 1 j⟩) (hK : K (V.c (.bool (longB j))) [] nx) : CallK Try.prog n0 14 [V.c (.sl 0 j.length)] L nx K :=
  CallK.val (R := []) (long_any j hj) (by kernel_rfl) rfl (by simp [V.wf, A.wf, C.wf]) ⟨roE_id (Nat.succ_pos _) (wf_sls _ _ _ (by omega)) hs (.inr rfl) rfl, trivial⟩ rfl rfl trivial hK
theorem sane_k (hK : K (V.c (.bool true)) [] nx) : CallK Try.prog n0 15 [] L nx K :=
  CallK.val (R := []) sane_spec (by kernel_rfl) rfl (by simp) trivial rfl rfl trivial hK
end
theorem isTrue_any {f : FuncId} {vs : List V} {L : List E} {na : Nat} {ρ : Env} {w : World} {args : Array Value} (spec : Spec Try.prog f vs L na (Is (V.c (.bool true)))) (hp : Hp w.heap.size ρ w L na) (hv : ∀ v ∈ vs, v.wf na) (ha : (vs.map (V.den ρ)).toArray = args) :
    Calls Try.prog f args w fun e w' => e = .returned (.bool true) ∧ Below w.heap.size w w' := by
  subst ha
  refine (spec ρ w hp hv).mono ?_
  rintro e w' ⟨v, ρ', L', nx', rfl, h1, h2, h3, h4, h5, h6⟩
  exact ⟨by rw [h6 ρ']; rfl, h4⟩
end Go.Proofs.Ytjijjncddjkdlaa

/- The law of the best and the worst orders. -/
namespace Go.Proofs.Ytjijjncddjkdlaa
open Go.RowKit
set_option linter.unusedVariables false
set_option linter.unusedSimpArgs false
theorem ends_long (j : Coast) (o : List Int) (hj : j.length < 9223372036854775808) (h : longB j = true) :
    Spec Try.prog 11 [V.c (.sl 0 j.length), V.c (.sl (j.length + 31) o.length)] [⟨0, .ro 1, slsC 1 j⟩] (j.length + 32) (Is (V.c (.bool true))) := by
  refine Spec.of tok Try.func11 rfl rfl rfl fun n0 cx => vc_ok tok ?_
  repeat ((conv => whnf); first | refine fun (K' : K3) hK' => ?_ | (refine hK' _ _ _ ?_; clear hK' K') | refine long_k hj rfl ?_ | refine bs_bt h ?_ | refine sane_k ?_ | refine CallK.m ?_)
  intro ρ; rfl
def oneF (j : Coast) (n : Nat) : Bool := (List.range n).all fun b => decide ((j.getD b []).length ≤ 1)
theorem oneF_succ (j : Coast) (n : Nat) : oneF j (n + 1) = (oneF j n && decide ((j.getD n []).length ≤ 1)) := by
  simp [oneF, List.range_succ, List.all_append]
set_option maxHeartbeats 4000000 in
set_option maxRecDepth 100000 in
theorem ends_spec (j : Coast) (o : List Int) (hj : Sized j) (hl : longB j = false) :
    Spec Try.prog 11 [V.c (.sl 0 j.length), V.c (.sl 21 o.length)] (⟨0, .ro 1, slsC 1 j⟩ :: ⟨21, .ro 0, o.map C.i⟩ :: entC 1 j) 32 (Is (V.c (.bool true))) := by
  have hj20 := hj.len
  have hlen := slsC_len (b := 1) (j := j)
  have h4 := rvalid_spec j hj
  cases hv : validL j with
  | false =>
    rw [hv] at h4
    refine Spec.of tok Try.func11 rfl rfl rfl fun n0 cx => vc_ok tok ?_
    repeat ((conv => whnf); first | refine fun (K' : K3) hK' => ?_ | (refine hK' _ _ _ ?_; clear hK' K') | refine long_k (by omega) rfl ?_ | refine bs_bf hl ?_ | refine CallK.val (R := []) h4 (by kernel_rfl) rfl (by simp [V.wf, A.wf, C.wf]) (HasC.ro ⟨rfl, fun k hk => by (repeat (first | rw [find_skip (by omega)] | rw [find_hi (by omega) (by rfl)])); exact entC_find hk⟩ hj) (injC hj) rfl trivial ?_ | refine sane_k ?_ | refine bs_bt (Eq.refl true) ?_ | refine CallK.m ?_)
    intro ρ; rfl
  | true =>
  rw [hv] at h4
  by_cases h200 : (o.length : Int) > 200
  · refine Spec.of tok Try.func11 rfl rfl rfl fun n0 cx => vc_ok tok ?_
    repeat ((conv => whnf); first | refine br_t (by omega) ?_ | refine fun (K' : K3) hK' => ?_ | (refine hK' _ _ _ ?_; clear hK' K') | refine long_k (by omega) rfl ?_ | refine bs_bf hl ?_ | refine CallK.val (R := []) h4 (by kernel_rfl) rfl (by simp [V.wf, A.wf, C.wf]) (HasC.ro ⟨rfl, fun k hk => by (repeat (first | rw [find_skip (by omega)] | rw [find_hi (by omega) (by rfl)])); exact entC_find hk⟩ hj) (injC hj) rfl trivial ?_ | refine sane_k ?_ | refine bs_bf (Eq.refl false) ?_ | refine CallK.m ?_)
    intro ρ; rfl
  have hm := validL_many hv
  have hc := validL_coast hj hv
  have hBe := bestE_spec j hj
  rw [hv] at hBe
  have hLe := least_spec j hj
  rw [hv] at hLe
  have hWo := worst_spec j hj
  rw [hv] at hWo
  have hBo := bound_spec j hj
  rw [hv] at hBo
  simp only [if_true] at hBe hLe hBo hWo
  have hbl := bound_least hc
  have hbi : isOrdB j (natsC (bestO j)) = true := (isOrd_iff (by omega)).2 ⟨_, rfl, bestO_ord hc⟩
  have hboo := isOrd_ok hbi
  have hb100 := hboo.len
  have hIs := isOrderE_spec j (natsC (bestO j)) hj (by omega)
  rw [hv, hbi] at hIs
  simp only [if_true] at hIs
  have hHb := harmE_spec j (natsC (bestO j)) hj (by omega)
  rw [hv, hbi] at hHb
  simp only [numO, if_true] at hHb
  have hleast : harmO j (natsC (bestO j)) (natsC (bestO j)).length = leastO j := rfl
  rw [hleast] at hHb
  have hany : ∀ o' : List Nat, OrdF j (fun _ => 0) o' → leastO j ≤ harmO j (natsC o') (natsC o').length ∧ harmO j (natsC o') (natsC o').length ≤ worstD j fun _ => 0 := fun o' ho' => by
    rw [← hleast, harm_costS, harm_costS]
    have := worst_ge ho'
    rw [hour_zero] at this
    exact ⟨bestO_least hc ho', this⟩
  have hlw : leastO j ≤ worstD j fun _ => 0 := by
    have := (hany _ (bestO_ord hc)).2
    rw [hleast] at this; exact this
  refine Spec.of tok Try.func11 rfl rfl rfl fun n0 cx => vc_ok tok ?_
  repeat ((conv => whnf); first | refine br_f (by omega) ?_ | refine bs_f (by omega) ?_ | refine fun (K' : K3) hK' => ?_ | (refine hK' _ _ _ ?_; clear hK' K') | refine long_k (by omega) rfl ?_ | refine bs_bf hl ?_ | refine CallK.val (R := []) h4 (by kernel_rfl) rfl (by simp [V.wf, A.wf, C.wf]) (HasC.ro ⟨rfl, fun k hk => by (repeat (first | rw [find_skip (by omega)] | rw [find_hi (by omega) (by rfl)])); exact entC_find hk⟩ hj) (injC hj) rfl trivial ?_ | refine CallK.intsE (R := []) hBe (by kernel_rfl) rfl (by simp [V.wf, A.wf, C.wf]) (HasC.ro ⟨rfl, fun k hk => by (repeat (first | rw [find_skip (by omega)] | rw [find_hi (by omega) (by rfl)])); exact entC_find hk⟩ hj) (injC hj) ?_ | refine CallK.val (R := []) hLe (by kernel_rfl) rfl (by simp [V.wf, A.wf, C.wf]) (HasC.ro ⟨rfl, fun k hk => by (repeat (first | rw [find_skip (by omega)] | rw [find_hi (by omega) (by rfl)])); exact entC_find hk⟩ hj) (injC hj) rfl (by simp [V.wf, A.wf, C.wf]) ?_ | refine CallK.val (R := []) hWo (by kernel_rfl) rfl (by simp [V.wf, A.wf, C.wf]) (HasC.ro ⟨rfl, fun k hk => by (repeat (first | rw [find_skip (by omega)] | rw [find_hi (by omega) (by rfl)])); exact entC_find hk⟩ hj) (injC hj) rfl (by simp [V.wf, A.wf, C.wf]) ?_ | refine CallK.val (R := []) hBo (by kernel_rfl) rfl (by simp [V.wf, A.wf, C.wf]) (HasC.ro ⟨rfl, fun k hk => by (repeat (first | rw [find_skip (by omega)] | rw [find_hi (by omega) (by rfl)])); exact entC_find hk⟩ hj) (injC hj) rfl (by simp [V.wf, A.wf, C.wf]) ?_ | refine CallK.val (R := [(21, some 32)]) hIs (by kernel_rfl) rfl (by simp [V.wf, A.wf, C.wf]) (HasC.roO ⟨rfl, fun k hk => by (repeat (first | rw [find_skip (by omega)] | rw [find_hi (by omega) (by rfl)])); exact entC_find hk⟩ hj rfl) (injO hj) rfl (by simp [V.wf, A.wf, C.wf]) ?_ | refine CallK.val (R := [(21, some 32)]) hHb (by kernel_rfl) rfl (by simp [V.wf, A.wf, C.wf]) (HasC.roO ⟨rfl, fun k hk => by (repeat (first | rw [find_skip (by omega)] | rw [find_hi (by omega) (by rfl)])); exact entC_find hk⟩ hj rfl) (injO hj) rfl (by simp [V.wf, A.wf, C.wf]) ?_ | refine bs_bf (Eq.refl false) ?_ | refine CallK.m ?_)
  refine Tri.loop (γ := Nat) (fun i => i ≤ j.length) (fun i => [(0, V.c (.sl 0 j.length)), (1, V.c (.sl 21 o.length)), (7, V.i (leastO j)), (9, V.i (worstD j fun _ => 0)), (11, V.i (boundO j)), (15, V.c (.bool (oneF j i))), (16, V.i (i : Nat))])
    (fun i => ⟨0, .ro 1, slsC 1 j⟩ :: ⟨21, .ro 0, o.map C.i⟩ :: entC 1 j) 33 (fun i => j.length - i) 0 (R0 := []) ?_ ?_ ?_
  · omega
  · skip
    refine ⟨?_, ?_, injB_ent (p := [_, _]) (by omega) rfl rfl, rfl, by exact Nat.le_of_ble_eq_true rfl⟩
    · repeat (first | exact trivial | (refine And.intro (covS_syn (by rfl) rfl (by first | exact trivial | exact Nat.le_of_ble_eq_true rfl)) ?_) | refine And.intro (covS_bool rfl rfl (by rfl)) ?_)
    · repeat (first | (exact covL_ent (by omega) (fun k hk => by (try simp only [flatN]); (repeat (first | rw [find_skip (by omega)] | rw [find_hi (by omega) (by rfl)])))) | (refine And.intro (covE_id (Nat.le_of_ble_eq_true rfl) (by first | exact wf_ints _ _ | first | exact wf_sls _ _ _ (by omega) | exact wf_jobs _ _ | exact wf_famS _ _ _ (by omega)) rfl (by rfl)) ?_))
  · intro i hii
    refine vc_ok tok ?_
    by_cases hlt : i < j.length
    · have hbe := hj.be i hlt
      have ho1 := oneF_succ j i
      cases hc1 : oneF j i with
      | true =>
        rw [hc1, Bool.true_and] at ho1
        have hd : decide (((j.getD i []).length : Int) ≤ 1) = oneF j (i + 1) := by rw [ho1]; exact decide_eq_decide.2 (by omega)
        repeat ((conv => whnf); first | (refine And.intro (by first | omega | (dsimp only [inK]; omega)) ?_) | with_reducible refine ld (slL hlt) ?_ | refine br_t (by omega) ?_ | refine fun (K' : K3) hK' => ?_ | (refine hK' _ _ _ ?_; clear hK' K') | refine br_bt (Eq.refl true) ?_)
        refine ⟨i + 1, [], by omega, by omega, ?_⟩
        refine ⟨?_, ?_, injB_ent (p := [_, _]) (by omega) rfl rfl, rfl, by exact Nat.le_of_ble_eq_true rfl⟩
        · repeat (first | exact trivial | (refine And.intro (covS_syn (by rfl) rfl (by first | exact trivial | exact Nat.le_of_ble_eq_true rfl)) ?_) | refine And.intro (covS_bool rfl rfl (by exact hd)) ?_)
        · repeat (first | (exact covL_ent (by omega) (fun k hk => by (try simp only [flatN]); (repeat (first | rw [find_skip (by omega)] | rw [find_hi (by omega) (by rfl)])))) | (refine And.intro (covE_id (Nat.le_of_ble_eq_true rfl) (by first | exact wf_ints _ _ | first | exact wf_sls _ _ _ (by omega) | exact wf_jobs _ _ | exact wf_famS _ _ _ (by omega)) rfl (by rfl)) ?_))
      | false =>
        rw [hc1, Bool.false_and] at ho1
        repeat ((conv => whnf); first | (refine And.intro (by first | omega | (dsimp only [inK]; omega)) ?_) | refine br_t (by omega) ?_ | refine fun (K' : K3) hK' => ?_ | (refine hK' _ _ _ ?_; clear hK' K') | refine br_bf (Eq.refl false) ?_)
        refine ⟨i + 1, [], by omega, by omega, ?_⟩
        refine ⟨?_, ?_, injB_ent (p := [_, _]) (by omega) rfl rfl, rfl, by exact Nat.le_of_ble_eq_true rfl⟩
        · repeat (first | exact trivial | (refine And.intro (covS_syn (by rfl) rfl (by first | exact trivial | exact Nat.le_of_ble_eq_true rfl)) ?_) | refine And.intro (covS_bool rfl rfl (by exact ho1.symm)) ?_)
        · repeat (first | (exact covL_ent (by omega) (fun k hk => by (try simp only [flatN]); (repeat (first | rw [find_skip (by omega)] | rw [find_hi (by omega) (by rfl)])))) | (refine And.intro (covE_id (Nat.le_of_ble_eq_true rfl) (by first | exact wf_ints _ _ | first | exact wf_sls _ _ _ (by omega) | exact wf_jobs _ _ | exact wf_famS _ _ _ (by omega)) rfl (by rfl)) ?_))
    · obtain rfl : i = j.length := by omega
      have hHo := harmE_spec j o hj (by omega)
      cases hi : isOrdB j o with
      | false =>
        rw [hv, hi] at hHo
        simp only [numO, if_true, Bool.false_eq_true, if_false] at hHo
        cases hc1 : oneF j j.length with
        | true =>
          have hbo := bound_one hc fun c hc' => of_decide_eq_true (List.all_eq_true.1 hc1 c (List.mem_range.2 hc'))
          repeat ((conv => whnf); first | refine br_f (by omega) ?_ | refine bs_t (by omega) ?_ | refine fun (K' : K3) hK' => ?_ | (refine hK' _ _ _ ?_; clear hK' K') | refine CallK.val (R := []) hHo (by kernel_rfl) rfl (by simp [V.wf, A.wf, C.wf]) (HasO.ro ⟨⟨rfl, fun k hk => by (repeat (first | rw [find_skip (by omega)] | rw [find_hi (by omega) (by rfl)])); exact entC_find hk⟩, rfl⟩ hj) (injO hj) rfl (by simp [V.wf, A.wf, C.wf]) ?_ | refine sane_k ?_ | refine br_bt (Eq.refl true) ?_ | refine CallK.m ?_)
          intro ρ; rfl
        | false =>
          repeat ((conv => whnf); first | refine br_f (by omega) ?_ | refine bs_t (by omega) ?_ | refine fun (K' : K3) hK' => ?_ | (refine hK' _ _ _ ?_; clear hK' K') | refine CallK.val (R := []) hHo (by kernel_rfl) rfl (by simp [V.wf, A.wf, C.wf]) (HasO.ro ⟨⟨rfl, fun k hk => by (repeat (first | rw [find_skip (by omega)] | rw [find_hi (by omega) (by rfl)])); exact entC_find hk⟩, rfl⟩ hj) (injO hj) rfl (by simp [V.wf, A.wf, C.wf]) ?_ | refine sane_k ?_ | refine br_bf (Eq.refl false) ?_ | refine CallK.m ?_)
          intro ρ; rfl
      | true =>
        rw [hv, hi] at hHo
        simp only [numO, if_true] at hHo
        obtain ⟨hle1, hle2⟩ : leastO j ≤ harmO j o o.length ∧ harmO j o o.length ≤ worstD j fun _ => 0 := by
          obtain ⟨o', rfl, h1⟩ := (isOrd_iff (by omega)).1 hi
          exact hany o' h1
        cases hc1 : oneF j j.length with
        | true =>
          have hbo := bound_one hc fun c hc' => of_decide_eq_true (List.all_eq_true.1 hc1 c (List.mem_range.2 hc'))
          repeat ((conv => whnf); first | refine br_t (by omega) ?_ | refine br_f (by omega) ?_ | refine bs_f (by omega) ?_ | refine fun (K' : K3) hK' => ?_ | (refine hK' _ _ _ ?_; clear hK' K') | refine CallK.val (R := []) hHo (by kernel_rfl) rfl (by simp [V.wf, A.wf, C.wf]) (HasO.ro ⟨⟨rfl, fun k hk => by (repeat (first | rw [find_skip (by omega)] | rw [find_hi (by omega) (by rfl)])); exact entC_find hk⟩, rfl⟩ hj) (injO hj) rfl (by simp [V.wf, A.wf, C.wf]) ?_ | refine sane_k ?_ | refine br_bt (Eq.refl true) ?_ | refine CallK.m ?_)
          intro ρ; rfl
        | false =>
          repeat ((conv => whnf); first | refine br_t (by omega) ?_ | refine br_f (by omega) ?_ | refine bs_f (by omega) ?_ | refine fun (K' : K3) hK' => ?_ | (refine hK' _ _ _ ?_; clear hK' K') | refine CallK.val (R := []) hHo (by kernel_rfl) rfl (by simp [V.wf, A.wf, C.wf]) (HasO.ro ⟨⟨rfl, fun k hk => by (repeat (first | rw [find_skip (by omega)] | rw [find_hi (by omega) (by rfl)])); exact entC_find hk⟩, rfl⟩ hj) (injO hj) rfl (by simp [V.wf, A.wf, C.wf]) ?_ | refine sane_k ?_ | refine br_bf (Eq.refl false) ?_ | refine CallK.m ?_)
          intro ρ; rfl
theorem ends_any (j : Coast) (o : List Int) (ao : Option Addr) (c : Nat) (bs : Nat → Option Addr × Nat) (po : Option Addr) (pc : Nat) (w : World) (h : CoastAt w ao c j bs) (ho : RoAt w po (o.map (Value.int .i64))) :
    Calls Try.prog 11 #[.slice ao j.length c, .slice po o.length pc] w fun e w' => e = .returned (.bool true) ∧ Below w.heap.size w w' := by
  rcases bool_or (longB j) with hl | hl
  · exact isTrue_any (vs := [V.c (.sl 0 j.length), V.c (.sl 21 o.length)]) (ends_spec j o (longB_sized hl) hl) (hp_order h (longB_sized hl) ho) (by simp [V.wf, A.wf, C.wf, V.i]) rfl
  · refine isTrue_any (vs := [V.c (.sl 0 j.length), V.c (.sl (j.length + 31) o.length)]) (ends_long j o h.lt hl) (hp_long h po pc) (by simp [V.wf, A.wf, C.wf, V.i]) ?_
    simp [V.den, A.den, C.den, C.i, V.i, coastE]
end Go.Proofs.Ytjijjncddjkdlaa

