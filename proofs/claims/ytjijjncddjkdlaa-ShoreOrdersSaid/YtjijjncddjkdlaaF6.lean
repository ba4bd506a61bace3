/- Texts of the proof, part 6: N2, N3, N4, L3, L5. -/
import Derived.Test.YtjijjncddjkdlaaF5
import Derived.WalkKit
import Derived.Below
import Derived.Laws.OwnMore
import Derived.Maps.AppendAt
import Derived.Laws.IdiomCopy
import Derived.Laws.CopyRow
import Derived.IntWalk
import Derived.StillTail
import Derived.Scope
import Derived.ChangeKeysEq
import Derived.Laws.Small
import Derived.OrdersIn
import Derived.TacticsIn
import Derived.OwnWalkIn
import Derived.RangeFuncNested
import Derived.RangeFuncLeaves
import Derived.RangeFuncRecord
import Derived.Test.YtjijjncddjkdlaaRows
import Derived.KernelRfl
import Derived.ProofKit
import Derived.OpenShut
import Derived.Lib.SmallJoins
import Derived.Deep.Slices
import Derived.PlainAid
import Derived.StillTailTactics
import Derived.WalkSpells
import Derived.OwnWalk
/- Shore: results that are rows of rows; the reference's Done. -/
namespace Go.Proofs.Ytjijjncddjkdlaa
open Go.RowKit
set_option linter.unusedVariables false
set_option linter.unusedSimpArgs false
section
variable {α : Type} {kd : Kd} {cs : α → List C} {ln : α → Nat} {d : α}
/-- Rows and an error. -/
def rowsR (t : Nat) (kd : Kd) (cs : α → List C) (ln : α → Nat) (d : α) (l : List α) (Er : Int) (v : V) (L' : List E) : Prop :=
  ∃ o : C, v = V.tup [A.c o, A.c (C.i Er)] ∧ ((o = C.nil ∧ l = []) ∨ ∃ lab, o = C.sl lab l.length ∧ find L' lab = some ⟨lab, .vec t 1, famS ln 40 l⟩ ∧ ∀ k, k < l.length → find L' (k + 40) = some ⟨k + 40, kd, cs (l.getD k d)⟩)
/-- The names of rows that a call gives, as the callee has them. -/
def shiftR (b c n : Nat) : Rn := (List.range n).map fun k => (k + b, some (k + c))
theorem renL_shift {b c l : Nat} : ∀ {n : Nat}, renL (shiftR b c n) l = if b ≤ l ∧ l < b + n then some (l - b + c) else some l := by
  have key : ∀ {r : List Nat}, renL (r.map fun k => (k + b, some (k + c))) l = if ∃ k ∈ r, k + b = l then some (l - b + c) else some l := by
    intro r
    induction r with
    | nil => simp [renL]
    | cons a r ih =>
      simp only [List.map_cons, renL]
      cases hb : Nat.beq (a + b) l with
      | true =>
        have := Nat.eq_of_beq_eq_true hb
        simp only [cond_true]
        rw [if_pos ⟨a, by simp, this⟩]
        congr 1; omega
      | false =>
        have hne : a + b ≠ l := fun e => by rw [e, Nat.beq_refl] at hb; cases hb
        simp only [cond_false]
        rw [ih]
        congr 1
        simp only [List.mem_cons, eq_iff_iff]
        exact ⟨fun ⟨k, h1, h2⟩ => ⟨k, .inr h1, h2⟩, fun ⟨k, h1, h2⟩ => h1.elim (fun e => absurd (by rw [e] at h2; exact h2) hne) (fun h => ⟨k, h, h2⟩)⟩
  intro n
  unfold shiftR
  rw [key]
  congr 1
  simp only [List.mem_range, eq_iff_iff]
  exact ⟨fun ⟨k, h1, h2⟩ => by omega, fun h => ⟨l - b, by omega, by omega⟩⟩
theorem famS_shift {a b c n : Nat} {o : Option Nat} : ∀ {m : Nat} {l : List α}, b ≤ m → m + l.length ≤ b + n → a < b → seqO ((famS ln m l).map (C.ren ((a, o) :: shiftR b c n))) = some (famS ln (m - b + c) l)
  | m, [], _, _, _ => rfl
  | m, x :: r, h1, h2, h3 => by
    simp only [List.length_cons] at h2
    simp only [famS, List.map_cons, C.ren, renL, beq_ne (show a ≠ m by omega), cond_false]
    rw [renL_shift, if_pos (by omega)]
    simp only [seqO, famS_shift (a := a) (o := o) (b := b) (c := c) (n := n) (m := m + 1) (l := r) (by omega) (by omega) h3]
    rw [show m + 1 - b + c = m - b + c + 1 by omega]
theorem injB_of {R : Rn} : ∀ {L : List E}, (L.map E.lab).Nodup → (∀ e ∈ L, ∀ e' ∈ L, e.lab ≠ e'.lab → ∀ a, renL R e.lab = some a → renL R e'.lab = some a → False) → injB R L = true
  | [], _, _ => rfl
  | e :: r, hn, h => by
    simp only [List.map_cons, List.nodup_cons] at hn
    rw [injB, Bool.and_eq_true]
    refine ⟨List.all_eq_true.2 fun e' he' => ?_, injB_of hn.2 (fun x hx y hy => h x (by simp [hx]) y (by simp [hy]))⟩
    have hne : e'.lab ≠ e.lab := fun h => hn.1 (by rw [← h]; exact List.mem_map.2 ⟨e', he', rfl⟩)
    rw [beq_ne hne]
    cases h1 : renL R e.lab with
    | none => rfl
    | some a =>
      cases h2 : renL R e'.lab with
      | none => rfl
      | some b =>
        have hab : a ≠ b := fun e1 => h e (by simp) e' (by simp [he']) (fun e2 => hne e2.symm) a h1 (by rw [h2, e1])
        simp [beq_ne hab]
theorem CallK.rows {P : Program} {n0 nx nac t : Nat} {f : FuncId} {vs vs' : List V} {Lc L : List E} {R : Rn} {K : V → List E → Nat → Prop} {l : List α} {Er : Int} (B : Nat) (hB : nx < B) (hp : Plain cs) (hck : ∀ p x, (cs x).all (C.chk p) = true) (hkd : kd.isRo = false) (hkt : kd ≠ .vec t 1) (hl : l.length ≤ 20) (spec : Spec P f vs Lc nac (fun v L' _ => rowsR t kd cs ln d l Er v L')) (hok : callB P f = true)
    (hv : renVs R vs = some vs') (hvw : ∀ v ∈ vs, v.wf nac) (hL : roL R nac L Lc) (hLc : injB [] Lc = true)
    (hK : K (V.tup [A.c (.sl nx l.length), A.c (C.i Er)]) (⟨nx, .vec t 1, famS ln B l⟩ :: famE kd cs B l) (B + 20)) : CallK P n0 f vs' L nx K := by
  refine CallK.mk' hok spec hv hvw hL hLc ?_
  have hin : inLab nx (B + 20) nx = true := by simp only [inLab, Bool.and_eq_true]; rw [Nat.ble_eq, Nat.blt_eq]; omega
  have hin2 : ∀ k, k < l.length → inLab nx (B + 20) (k + B) = true := fun k hk => by
    simp only [inLab, Bool.and_eq_true]; rw [Nat.ble_eq, Nat.blt_eq]; omega
  rintro v L' nx' hw ⟨o, rfl, ⟨rfl, rfl⟩ | ⟨lab, rfl, hf, hfk⟩⟩
  · refine ⟨V.tup [A.c (.sl nx 0), A.c (C.i Er)], [⟨nx, .vec t 1, []⟩], B + 20, [(nx, none)], ⟨by omega, ?_, ?_, ⟨covE_nil (renL_one _ _) (by simp only; omega) rfl rfl, trivial⟩, rfl, ?_⟩, hK⟩
    · simp [V.ren, A.ren, C.ren, renL_one, C.i, seqO]
    · simp [V.chk, A.chk, C.chk, hin, C.i]
    · simp only [List.all_cons, List.all_nil, Bool.and_true, hin, Kd.isRo, Bool.not_false]
  · refine ⟨V.tup [A.c (.sl nx l.length), A.c (C.i Er)], ⟨nx, .vec t 1, famS ln B l⟩ :: famE kd cs B l, B + 20, (nx, some lab) :: shiftR B 40 l.length, ⟨by omega, ?_, ?_, ⟨covE_some (by simp [renL]) (show nx < B + 20 by omega) (wf_famS _ _ _ (by omega)) hf ?_, ?_⟩, ?_, ?_⟩, hK⟩
    · simp [V.ren, A.ren, C.ren, renL, C.i, seqO]
    · simp [V.chk, A.chk, C.chk, hin, C.i]
    · have := famS_shift (ln := ln) (a := nx) (o := some lab) (b := B) (c := 40) (n := l.length) (m := B) (l := l) (Nat.le_refl _) (Nat.le_refl _) (by omega)
      rw [Nat.sub_self, Nat.zero_add] at this
      exact this
    · refine covL_all fun e he => ?_
      obtain ⟨i, hi, rfl⟩ := famE_mem (d := d) he
      refine covE_some (l := i + 40) ?_ (by simp only; omega) (hp.wf _ _) (hfk i hi) (hp.ren _ _)
      simp only [renL, beq_ne (show nx ≠ i + B by omega), cond_false]
      rw [renL_shift, if_pos (by omega)]
      congr 1; omega
    · have hr : ∀ i, i < l.length → renL ((nx, some lab) :: shiftR B 40 l.length) (i + B) = some (i + 40) := fun i hi => by
        simp only [renL, beq_ne (show nx ≠ i + B by omega), cond_false]
        rw [renL_shift, if_pos (by omega)]
        congr 1; omega
      have hlab : ∀ i, i < l.length → lab ≠ i + 40 := fun i hi e1 => by
        rw [e1, hfk i hi] at hf
        simp only [Option.some.injEq, E.mk.injEq] at hf
        exact hkt hf.2.1
      have hr0 : renL ((nx, some lab) :: shiftR B 40 l.length) nx = some lab := by simp [renL]
      refine injB_of ?_ ?_
      · rw [List.map_cons, famE_labs, List.nodup_cons]
        exact ⟨fun hm => by have := List.mem_range'_1.1 hm; simp only at this; omega, range_nd _ _⟩
      · intro e he e' he' hne a h1 h2
        rcases List.mem_cons.1 he with rfl | he
        · rcases List.mem_cons.1 he' with rfl | he'
          · exact hne rfl
          · obtain ⟨i, hi, rfl⟩ := famE_mem (d := d) he'
            simp only at h1 h2
            rw [hr0] at h1; rw [hr i hi] at h2
            cases h1; cases h2
            exact hlab i hi rfl
        · obtain ⟨i, hi, rfl⟩ := famE_mem (d := d) he
          simp only at h1
          rw [hr i hi] at h1; cases h1
          rcases List.mem_cons.1 he' with rfl | he'
          · simp only at h2
            rw [hr0] at h2; cases h2
            exact hlab i hi rfl
          · obtain ⟨i', hi', rfl⟩ := famE_mem (d := d) he'
            simp only at h2 hne
            rw [hr i' hi'] at h2; cases h2
            omega
    · rw [List.all_cons, Bool.and_eq_true]
      refine ⟨?_, List.all_eq_true.2 fun e he => ?_⟩
      · simp only [hin, Kd.isRo, Bool.not_false, Bool.true_and]
        refine List.all_eq_true.2 fun c hc => ?_
        have : ∀ {m : Nat} {l' : List α}, nx ≤ m → m + l'.length ≤ B + 20 → ∀ c ∈ famS ln m l', C.chk (inLab nx (B + 20)) c = true := by
          intro m l'
          induction l' generalizing m with
          | nil => intro _ _ c hc; cases hc
          | cons x r ih =>
            intro h1 h2 c hc
            simp only [List.length_cons] at h2
            rcases List.mem_cons.1 hc with rfl | hc
            · simp only [C.chk, inLab, Bool.and_eq_true]; rw [Nat.ble_eq, Nat.blt_eq]; omega
            · exact ih (m := m + 1) (by omega) (by omega) c hc
        exact this (by omega) (by omega) c hc
      · obtain ⟨i, hi, rfl⟩ := famE_mem (d := d) he
        simp only [hin2 i hi, hkd, Bool.not_false, Bool.true_and]
        exact hck _ _
theorem CallM.rows {P : Program} {n0 nx nac t : Nat} {f : FuncId} {vs vs' : List V} {Lc L : List E} {R : Rn} {K : V → List E → Nat → Prop} {l : List α} {Er : Int} (B : Nat) (hB : nx < B) (hp : Plain cs) (hck : ∀ p x, (cs x).all (C.chk p) = true) (hkd : kd.isRo = false) (hkt : kd ≠ .vec t 1) (hl : l.length ≤ 20) (spec : Spec P f vs Lc nac (fun v L' _ => rowsR t kd cs ln d l Er v L')) (hok : callB P f = true)
    (hv : renVs R vs = some vs') (hvw : ∀ v ∈ vs, v.wf nac) (hL : roL R nac L Lc) (hLc : injB [] Lc = true)
    (hK : K (V.tup [A.c (.sl nx l.length), A.c (C.i Er)]) (⟨nx, .vec t 1, famS ln B l⟩ :: (famE kd cs B l ++ L)) (B + 20)) : CallM P n0 f vs' L nx K :=
  CallK.m (CallK.rows (d := d) B hB hp hck hkd hkt hl spec hok hv hvw hL hLc (by rw [appK_eq]; exact hK))
end
theorem appK_fam {α : Type} {e : E} {kd : Kd} {cs : α → List C} {b : Nat} {l : List α} {L : List E} {K : List E → Prop} (hK : K (e :: (famE kd cs b l ++ L))) : appK (e :: famE kd cs b l) L K := by
  rw [appK_eq]; exact hK
theorem ren_sl1 {R : Rn} {l n : Nat} (h : renL R l = some l) : seqO (([.sl l n] : List C).map (C.ren R)) = some [.sl l n] := by simp [C.ren, h, seqO]
/-- The hours at which the jobs of each beach are done, of the first jobs of an order. -/
def doneL (j : Coast) (o : List Int) : Nat → List (List Int)
  | 0 => List.replicate j.length []
  | i + 1 => (doneL j o i).set (beachO o i) ((doneL j o i).getD (beachO o i) [] ++ [hourO j o (i + 1)])
theorem doneL_len {j : Coast} {o : List Int} : ∀ {i : Nat}, (doneL j o i).length = j.length
  | 0 => by simp [doneL]
  | i + 1 => by simp [doneL, doneL_len (i := i)]
theorem doneL_cnt {j : Coast} {o : List Int} {b : Nat} (ho : OrdOk j o) (hb : b < j.length) : ∀ {i : Nat}, i ≤ o.length → ((doneL j o i).getD b []).length = cntO o i b
  | 0, _ => by simp [doneL, cntO, List.getD_eq_getElem?_getD, hb]
  | i + 1, hi => by
    have ih := doneL_cnt (i := i) ho hb (by omega)
    obtain ⟨h1, h2⟩ := ho.beach i (by omega)
    have hc := cntO_succ (o := o) (i := i) (b := b) (by omega)
    simp only [doneL]
    have hg : ((doneL j o i).set (beachO o i) ((doneL j o i).getD (beachO o i) [] ++ [hourO j o (i + 1)])).getD b [] = if b = beachO o i then (doneL j o i).getD (beachO o i) [] ++ [hourO j o (i + 1)] else (doneL j o i).getD b [] := by
      simp only [List.getD_eq_getElem?_getD, List.getElem?_set]
      by_cases h : b = beachO o i
      · subst h; simp [doneL_len, h2]
      · rw [if_neg (fun e => h e.symm), if_neg h]
    rw [hg]
    by_cases h : b = beachO o i
    · subst h
      rw [if_pos rfl, List.length_append, ih, hc, if_pos h1]; rfl
    · rw [if_neg h, ih, hc, if_neg (by omega)]; rfl
abbrev rowE : Kd := .vec 3 1
theorem len_ints : ∀ {l : List Int}, (l.map C.i).length = l.length := List.length_map ..
set_option maxHeartbeats 1000000 in
set_option maxRecDepth 100000 in
theorem rDone_spec (j : Coast) (o : List Int) (hj : Sized j) (ho : o.length ≤ 200) (hv : validL j = true) (hi : isOrdB j o = true) : Spec Try.prog 29 [V.c (.sl 0 j.length), V.c (.sl 21 o.length)] (⟨0, .ro 1, slsC 1 j⟩ :: ⟨21, .ro 0, o.map C.i⟩ :: entC 1 j) 32 (fun v L' _ => rowsR 35 rowE (List.map C.i) List.length [] (doneL j o o.length) 0 v L') := by
  have hj20 := hj.len
  have hlen := slsC_len (b := 1) (j := j)
  have hm := validL_many hv
  have hc := validL_coast hj hv
  have hoo := isOrd_ok hi
  have hA := asked_spec j o hj ho
  rw [hv, ris_eq (by omega), hi] at hA
  simp only [if_true] at hA
  refine Spec.of tok Try.func29 rfl rfl rfl fun n0 cx => vc_ok tok ?_
  repeat ((conv => whnf); first
      | (refine And.intro (by first | omega | exact Nat.le_of_ble_eq_true rfl | (dsimp only [inK]; omega) | (simp only [mulS_eq]; omega) | (simp only [mulS_eq, setL_length]; omega) | (simp only [setL_length, List.length_map]; omega) | exact ⟨by omega, by omega, by first | exact Nat.le_of_ble_eq_true rfl | (dsimp only; omega) | (simp only [setL_length]; omega) | (simp only [setL_length, List.length_map]; omega)⟩ | exact ⟨by omega, by first | rfl | omega, by omega, Nat.le_of_ble_eq_true rfl, Nat.le_of_ble_eq_true rfl⟩ | exact ⟨rfl, rfl, rfl, Nat.le_of_ble_eq_true rfl, by first | rfl | omega | exact Nat.le_of_ble_eq_true rfl | (simp; done) | (simp; omega), by first | rfl | omega | exact Nat.le_of_ble_eq_true rfl | (simp; done) | (simp; omega), by omega, Nat.le_of_ble_eq_true rfl⟩ | exact Eq.refl true) ?_)
      | (refine Exists.intro _ (And.intro rfl ?_))
      | (refine And.intro (And.intro rfl (chk_rowI _ _ _ _)) ?_)
      | (refine br_t (by omega) ?_)
      | (refine br_f (by omega) ?_)
      | (refine bs_t (by omega) ?_)
      | (refine bs_f (by omega) ?_)
      | (refine fun (K' : K3) hK' => ?_)
      | (refine hK' _ _ _ ?_; clear hK' K')
      | (refine draw_auto tok mixed (by kernel_rfl) ?_)
      | (refine CallK.val (R := []) hA (by kernel_rfl) rfl (by simp [V.wf, A.wf, C.wf]) (HasO.ro ⟨⟨rfl, fun k hk => by (repeat (first | rw [find_skip (by omega)] | rw [find_hi (by omega) (by rfl)])); exact entC_find hk⟩, rfl⟩ hj) (injO hj) rfl trivial ?_)
      | (refine bs_bt (Eq.refl true) ?_)
      | (refine bs_bf (Eq.refl false) ?_)
      | (refine br_bt (Eq.refl true) ?_)
      | (refine br_bf (Eq.refl false) ?_)
      | (refine CallK.m ?_)
      | (refine And.intro (And.intro rfl rfl) ?_))
  refine Tri.loop (γ := Nat) (fun i => i ≤ o.length) (fun i => [(0, V.c (.sl 0 j.length)), (1, V.c (.sl 21 o.length)), (7, V.c (.sl 32 j.length)), (8, V.i (hourO j o i)), (9, V.i (i : Nat))])
    (fun i => ⟨32, .vec 35 1, famS List.length 40 (doneL j o i)⟩ :: ⟨0, .ro 1, slsC 1 j⟩ :: ⟨21, .ro 0, o.map C.i⟩ :: (famE rowE (List.map C.i) 40 (doneL j o i) ++ entC 1 j)) 60 (fun i => o.length - i) 0 (R0 := nones 40 j.length) ?_ ?_ ?_
  · omega
  · refine ⟨?_, ?_, inj_none (p := [_, _, _]) (tail_fam (by rw [doneL_len]; omega) hj20) rfl (by simp), fix_nones (by omega), by omega⟩
    · repeat (first | exact trivial | refine And.intro (covS_syn (by first | rfl | exact (rsl (renL_nones_out (by omega))).symm) rfl (by first | exact trivial | exact Nat.le_of_ble_eq_true rfl)) ?_)
    · refine ⟨covE_some (renL_nones_out (.inl (Nat.le_of_ble_eq_true rfl))) (by simp only; omega) (wf_famS _ _ _ (by rw [doneL_len]; omega)) rfl (famS_nones rfl), covE_some (renL_nones_out (.inl (Nat.le_of_ble_eq_true rfl))) (by simp only; omega) (wf_sls _ _ _ (by omega)) rfl (ren_sls_of (fun l hl => renL_nones_out (by omega)) (by omega)), covE_some (renL_nones_out (.inl (Nat.le_of_ble_eq_true rfl))) (by simp only; omega) (wf_ints _ _) rfl (ren_ints _ _), covL_app (cov_nones rfl (by omega)) (cov_ent (fun k hk => renL_nones_out (by omega)) (by omega) (fun k hk => by ((try (conv => lhs; arg 1; whnf)); (repeat (first | rw [find_skip (by omega)] | rw [find_hi (by omega) (by rfl)])); exact entC_find hk)))⟩
  · intro i hii
    by_cases hlt : i < o.length
    · obtain ⟨hz, hb⟩ := hoo.beach i hlt
      have hpl := hoo.place i hlt
      have hdl := doneL_len (j := j) (o := o) (i := i)
      have hdc := doneL_cnt hoo hb hii
      obtain ⟨b, hbe⟩ : ∃ b, b = beachO o i := ⟨_, rfl⟩
      rw [← hbe] at hz hb hpl hdc
      refine Tri.enter (R := [(39, some (b + 40))]) (nx' := 60) (s' := [(0, V.c (.sl 0 j.length)), (1, V.c (.sl 21 o.length)), (7, V.c (.sl 32 j.length)), (8, V.i (hourO j o i)), (9, V.i (i : Nat))])
        (L' := ⟨39, rowE, ((doneL j o i).getD b []).map C.i⟩ :: ⟨32, .vec 35 1, (famS List.length 40 (doneL j o i)).set b (.sl 39 ((doneL j o i).getD b []).length)⟩ :: ⟨0, .ro 1, slsC 1 j⟩ :: ⟨21, .ro 0, o.map C.i⟩ :: (rmL (famE rowE (List.map C.i) 40 (doneL j o i)) (b + 40) ++ entC 1 j)) ?_ ?_
      case refine_2 =>
        refine ⟨?_, ?_, inj_view (p := [_, _, _, _]) (by omega) hj20 (by omega) rfl (by simp), rfl, by omega⟩
        · repeat (first | exact trivial | refine And.intro (covS_syn (by first | rfl) rfl (by first | exact trivial | exact Nat.le_of_ble_eq_true rfl)) ?_)
        · refine ⟨covE_some (l := b + 40) rfl (by simp only; omega) (wf_ints _ _) (by (repeat rw [find_skip (by omega)]); exact tail_row (by omega)) (ren_ints _ _), covE_some rfl (by simp only; omega) ?_ rfl (famS_view (fun i => by omega) (by omega)), covE_some rfl (by simp only; omega) (wf_sls _ _ _ (by omega)) rfl (ren_sls_of (fun l hl => renL_ne (by omega)) (by omega)), covE_some rfl (by simp only; omega) (wf_ints _ _) rfl (ren_ints _ _), covL_app (cov_rm (d := []) plain_ints (by omega) (fun i hi _ => renL_ne (by omega)) (fun i hi => by (repeat rw [find_skip (by omega)]); exact tail_row hi)) (cov_ent (fun k hk => renL_ne (by omega)) (by omega) (fun k hk => by (repeat rw [find_skip (by omega)]); exact tail_be hk hj20))⟩
          intro c hc
          rcases List.mem_or_eq_of_mem_set hc with hc | rfl
          · exact wf_famS _ _ _ (by omega) c hc
          · show 39 < 60; omega
      refine vc_ok tok ?_
      have hT := tail_rm (kd := rowE) (cs := List.map C.i) (l := doneL j o i) (j := j) (x := b + 40) (by omega) hj20
      have hom : (o.map C.i).length = o.length := by simp
      have hfl : ((famS List.length 40 (doneL j o i)).set b (.sl 39 ((doneL j o i).getD b []).length)).length = j.length := by simp [hdl]
      have hjl := jobC_len (j.getD b [])
      have hjb := jobO_bd hc hoo hlt
      have hhb := hourO_bd hc hoo i hii
      have ho100 := hoo.len
      have hcnt : cntO o i b ≤ 100 := by have := (hc.jobs _ hb).2; omega
      have hrl : (((doneL j o i).getD b []).map C.i).length = cntO o i b := by rw [List.length_map, hdc]
      have hpl2 : ((doneL j o i).getD b []).length < (j.getD b []).length := by rw [hdc]; exact hpl
      have hjo : jobO j o i = (j.getD b []).getD ((doneL j o i).getD b []).length (0, 0) := by unfold jobO; rw [← hbe, hdc]
      rw [hjo] at hjb
      repeat ((conv => whnf); first
          | (refine And.intro (by first | omega | exact Nat.le_of_ble_eq_true rfl | (dsimp only [inK]; omega) | (simp only [mulS_eq]; omega) | (simp only [mulS_eq, setL_length]; omega) | (simp only [setL_length, List.length_map]; omega) | exact ⟨by omega, by omega, by first | exact Nat.le_of_ble_eq_true rfl | (dsimp only; omega) | (simp only [setL_length]; omega) | (simp only [setL_length, List.length_map]; omega)⟩ | exact ⟨by omega, by first | rfl | omega, by omega, Nat.le_of_ble_eq_true rfl, Nat.le_of_ble_eq_true rfl⟩ | exact ⟨rfl, rfl, rfl, Nat.le_of_ble_eq_true rfl, by first | rfl | omega | exact Nat.le_of_ble_eq_true rfl | (simp; done) | (simp; omega), by first | rfl | omega | exact Nat.le_of_ble_eq_true rfl | (simp; done) | (simp; omega), by omega, Nat.le_of_ble_eq_true rfl⟩ | exact Eq.refl true) ?_)
          | (with_reducible refine ld (intL hlt) ?_)
          | (with_reducible refine ld (famV hz (by omega)) ?_)
          | (with_reducible refine ld (slLz hz hb) ?_)
          | (with_reducible refine ld (jobL0 hpl2) ?_)
          | (refine Exists.intro _ (And.intro rfl ?_))
          | (refine And.intro (And.intro rfl (chk_rowI _ _ _ _)) ?_)
          | (refine br_t (by omega) ?_)
          | (refine br_f (by omega) ?_)
          | (refine bs_t (by omega) ?_)
          | (refine bs_f (by omega) ?_)
          | (refine fun (K' : K3) hK' => ?_)
          | (refine hK' _ _ _ ?_; clear hK' K')
          | (refine draw_auto tok mixed (by kernel_rfl) ?_)
          | (refine onV_ld (c := ⟨1 + b, .ro 2, jobC (j.getD b [])⟩) (by (try (conv => lhs; arg 1; whnf)); (repeat (first | rw [find_skip (by omega)] | rw [find_hi (by omega) (by rfl)])); exact tail_rm_be hb hj20) ?_)
          | (with_reducible refine rmK_tail hT rfl ?_)
          | (with_reducible refine updK_tail hT rfl ?_)
          | (refine bs_bt (Eq.refl true) ?_)
          | (refine bs_bf (Eq.refl false) ?_)
          | (refine br_bt (Eq.refl true) ?_)
          | (refine br_bf (Eq.refl false) ?_)
          | (refine CallK.m ?_)
          | (refine And.intro (And.intro rfl rfl) ?_))
      refine ⟨i + 1, [(b + 40, some 61)], by omega, by omega, ?_⟩
      have hh : hourO j o (i + 1) = hourO j o i + ((j.getD b []).getD ((doneL j o i).getD b []).length (0, 0)).1 := by simp only [hourO]; rw [hjo]
      have hD : doneL j o (i + 1) = (doneL j o i).set b ((doneL j o i).getD b [] ++ [hourO j o (i + 1)]) := by rw [hbe]; rfl
      have hrow : ((doneL j o i).getD b []).map C.i ++ [C.i (hourO j o i + ((j.getD b []).getD ((doneL j o i).getD b []).length (0, 0)).1)] = ((doneL j o i).getD b [] ++ [hourO j o (i + 1)]).map C.i := by rw [List.map_append, hh]; rfl
      have hln : ((doneL j o i).getD b [] ++ [hourO j o (i + 1)]).length = ((doneL j o i).getD b []).length + 1 := by simp
      have hfe := famS_end (ln := List.length) (b := 40) (y := 61) (v := 0) (w := 0) (x := (doneL j o i).getD b [] ++ [hourO j o (i + 1)]) (l := doneL j o i) (c := .sl 39 ((doneL j o i).getD b []).length) (show b < _ by omega) hz
      rw [hln] at hfe
      rw [hD]
      refine ⟨?_, ?_, inj_end (p := [_, _, _]) (tail_fam (by rw [List.length_set]; omega) hj20) rfl (by simp) rfl (by simp), by first | rfl | (simp [fixB, Nat.ble_eq]; omega), by omega⟩
      · repeat (first | exact trivial | refine And.intro (covS_syn (by first | rfl | exact (rsl (renL_ne (by omega))).symm | (refine congrArg some (congrArg V.i ?_); omega) | (refine congrArg some (congrArg V.i ?_); exact hh.symm)) rfl (by first | exact trivial | exact Nat.le_of_ble_eq_true rfl)) ?_)
      · refine ⟨covE_some (renL_ne (by simp only; omega)) (by simp only; omega) (wf_famS _ _ _ (by rw [List.length_set]; omega)) rfl hfe, covE_some (renL_ne (by simp only; omega)) (by simp only; omega) (wf_sls _ _ _ (by omega)) rfl (ren_sls_of (fun l hl => renL_ne (by omega)) (by omega)), covE_some (renL_ne (by simp only; omega)) (by simp only; omega) (wf_ints _ _) rfl (ren_ints _ _), covL_app (cov_set (d := []) plain_ints (by omega) (congrArg (fun m => some (E.mk 61 (.vec 3 1) m)) hrow) (fun i' hi' hne => by (repeat rw [find_skip (by omega)]); exact tail_rm_row hi' hne)) (cov_ent (fun k hk => renL_ne (by omega)) (by omega) (fun k hk => by (repeat rw [find_skip (by omega)]); exact tail_rm_be hk hj20))⟩
    · refine vc_ok tok ?_
      obtain rfl : i = o.length := by omega
      repeat ((conv => whnf); first
          | (refine And.intro (by first | omega | exact Nat.le_of_ble_eq_true rfl | (dsimp only [inK]; omega) | (simp only [mulS_eq]; omega) | (simp only [mulS_eq, setL_length]; omega) | (simp only [setL_length, List.length_map]; omega) | exact ⟨by omega, by omega, by first | exact Nat.le_of_ble_eq_true rfl | (dsimp only; omega) | (simp only [setL_length]; omega) | (simp only [setL_length, List.length_map]; omega)⟩ | exact ⟨by omega, by first | rfl | omega, by omega, Nat.le_of_ble_eq_true rfl, Nat.le_of_ble_eq_true rfl⟩ | exact ⟨rfl, rfl, rfl, Nat.le_of_ble_eq_true rfl, by first | rfl | omega | exact Nat.le_of_ble_eq_true rfl | (simp; done) | (simp; omega), by first | rfl | omega | exact Nat.le_of_ble_eq_true rfl | (simp; done) | (simp; omega), by omega, Nat.le_of_ble_eq_true rfl⟩ | exact Eq.refl true) ?_)
          | (refine Exists.intro _ (And.intro rfl ?_))
          | (refine And.intro (And.intro rfl (chk_rowI _ _ _ _)) ?_)
          | (refine br_t (by omega) ?_)
          | (refine br_f (by omega) ?_)
          | (refine bs_t (by omega) ?_)
          | (refine bs_f (by omega) ?_)
          | (refine fun (K' : K3) hK' => ?_)
          | (refine hK' _ _ _ ?_; clear hK' K')
          | (refine draw_auto tok mixed (by kernel_rfl) ?_)
          | (refine bs_bt (Eq.refl true) ?_)
          | (refine bs_bf (Eq.refl false) ?_)
          | (refine br_bt (Eq.refl true) ?_)
          | (refine br_bf (Eq.refl false) ?_)
          | (refine CallK.m ?_)
          | (refine And.intro (And.intro rfl rfl) ?_))
      exact .inr ⟨32, by rw [doneL_len], rfl, fun k hk => by (repeat rw [find_skip (by omega)]); exact tail_row hk⟩
end Go.Proofs.Ytjijjncddjkdlaa

/- Shore: Done. -/
namespace Go.Proofs.Ytjijjncddjkdlaa
open Go.RowKit
set_option linter.unusedVariables false
set_option linter.unusedSimpArgs false
theorem chk_rowA (p : Nat → Bool) (l : List Int) (z : Int) (lab : Nat) (kd : Kd) : (([⟨lab, kd, l.map C.i ++ [C.i z]⟩] : List E).all fun e => e.cs.all (C.chk p)) = true := by
  simp only [List.all_cons, List.all_nil, Bool.and_true, List.all_append, chk_ints, Bool.true_and]
  rfl
set_option maxHeartbeats 1000000 in
set_option maxRecDepth 100000 in
theorem Done_spec (j : Coast) (o : List Int) (hj : Sized j) (ho : o.length ≤ 200) (hv : validL j = true) (hi : isOrdB j o = true) : Spec Try.prog 28 [V.c (.sl 0 j.length), V.c (.sl 21 o.length)] (⟨0, .ro 1, slsC 1 j⟩ :: ⟨21, .ro 0, o.map C.i⟩ :: entC 1 j) 32 (fun v L' _ => rowsR 35 rowE (List.map C.i) List.length [] (doneL j o o.length) 0 v L') := by
  have hj20 := hj.len
  have hlen := slsC_len (b := 1) (j := j)
  have hm := validL_many hv
  have hc := validL_coast hj hv
  have hoo := isOrd_ok hi
  have ho100 := hoo.len
  have hO := hasO0 (o := o) hj
  refine Spec.of tok Try.func28 rfl rfl rfl fun n0 cx => vc_ok tok ?_
  repeat ((conv => whnf); first
      | (refine And.intro (by first | omega | exact Nat.le_of_ble_eq_true rfl | (dsimp only [inK]; omega) | (simp only [mulS_eq]; omega) | (simp only [mulS_eq, setL_length]; omega) | (simp only [setL_length, List.length_map]; omega) | exact ⟨by omega, by omega, by first | exact Nat.le_of_ble_eq_true rfl | (dsimp only; omega) | (simp only [setL_length]; omega) | (simp only [setL_length, List.length_map]; omega)⟩ | exact ⟨by omega, by first | rfl | omega, by omega, Nat.le_of_ble_eq_true rfl, Nat.le_of_ble_eq_true rfl⟩ | exact ⟨rfl, rfl, rfl, Nat.le_of_ble_eq_true rfl, by first | rfl | omega | exact Nat.le_of_ble_eq_true rfl | (simp; done) | (simp; omega), by first | rfl | omega | exact Nat.le_of_ble_eq_true rfl | (simp; done) | (simp; omega), by omega, Nat.le_of_ble_eq_true rfl⟩ | exact Eq.refl true) ?_)
      | (refine Exists.intro _ (And.intro rfl ?_))
      | (refine And.intro (And.intro rfl (chk_rowI _ _ _ _)) ?_)
      | (refine br_t (by omega) ?_)
      | (refine br_f (by omega) ?_)
      | (refine bs_t (by omega) ?_)
      | (refine bs_f (by omega) ?_)
      | (refine fun (K' : K3) hK' => ?_)
      | (refine hK' _ _ _ ?_; clear hK' K')
      | (refine CallM.eq (by kernel_rfl) (ordered_spec j o hj ho _ _ hO) ?_)
      | (refine CallM.eq (by kernel_rfl) (visits_spec _ _ _ _ _ _) ?_)
      | (refine draw_auto tok mixed (by kernel_rfl) ?_)
      | (rw [hv])
      | (rw [hi])
      | (with_reducible refine updK_ent (by omega) ?_)
      | (refine bs_bt (Eq.refl true) ?_)
      | (refine bs_bf (Eq.refl false) ?_)
      | (refine br_bt (Eq.refl true) ?_)
      | (refine br_bf (Eq.refl false) ?_)
      | (refine CallK.m ?_)
      | (refine And.intro (And.intro rfl rfl) ?_))
  refine Tri.rangeFunc tok (by exact rfl) (by kernel_rfl) (by exact rfl) (by exact rfl) (by exact rfl) (by exact rfl) (by exact rfl) (by exact rfl) ?_
  intro y cxi oo ob od hy hY
  refine vc_ok tok ?_
  repeat ((conv => whnf); first
      | (refine And.intro (by first | omega | exact Nat.le_of_ble_eq_true rfl | (dsimp only [inK]; omega) | (simp only [mulS_eq]; omega) | (simp only [mulS_eq, setL_length]; omega) | (simp only [setL_length, List.length_map]; omega) | exact ⟨by omega, by omega, by first | exact Nat.le_of_ble_eq_true rfl | (dsimp only; omega) | (simp only [setL_length]; omega) | (simp only [setL_length, List.length_map]; omega)⟩ | exact ⟨by omega, by first | rfl | omega, by omega, Nat.le_of_ble_eq_true rfl, Nat.le_of_ble_eq_true rfl⟩ | exact ⟨rfl, rfl, rfl, Nat.le_of_ble_eq_true rfl, by first | rfl | omega | exact Nat.le_of_ble_eq_true rfl | (simp; done) | (simp; omega), by first | rfl | omega | exact Nat.le_of_ble_eq_true rfl | (simp; done) | (simp; omega), by omega, Nat.le_of_ble_eq_true rfl⟩ | exact Eq.refl true) ?_)
      | (refine Exists.intro _ (And.intro rfl ?_))
      | (refine And.intro (And.intro rfl (chk_rowI _ _ _ _)) ?_)
      | (refine br_t (by omega) ?_)
      | (refine br_f (by omega) ?_)
      | (refine bs_t (by omega) ?_)
      | (refine bs_f (by omega) ?_)
      | (refine fun (K' : K3) hK' => ?_)
      | (refine hK' _ _ _ ?_; clear hK' K')
      | (refine draw_auto tok mixed (by kernel_rfl) ?_)
      | (refine bs_bt (Eq.refl true) ?_)
      | (refine bs_bf (Eq.refl false) ?_)
      | (refine br_bt (Eq.refl true) ?_)
      | (refine br_bf (Eq.refl false) ?_)
      | (refine CallK.m ?_)
      | (refine And.intro (And.intro rfl rfl) ?_))
  refine Tri.loop (γ := Nat) (fun i => i ≤ o.length) (fun i => [(0, V.c (.v y)), (1, V.c (.ptr 34 0)), (2, V.c (.ptr 35 0)), (4, V.c (.sl 37 j.length)), (5, V.i (hourO j o i)), (12, V.c (.sl 21 o.length)), (13, V.i o.length), (14, V.i (i : Nat))])
    (fun i => ⟨37, .vec 3 1, (nextO j o i).map C.i⟩ :: ⟨36, .obj oo, []⟩ :: ⟨35, .own 35, [.sl 21 o.length]⟩ :: ⟨34, .own 57, [.sl 0 j.length]⟩ :: ⟨33, .own 39, [.sl 32 j.length]⟩ :: ⟨32, .vec 35 1, famS List.length 40 (doneL j o i)⟩ :: ⟨0, .ro 1, slsC 1 j⟩ :: ⟨21, .ro 0, o.map C.i⟩ :: (famE rowE (List.map C.i) 40 (doneL j o i) ++ entC 1 j)) 60 (fun i => o.length - i) 0 (R0 := nones 40 j.length) ?_ ?_ ?_
  · omega
  · have hdl0 := doneL_len (j := j) (o := o) (i := 0)
    have hR : ∀ l, l < 40 → renL (nones 40 j.length) l = some l := fun l hl => renL_nones_out (by omega)
    refine ⟨?_, ?_, inj_none (p := [_, _, _, _, _, _, _, _]) (tail_fam (by rw [doneL_len]; omega) hj20) rfl (by simp), fix_nones (Nat.le_of_ble_eq_true rfl), by first | exact Nat.le_of_ble_eq_true rfl | omega⟩
    · repeat (first | exact trivial | refine And.intro (covS_syn (by first | rfl | exact (rsl (hR _ (Nat.le_of_ble_eq_true rfl))).symm | exact (rptr (hR _ (Nat.le_of_ble_eq_true rfl))).symm) rfl (by first | exact trivial | exact Nat.le_of_ble_eq_true rfl | exact hy)) ?_)
    · repeat (first | (exact covL_app (cov_nones rfl (by omega)) (cov_ent (fun k hk => hR _ (by omega)) (by omega) (fun k hk => by ((try (conv => lhs; arg 1; whnf)); (repeat (first | rw [find_skip (by omega)] | rw [find_hi (by omega) (by rfl)])); exact entC_find hk)))) | refine And.intro (covE_some (hR _ (Nat.le_of_ble_eq_true rfl)) (Nat.le_of_ble_eq_true rfl) (by first | exact wf_ints _ _ | exact wf_bools _ _ | first | first | exact wf_sls _ _ _ (by omega) | exact wf_jobs _ _ | exact wf_famS _ _ _ (by omega) | simp [C.wf]) rfl (by first | exact ren_ints _ _ | exact ren_sls_of (fun l hl => hR l (by omega)) (by omega) | exact ren_sl1 (hR _ (Nat.le_of_ble_eq_true rfl)) | (exact famS_nones rfl) | (exact (ren_ints _ _).trans (congrArg some nextO_zero.symm)) | rfl)) ?_)
  · intro i hii
    by_cases hlt : i < o.length
    · obtain ⟨hz, hb⟩ := hoo.beach i hlt
      have hpl := hoo.place i hlt
      have hdl := doneL_len (j := j) (o := o) (i := i)
      have hdc := doneL_cnt hoo hb hii
      obtain ⟨b, hbe⟩ : ∃ b, b = beachO o i := ⟨_, rfl⟩
      rw [← hbe] at hz hb hpl hdc
      refine Tri.enter (R := [(39, some (b + 40))]) (nx' := 60) (s' := [(0, V.c (.v y)), (1, V.c (.ptr 34 0)), (2, V.c (.ptr 35 0)), (4, V.c (.sl 37 j.length)), (5, V.i (hourO j o i)), (12, V.c (.sl 21 o.length)), (13, V.i o.length), (14, V.i (i : Nat))])
        (L' := ⟨39, rowE, ((doneL j o i).getD b []).map C.i⟩ :: ⟨37, .vec 3 1, (nextO j o i).map C.i⟩ :: ⟨36, .obj oo, []⟩ :: ⟨35, .own 35, [.sl 21 o.length]⟩ :: ⟨34, .own 57, [.sl 0 j.length]⟩ :: ⟨33, .own 39, [.sl 32 j.length]⟩ :: ⟨32, .vec 35 1, (famS List.length 40 (doneL j o i)).set b (.sl 39 ((doneL j o i).getD b []).length)⟩ :: ⟨0, .ro 1, slsC 1 j⟩ :: ⟨21, .ro 0, o.map C.i⟩ :: (rmL (famE rowE (List.map C.i) 40 (doneL j o i)) (b + 40) ++ entC 1 j)) ?_ ?_
      case refine_2 =>
        have hR : ∀ l, l < 39 → renL [(39, some (b + 40))] l = some l := fun l hl => renL_ne (by omega)
        have hwv : ∀ c ∈ (famS List.length 40 (doneL j o i)).set b (.sl 39 ((doneL j o i).getD b []).length), c.wf 60 := by
          intro c hc
          rcases List.mem_or_eq_of_mem_set hc with hc | rfl
          · exact wf_famS _ _ _ (by omega) c hc
          · show 39 < 60; omega
        refine ⟨?_, ?_, inj_view (p := [_, _, _, _, _, _, _, _, _]) (by omega) hj20 (by omega) rfl (by simp), rfl, by first | exact Nat.le_of_ble_eq_true rfl | omega⟩
        · repeat (first | exact trivial | refine And.intro (covS_syn (by first | rfl | exact (rsl (hR _ (Nat.le_of_ble_eq_true rfl))).symm | exact (rptr (hR _ (Nat.le_of_ble_eq_true rfl))).symm) rfl (by first | exact trivial | exact Nat.le_of_ble_eq_true rfl | exact hy)) ?_)
        · repeat (first | (exact covL_app (cov_rm (d := []) plain_ints (by omega) (fun i hi _ => renL_ne (by omega)) (fun i hi => by (repeat rw [find_skip (by omega)]); exact tail_row hi)) (cov_ent (fun k hk => renL_ne (by omega)) (by omega) (fun k hk => by (repeat rw [find_skip (by omega)]); exact tail_be hk hj20))) | (refine And.intro (covE_some (l := b + 40) rfl (Nat.le_of_ble_eq_true rfl) (wf_ints _ _) (by (repeat rw [find_skip (by omega)]); exact tail_row (by omega)) (ren_ints _ _)) ?_) | (refine And.intro (covE_some (hR _ (Nat.le_of_ble_eq_true rfl)) (Nat.le_of_ble_eq_true rfl) hwv rfl (famS_view (fun i => by omega) (by omega))) ?_) | refine And.intro (covE_some (hR _ (Nat.le_of_ble_eq_true rfl)) (Nat.le_of_ble_eq_true rfl) (by first | exact wf_ints _ _ | exact wf_bools _ _ | first | first | exact wf_sls _ _ _ (by omega) | exact wf_jobs _ _ | exact wf_famS _ _ _ (by omega) | simp [C.wf]) rfl (by first | exact ren_ints _ _ | exact ren_sls_of (fun l hl => hR l (by omega)) (by omega) | exact ren_sl1 (hR _ (Nat.le_of_ble_eq_true rfl)) | (fail) | rfl)) ?_)
      refine vc_ok tok ?_
      have hT := tail_rm (kd := rowE) (cs := List.map C.i) (l := doneL j o i) (j := j) (x := b + 40) (by omega) hj20
      have hom : (o.map C.i).length = o.length := by simp
      have hnl := nextO_len (j := j) (o := o) (i := i)
      have hnm : ((nextO j o i).map C.i).length = j.length := by simp [hnl]
      have hfl : ((famS List.length 40 (doneL j o i)).set b (.sl 39 ((doneL j o i).getD b []).length)).length = j.length := by simp [hdl]
      have hjl := jobC_len (j.getD b [])
      have hhb := hourO_bd hc hoo i hii
      have hcnt : cntO o i b ≤ 100 := by have := (hc.jobs _ hb).2; omega
      have hrl : (((doneL j o i).getD b []).map C.i).length = cntO o i b := by rw [List.length_map, hdc]
      have hjo : jobO j o i = (j.getD b []).getD (cntO o i b) (0, 0) := by unfold jobO; rw [← hbe]
      have hjb := jobO_bd hc hoo hlt
      rw [hjo] at hjb
      repeat ((conv => whnf); first
          | (refine And.intro (by first | omega | exact Nat.le_of_ble_eq_true rfl | (dsimp only [inK]; omega) | (simp only [mulS_eq]; omega) | (simp only [mulS_eq, setL_length]; omega) | (simp only [setL_length, List.length_map]; omega) | exact ⟨by omega, by omega, by first | exact Nat.le_of_ble_eq_true rfl | (dsimp only; omega) | (simp only [setL_length]; omega) | (simp only [setL_length, List.length_map]; omega)⟩ | exact ⟨by omega, by first | rfl | omega, by omega, Nat.le_of_ble_eq_true rfl, Nat.le_of_ble_eq_true rfl⟩ | exact ⟨rfl, rfl, rfl, Nat.le_of_ble_eq_true rfl, by first | rfl | omega | exact Nat.le_of_ble_eq_true rfl | (simp; done) | (simp; omega), by first | rfl | omega | exact Nat.le_of_ble_eq_true rfl | (simp; done) | (simp; omega), by omega, Nat.le_of_ble_eq_true rfl⟩ | exact Eq.refl true) ?_)
          | (with_reducible refine ld (intL hlt) ?_)
          | (with_reducible refine ld (slLz hz hb) ?_)
          | (with_reducible refine ld (nextL hz hb) ?_)
          | (with_reducible refine ld (jobT rfl hpl) ?_)
          | (refine Exists.intro _ (And.intro rfl ?_))
          | (refine And.intro (And.intro rfl (chk_rowI _ _ _ _)) ?_)
          | (refine br_t (by omega) ?_)
          | (refine br_f (by omega) ?_)
          | (refine bs_t (by omega) ?_)
          | (refine bs_f (by omega) ?_)
          | (refine fun (K' : K3) hK' => ?_)
          | (refine hK' _ _ _ ?_; clear hK' K')
          | (refine draw_auto tok mixed (by kernel_rfl) ?_)
          | (with_reducible refine updK_tail hT rfl ?_)
          | (refine onV_ld (c := ⟨1 + b, .ro 2, jobC (j.getD b [])⟩) (by (try (conv => lhs; arg 1; whnf)); (repeat (first | rw [find_skip (by omega)] | rw [find_hi (by omega) (by rfl)])); exact tail_rm_be hb hj20) ?_)
          | (refine bs_bt (Eq.refl true) ?_)
          | (refine bs_bf (Eq.refl false) ?_)
          | (refine br_bt (Eq.refl true) ?_)
          | (refine br_bf (Eq.refl false) ?_)
          | (refine CallK.m ?_)
          | (refine And.intro (And.intro rfl rfl) ?_))
      refine hY _ _ _ _ (Nat.le_of_ble_eq_true rfl) rfl ⟨rfl, trivial⟩ ?_
      intro cxb hcx
      refine vc_ok tok ?_
      repeat ((conv => whnf); first
          | (refine And.intro (by first | omega | exact Nat.le_of_ble_eq_true rfl | (dsimp only [inK]; omega) | (simp only [mulS_eq]; omega) | (simp only [mulS_eq, setL_length]; omega) | (simp only [setL_length, List.length_map]; omega) | exact ⟨by omega, by omega, by first | exact Nat.le_of_ble_eq_true rfl | (dsimp only; omega) | (simp only [setL_length]; omega) | (simp only [setL_length, List.length_map]; omega)⟩ | exact ⟨by omega, by first | rfl | omega, by omega, Nat.le_of_ble_eq_true rfl, Nat.le_of_ble_eq_true rfl⟩ | exact ⟨rfl, rfl, rfl, Nat.le_of_ble_eq_true rfl, by first | rfl | omega | exact Nat.le_of_ble_eq_true rfl | (simp; done) | (simp; omega), by first | rfl | omega | exact Nat.le_of_ble_eq_true rfl | (simp; done) | (simp; omega), by omega, Nat.le_of_ble_eq_true rfl⟩ | exact Eq.refl true) ?_)
          | (refine Exists.intro _ (And.intro rfl ?_))
          | (refine And.intro (And.intro rfl (chk_rowI _ _ _ _)) ?_)
          | (refine br_t (by omega) ?_)
          | (refine br_f (by omega) ?_)
          | (refine bs_t (by omega) ?_)
          | (refine bs_f (by omega) ?_)
          | (refine fun (K' : K3) hK' => ?_)
          | (refine hK' _ _ _ ?_; clear hK' K')
          | (refine draw_auto tok mixed (by kernel_rfl) ?_)
          | (with_reducible refine updK_tail hT rfl ?_)
          | (with_reducible refine updO_tail hT rfl ?_)
          | (refine And.intro (Eq.refl oo) ?_)
          | (refine bs_bt (Eq.refl true) ?_)
          | (refine bs_bf (Eq.refl false) ?_)
          | (refine br_bt (Eq.refl true) ?_)
          | (refine br_bf (Eq.refl false) ?_)
          | (refine CallK.m ?_)
          | (refine And.intro (And.intro rfl rfl) ?_))
      refine vc_ok tok ?_
      repeat ((conv => whnf); first
          | (refine And.intro (by first | omega | exact Nat.le_of_ble_eq_true rfl | (dsimp only [inK]; omega) | (simp only [mulS_eq]; omega) | (simp only [mulS_eq, setL_length]; omega) | (simp only [setL_length, List.length_map]; omega) | exact ⟨by omega, by omega, by first | exact Nat.le_of_ble_eq_true rfl | (dsimp only; omega) | (simp only [setL_length]; omega) | (simp only [setL_length, List.length_map]; omega)⟩ | exact ⟨by omega, by first | rfl | omega, by omega, Nat.le_of_ble_eq_true rfl, Nat.le_of_ble_eq_true rfl⟩ | exact ⟨rfl, rfl, rfl, Nat.le_of_ble_eq_true rfl, by first | rfl | omega | exact Nat.le_of_ble_eq_true rfl | (simp; done) | (simp; omega), by first | rfl | omega | exact Nat.le_of_ble_eq_true rfl | (simp; done) | (simp; omega), by omega, Nat.le_of_ble_eq_true rfl⟩ | exact Eq.refl true) ?_)
          | (with_reducible refine ld (famV hz (by omega)) ?_)
          | (refine Exists.intro _ (And.intro rfl ?_))
          | (refine And.intro (And.intro rfl (chk_rowI _ _ _ _)) ?_)
          | (refine br_t (by omega) ?_)
          | (refine br_f (by omega) ?_)
          | (refine bs_t (by omega) ?_)
          | (refine bs_f (by omega) ?_)
          | (refine fun (K' : K3) hK' => ?_)
          | (refine hK' _ _ _ ?_; clear hK' K')
          | (refine draw_kill [39] tok mixed (by decide +kernel) ?_)
          | (refine draw_auto tok mixed (by kernel_rfl) ?_)
          | (with_reducible refine updK_tail hT rfl ?_)
          | (with_reducible refine rmK_tail hT rfl ?_)
          | (with_reducible refine visC_tail hT rfl ?_)
          | (with_reducible refine relC_tail hT rfl ?_)
          | (with_reducible refine updO_tail hT rfl ?_)
          | (refine And.intro (Eq.refl ob) ?_)
          | (refine And.intro (And.intro rfl (chk_rowA _ _ _ _ _)) ?_)
          | (refine bs_bt (Eq.refl true) ?_)
          | (refine bs_bf (Eq.refl false) ?_)
          | (refine br_bt (Eq.refl true) ?_)
          | (refine br_bf (Eq.refl false) ?_)
          | (refine CallK.m ?_)
          | (refine And.intro (And.intro rfl rfl) ?_))
      have hh : hourO j o (i + 1) = hourO j o i + ((j.getD b []).getD (cntO o i b) (0, 0)).1 := by simp only [hourO]; rw [hjo]
      have hD : doneL j o (i + 1) = (doneL j o i).set b ((doneL j o i).getD b [] ++ [hourO j o (i + 1)]) := by rw [hbe]; rfl
      have hrow : ((doneL j o i).getD b []).map C.i ++ [C.i (hourO j o i + ((j.getD b []).getD (cntO o i b) (0, 0)).1)] = ((doneL j o i).getD b [] ++ [hourO j o (i + 1)]).map C.i := by rw [List.map_append, hh]; rfl
      have hln : ((doneL j o i).getD b [] ++ [hourO j o (i + 1)]).length = ((doneL j o i).getD b []).length + 1 := by simp
      have hfe := famS_end (ln := List.length) (b := 40) (y := 63) (v := 0) (w := 0) (x := (doneL j o i).getD b [] ++ [hourO j o (i + 1)]) (l := doneL j o i) (c := .sl 39 ((doneL j o i).getD b []).length) (show b < _ by omega) hz
      rw [hln] at hfe
      have hdl2 : ((doneL j o i).set b ((doneL j o i).getD b [] ++ [hourO j o (i + 1)])).length = j.length := by rw [List.length_set]; exact hdl
      have hR : ∀ l, l < 40 → renL [(b + 40, some 63)] l = some l := fun l hl => renL_ne (by omega)
      refine ⟨i + 1, [(b + 40, some 63)], by omega, by omega, ?_⟩
      rw [hD]
      refine ⟨?_, ?_, inj_end (p := [_, _, _, _, _, _, _, _]) (tail_fam (by omega) hj20) rfl (by simp) rfl (by simp), (by first | rfl | (simp [fixB, Nat.ble_eq]; omega)), by first | exact Nat.le_of_ble_eq_true rfl | omega⟩
      · repeat (first | exact trivial | refine And.intro (covS_syn (by first | rfl | exact (rsl (hR _ (Nat.le_of_ble_eq_true rfl))).symm | exact (rptr (hR _ (Nat.le_of_ble_eq_true rfl))).symm | (refine congrArg some (congrArg V.i ?_); omega) | (refine congrArg some (congrArg V.i ?_); exact hh.symm)) rfl (by first | exact trivial | exact Nat.le_of_ble_eq_true rfl | exact hy)) ?_)
      · repeat (first | (exact covL_app (cov_set (d := []) plain_ints (by omega) (congrArg (fun m => some (E.mk 63 (.vec 3 1) m)) hrow) (fun i' hi' hne => by (repeat rw [find_skip (by omega)]); exact tail_rm_row hi' hne)) (cov_ent (fun k hk => hR _ (by omega)) (by omega) (fun k hk => by (repeat rw [find_skip (by omega)]); exact tail_rm_be hk hj20))) | refine And.intro (covE_some (hR _ (Nat.le_of_ble_eq_true rfl)) (Nat.le_of_ble_eq_true rfl) (by first | exact wf_ints _ _ | exact wf_bools _ _ | first | first | exact wf_sls _ _ _ (by omega) | exact wf_jobs _ _ | exact wf_famS _ _ _ (by omega) | simp [C.wf]) rfl (by first | exact ren_ints _ _ | exact ren_sls_of (fun l hl => hR l (by omega)) (by omega) | exact ren_sl1 (hR _ (Nat.le_of_ble_eq_true rfl)) | (exact hfe) | (exact (ren_ints _ _).trans (congrArg some (nextS hoo hlt (by rw [hz, hbe]) (by rw [← hbe])).symm)) | rfl)) ?_)
    · refine vc_ok tok ?_
      obtain rfl : i = o.length := by omega
      have hT := tail_fam (kd := rowE) (cs := List.map C.i) (l := doneL j o o.length) (j := j) (by rw [doneL_len]; omega) hj20
      repeat ((conv => whnf); first
          | (refine And.intro (by first | omega | exact Nat.le_of_ble_eq_true rfl | (dsimp only [inK]; omega) | (simp only [mulS_eq]; omega) | (simp only [mulS_eq, setL_length]; omega) | (simp only [setL_length, List.length_map]; omega) | exact ⟨by omega, by omega, by first | exact Nat.le_of_ble_eq_true rfl | (dsimp only; omega) | (simp only [setL_length]; omega) | (simp only [setL_length, List.length_map]; omega)⟩ | exact ⟨by omega, by first | rfl | omega, by omega, Nat.le_of_ble_eq_true rfl, Nat.le_of_ble_eq_true rfl⟩ | exact ⟨rfl, rfl, rfl, Nat.le_of_ble_eq_true rfl, by first | rfl | omega | exact Nat.le_of_ble_eq_true rfl | (simp; done) | (simp; omega), by first | rfl | omega | exact Nat.le_of_ble_eq_true rfl | (simp; done) | (simp; omega), by omega, Nat.le_of_ble_eq_true rfl⟩ | exact Eq.refl true) ?_)
          | (refine Exists.intro _ (And.intro rfl ?_))
          | (refine And.intro (And.intro rfl (chk_rowI _ _ _ _)) ?_)
          | (refine br_t (by omega) ?_)
          | (refine br_f (by omega) ?_)
          | (refine bs_t (by omega) ?_)
          | (refine bs_f (by omega) ?_)
          | (refine fun (K' : K3) hK' => ?_)
          | (refine hK' _ _ _ ?_; clear hK' K')
          | (refine draw_auto tok mixed (by kernel_rfl) ?_)
          | (refine bs_bt (Eq.refl true) ?_)
          | (refine bs_bf (Eq.refl false) ?_)
          | (refine br_bt (Eq.refl true) ?_)
          | (refine br_bf (Eq.refl false) ?_)
          | (refine CallK.m ?_)
          | (refine And.intro (And.intro rfl rfl) ?_))
      refine Or.inl ?_
      repeat ((conv => whnf); first
          | (refine And.intro (by first | omega | exact Nat.le_of_ble_eq_true rfl | (dsimp only [inK]; omega) | (simp only [mulS_eq]; omega) | (simp only [mulS_eq, setL_length]; omega) | (simp only [setL_length, List.length_map]; omega) | exact ⟨by omega, by omega, by first | exact Nat.le_of_ble_eq_true rfl | (dsimp only; omega) | (simp only [setL_length]; omega) | (simp only [setL_length, List.length_map]; omega)⟩ | exact ⟨by omega, by first | rfl | omega, by omega, Nat.le_of_ble_eq_true rfl, Nat.le_of_ble_eq_true rfl⟩ | exact ⟨rfl, rfl, rfl, Nat.le_of_ble_eq_true rfl, by first | rfl | omega | exact Nat.le_of_ble_eq_true rfl | (simp; done) | (simp; omega), by first | rfl | omega | exact Nat.le_of_ble_eq_true rfl | (simp; done) | (simp; omega), by omega, Nat.le_of_ble_eq_true rfl⟩ | exact Eq.refl true) ?_)
          | (refine Exists.intro _ (And.intro rfl ?_))
          | (refine And.intro (And.intro rfl (chk_rowI _ _ _ _)) ?_)
          | (refine br_t (by omega) ?_)
          | (refine br_f (by omega) ?_)
          | (refine bs_t (by omega) ?_)
          | (refine bs_f (by omega) ?_)
          | (refine fun (K' : K3) hK' => ?_)
          | (refine hK' _ _ _ ?_; clear hK' K')
          | (refine draw_auto tok mixed (by kernel_rfl) ?_)
          | (refine And.intro (Eq.refl oo) ?_)
          | (with_reducible refine rmK_tail hT rfl ?_)
          | (refine bs_bt (Eq.refl true) ?_)
          | (refine bs_bf (Eq.refl false) ?_)
          | (refine br_bt (Eq.refl true) ?_)
          | (refine br_bf (Eq.refl false) ?_)
          | (refine CallK.m ?_)
          | (refine And.intro (And.intro rfl rfl) ?_))
      exact .inr ⟨32, by rw [doneL_len], rfl, fun k hk => by (repeat rw [find_skip (by omega)]); exact tail_row hk⟩
end Go.Proofs.Ytjijjncddjkdlaa

/- Shore: Done with its errors; the reference's harm and Harm. -/
namespace Go.Proofs.Ytjijjncddjkdlaa
open Go.RowKit
set_option linter.unusedVariables false
set_option linter.unusedSimpArgs false
def ordE (j : Coast) (o : List Int) : Int := if validL j then (if isOrdB j o then 0 else 61) else 60
def doneR (j : Coast) (o : List Int) : List (List Int) := if ordE j o = 0 then doneL j o o.length else []
theorem ordE_zero {j : Coast} {o : List Int} (h : ordE j o = 0) : validL j = true ∧ isOrdB j o = true := by
  unfold ordE at h
  split at h
  · next hv =>
    split at h
    · next hi => exact ⟨hv, hi⟩
    · omega
  · omega
theorem DoneE_spec (j : Coast) (o : List Int) (hj : Sized j) (ho : o.length ≤ 200) : Spec Try.prog 28 [V.c (.sl 0 j.length), V.c (.sl 21 o.length)] (⟨0, .ro 1, slsC 1 j⟩ :: ⟨21, .ro 0, o.map C.i⟩ :: entC 1 j) 32 (fun v L' _ => rowsR 35 rowE (List.map C.i) List.length [] (doneR j o) (ordE j o) v L') := by
  by_cases h : ordE j o = 0
  · obtain ⟨hv, hi⟩ := ordE_zero h
    simp only [doneR, h, if_true]
    exact Done_spec j o hj ho hv hi
  · have hj20 := hj.len
    have hO := hasO0 (o := o) hj
    simp only [doneR, if_neg h]
    cases hv : validL j with
    | true =>
      cases hi : isOrdB j o with
      | true => exact absurd (by simp [ordE, hv, hi]) h
      | false =>
        simp only [ordE, hv, hi, if_true, Bool.false_eq_true, if_false]
        refine Spec.of tok Try.func28 rfl rfl rfl fun n0 cx => vc_ok tok ?_
        repeat ((conv => whnf); first
            | (refine And.intro (by first | omega | exact Nat.le_of_ble_eq_true rfl | (dsimp only [inK]; omega) | (simp only [mulS_eq]; omega) | (simp only [mulS_eq, setL_length]; omega) | (simp only [setL_length, List.length_map]; omega) | exact ⟨by omega, by omega, by first | exact Nat.le_of_ble_eq_true rfl | (dsimp only; omega) | (simp only [setL_length]; omega) | (simp only [setL_length, List.length_map]; omega)⟩ | exact ⟨by omega, by first | rfl | omega, by omega, Nat.le_of_ble_eq_true rfl, Nat.le_of_ble_eq_true rfl⟩ | exact ⟨rfl, rfl, rfl, Nat.le_of_ble_eq_true rfl, by first | rfl | omega | exact Nat.le_of_ble_eq_true rfl | (simp; done) | (simp; omega), by first | rfl | omega | exact Nat.le_of_ble_eq_true rfl | (simp; done) | (simp; omega), by omega, Nat.le_of_ble_eq_true rfl⟩ | exact Eq.refl true) ?_)
            | (refine Exists.intro _ (And.intro rfl ?_))
            | (refine And.intro (And.intro rfl (chk_rowI _ _ _ _)) ?_)
            | (refine br_t (by omega) ?_)
            | (refine br_f (by omega) ?_)
            | (refine bs_t (by omega) ?_)
            | (refine bs_f (by omega) ?_)
            | (refine fun (K' : K3) hK' => ?_)
            | (refine hK' _ _ _ ?_; clear hK' K')
            | (refine CallM.eq (by kernel_rfl) (ordered_spec j o hj ho _ _ hO) ?_)
            | (refine draw_auto tok mixed (by kernel_rfl) ?_)
            | (rw [hv])
            | (rw [hi])
            | (refine bs_bt (Eq.refl true) ?_)
            | (refine bs_bf (Eq.refl false) ?_)
            | (refine br_bt (Eq.refl true) ?_)
            | (refine br_bf (Eq.refl false) ?_)
            | (refine CallK.m ?_)
            | (refine And.intro (And.intro rfl rfl) ?_))
        exact .inl ⟨rfl, rfl⟩
    | false =>
      simp only [ordE, hv, Bool.false_eq_true, if_false]
      refine Spec.of tok Try.func28 rfl rfl rfl fun n0 cx => vc_ok tok ?_
      repeat ((conv => whnf); first
          | (refine And.intro (by first | omega | exact Nat.le_of_ble_eq_true rfl | (dsimp only [inK]; omega) | (simp only [mulS_eq]; omega) | (simp only [mulS_eq, setL_length]; omega) | (simp only [setL_length, List.length_map]; omega) | exact ⟨by omega, by omega, by first | exact Nat.le_of_ble_eq_true rfl | (dsimp only; omega) | (simp only [setL_length]; omega) | (simp only [setL_length, List.length_map]; omega)⟩ | exact ⟨by omega, by first | rfl | omega, by omega, Nat.le_of_ble_eq_true rfl, Nat.le_of_ble_eq_true rfl⟩ | exact ⟨rfl, rfl, rfl, Nat.le_of_ble_eq_true rfl, by first | rfl | omega | exact Nat.le_of_ble_eq_true rfl | (simp; done) | (simp; omega), by first | rfl | omega | exact Nat.le_of_ble_eq_true rfl | (simp; done) | (simp; omega), by omega, Nat.le_of_ble_eq_true rfl⟩ | exact Eq.refl true) ?_)
          | (refine Exists.intro _ (And.intro rfl ?_))
          | (refine And.intro (And.intro rfl (chk_rowI _ _ _ _)) ?_)
          | (refine br_t (by omega) ?_)
          | (refine br_f (by omega) ?_)
          | (refine bs_t (by omega) ?_)
          | (refine bs_f (by omega) ?_)
          | (refine fun (K' : K3) hK' => ?_)
          | (refine hK' _ _ _ ?_; clear hK' K')
          | (refine CallM.eq (by kernel_rfl) (ordered_spec j o hj ho _ _ hO) ?_)
          | (refine draw_auto tok mixed (by kernel_rfl) ?_)
          | (rw [hv])
          | (refine bs_bt (Eq.refl true) ?_)
          | (refine bs_bf (Eq.refl false) ?_)
          | (refine br_bt (Eq.refl true) ?_)
          | (refine br_bf (Eq.refl false) ?_)
          | (refine CallK.m ?_)
          | (refine And.intro (And.intro rfl rfl) ?_))
      exact .inl ⟨rfl, rfl⟩
theorem asked_val {j : Coast} {o : List Int} : (if validL j then (if risOrdB j o then (0 : Int) else 61) else 60) = ordE j o := by
  unfold ordE
  cases hv : validL j with
  | true => rw [ris_eq (by have := validL_many hv; omega)]
  | false => rfl
theorem rDoneE_spec (j : Coast) (o : List Int) (hj : Sized j) (ho : o.length ≤ 200) : Spec Try.prog 29 [V.c (.sl 0 j.length), V.c (.sl 21 o.length)] (⟨0, .ro 1, slsC 1 j⟩ :: ⟨21, .ro 0, o.map C.i⟩ :: entC 1 j) 32 (fun v L' _ => rowsR 35 rowE (List.map C.i) List.length [] (doneR j o) (ordE j o) v L') := by
  by_cases h : ordE j o = 0
  · obtain ⟨hv, hi⟩ := ordE_zero h
    simp only [doneR, h, if_true]
    exact rDone_spec j o hj ho hv hi
  · have hj20 := hj.len
    have hA := asked_spec j o hj ho
    rw [asked_val] at hA
    simp only [doneR, if_neg h]
    refine Spec.of tok Try.func29 rfl rfl rfl fun n0 cx => vc_ok tok ?_
    repeat ((conv => whnf); first
        | (refine And.intro (by first | omega | exact Nat.le_of_ble_eq_true rfl | (dsimp only [inK]; omega) | (simp only [mulS_eq]; omega) | (simp only [mulS_eq, setL_length]; omega) | (simp only [setL_length, List.length_map]; omega) | exact ⟨by omega, by omega, by first | exact Nat.le_of_ble_eq_true rfl | (dsimp only; omega) | (simp only [setL_length]; omega) | (simp only [setL_length, List.length_map]; omega)⟩ | exact ⟨by omega, by first | rfl | omega, by omega, Nat.le_of_ble_eq_true rfl, Nat.le_of_ble_eq_true rfl⟩ | exact ⟨rfl, rfl, rfl, Nat.le_of_ble_eq_true rfl, by first | rfl | omega | exact Nat.le_of_ble_eq_true rfl | (simp; done) | (simp; omega), by first | rfl | omega | exact Nat.le_of_ble_eq_true rfl | (simp; done) | (simp; omega), by omega, Nat.le_of_ble_eq_true rfl⟩ | exact Eq.refl true) ?_)
        | (refine Exists.intro _ (And.intro rfl ?_))
        | (refine And.intro (And.intro rfl (chk_rowI _ _ _ _)) ?_)
        | (refine br_t (by omega) ?_)
        | (refine br_f (by omega) ?_)
        | (refine bs_t (by omega) ?_)
        | (refine bs_f (by omega) ?_)
        | (refine fun (K' : K3) hK' => ?_)
        | (refine hK' _ _ _ ?_; clear hK' K')
        | (refine draw_auto tok mixed (by kernel_rfl) ?_)
        | (refine CallK.val (R := []) hA (by kernel_rfl) rfl (by simp [V.wf, A.wf, C.wf]) (HasO.ro ⟨⟨rfl, fun k hk => by (repeat (first | rw [find_skip (by omega)] | rw [find_hi (by omega) (by rfl)])); exact entC_find hk⟩, rfl⟩ hj) (injO hj) rfl trivial ?_)
        | (refine br_t h ?_)
        | (refine bs_bt (Eq.refl true) ?_)
        | (refine bs_bf (Eq.refl false) ?_)
        | (refine br_bt (Eq.refl true) ?_)
        | (refine br_bf (Eq.refl false) ?_)
        | (refine CallK.m ?_)
        | (refine And.intro (And.intro rfl rfl) ?_))
    exact .inl ⟨rfl, rfl⟩
theorem doneL_bd {j : Coast} {o : List Int} (hc : CoastOk j) (ho : OrdOk j o) : ∀ {i : Nat}, i ≤ o.length → ∀ r ∈ doneL j o i, ∀ x ∈ r, 0 ≤ x ∧ x ≤ 10000
  | 0, _, r, hr, x, hx => by
    simp only [doneL, List.mem_replicate] at hr
    rw [hr.2] at hx; cases hx
  | i + 1, hi, r, hr, x, hx => by
    have ih := doneL_bd (i := i) hc ho (by omega)
    simp only [doneL] at hr
    rcases List.mem_or_eq_of_mem_set hr with hr | rfl
    · exact ih r hr x hx
    · rcases List.mem_append.1 hx with hx | hx
      · obtain ⟨_, hb⟩ := ho.beach i (by omega)
        rw [getD_lt (by rw [doneL_len]; exact hb)] at hx
        exact ih _ (List.getElem_mem _) x hx
      · simp only [List.mem_singleton] at hx
        have := hourO_bd hc ho (i + 1) hi
        have := ho.len
        omega
theorem doneL_get {j : Coast} {o : List Int} {i b : Nat} (hb : beachO o i < j.length) : (doneL j o (i + 1)).getD b [] = if b = beachO o i then (doneL j o i).getD b [] ++ [hourO j o (i + 1)] else (doneL j o i).getD b [] := by
  simp only [doneL, List.getD_eq_getElem?_getD, List.getElem?_set]
  by_cases h : b = beachO o i
  · subst h; simp [doneL_len, hb]
  · rw [if_neg (fun e => h e.symm), if_neg h]
theorem find_fam {α : Type} {kd : Kd} {cs : α → List C} {b l : Nat} {D : List α} {B : List E} (h : l < b) : find (famE kd cs b D ++ B) l = find B l :=
  find_app fun e he => by
    have hm : e.lab ∈ (famE kd cs b D).map E.lab := List.mem_map.2 ⟨e, he, rfl⟩
    rw [famE_labs] at hm
    have := List.mem_range'_1.1 hm; omega
theorem getD_appL {α : Type} {l m : List α} {k : Nat} {d : α} (h : k < l.length) : (l ++ m).getD k d = l.getD k d := by
  simp only [List.getD_eq_getElem?_getD]
  rw [List.getElem?_append_left h]
/-- The harm of a beach's jobs, by when they are done. -/
def hrmF (j : Coast) (rows : List (List Int)) (b : Nat) : Nat → Int := fun k => (rows.getD b []).getD k 0 * (jobA j b k).2
theorem done_harm {j : Coast} {o : List Int} (ho : OrdOk j o) : ∀ {i : Nat}, i ≤ o.length → sumZ j.length (fun b => sumZ (cntO o i b) (hrmF j (doneL j o i) b)) = harmO j o i
  | 0, _ => by
    have : sumZ j.length (fun b => sumZ (cntO o 0 b) (hrmF j (doneL j o 0) b)) = sumZ j.length (fun _ => 0) := sumZ_congr fun b _ => by simp [cntO, sumZ]
    rw [this, sumZ_zero]; rfl
  | i + 1, hi => by
    have ih := done_harm (i := i) ho (by omega)
    obtain ⟨h1, h2⟩ := ho.beach i (by omega)
    simp only [harmO]
    rw [← ih]
    refine sumZ_upd (c := beachO o i) h2 ?_ (fun b hb hne => ?_)
    · have hc := cntO_succ (o := o) (i := i) (b := beachO o i) (by omega)
      rw [if_pos h1] at hc
      have hl := doneL_cnt (i := i) ho h2 (by omega)
      rw [hc]
      simp only [sumZ]
      congr 1
      · refine sumZ_congr fun k hk => ?_
        unfold hrmF
        rw [doneL_get h2, if_pos rfl]
        congr 1
        exact getD_appL (by omega)
      · unfold hrmF
        rw [doneL_get h2, if_pos rfl]
        have e : ((doneL j o i).getD (beachO o i) [] ++ [hourO j o (i + 1)]).getD (cntO o i (beachO o i)) 0 = hourO j o (i + 1) := by
          rw [← hl]; simp [List.getD_eq_getElem?_getD]
        rw [e, Int.mul_comm]
        rfl
    · have hc := cntO_succ (o := o) (i := i) (b := b) (by omega)
      rw [if_neg (by omega), Nat.add_zero] at hc
      rw [hc]
      refine sumZ_congr fun k _ => ?_
      unfold hrmF
      rw [doneL_get h2, if_neg hne]
theorem isOrd_cnt {j : Coast} (hm : manyN j j.length ≤ 100) {o : List Int} (hi : isOrdB j o = true) {b : Nat} (hb : b < j.length) : cntO o o.length b = (j.getD b []).length := by
  obtain ⟨o', rfl, h1⟩ := (isOrd_iff hm).1 hi
  have := h1.cnt b hb
  rw [natsC_cnt, natsC_len, List.take_length]; omega
set_option maxHeartbeats 1000000 in
set_option maxRecDepth 100000 in
theorem rharm_spec (j : Coast) (o : List Int) (hj : Sized j) (ho : o.length ≤ 200) (hv : validL j = true) (hi : isOrdB j o = true) : Spec Try.prog 65 [V.c (.sl 0 j.length), V.c (.sl 21 o.length)] (⟨0, .ro 1, slsC 1 j⟩ :: ⟨21, .ro 0, o.map C.i⟩ :: entC 1 j) 32 (Is (V.i (harmO j o o.length))) := by
  have hj20 := hj.len
  have hlen := slsC_len (b := 1) (j := j)
  have hm := validL_many hv
  have hc := validL_coast hj hv
  have hoo := isOrd_ok hi
  have h6 := (validL_len hv).2
  have h12 : ∀ b, b < j.length → (j.getD b []).length ≤ 12 := fun b hb => by have := beach_many hb; omega
  have hD := rDone_spec j o hj ho hv hi
  have hsum := done_harm hoo (Nat.le_refl o.length)
  have hcn : ∀ b, b < j.length → ((doneL j o o.length).getD b []).length = (j.getD b []).length := fun b hb => by rw [doneL_cnt hoo hb (Nat.le_refl _), isOrd_cnt (by omega) hi hb]
  have hdl := doneL_len (j := j) (o := o) (i := o.length)
  have hdb := doneL_bd hc hoo (Nat.le_refl o.length)
  have hsum2 : sumZ j.length (fun b => sumZ (j.getD b []).length (hrmF j (doneL j o o.length) b)) = harmO j o o.length := by
    rw [← hsum]
    exact sumZ_congr fun b hb => by rw [isOrd_cnt (by omega) hi hb]
  rw [← hsum2]
  generalize doneL j o o.length = D at *
  have hbd : ∀ {b k : Nat}, b < j.length → k < (j.getD b []).length → 0 ≤ hrmF j D b k ∧ hrmF j D b k ≤ 1000000 := by
    intro b k hb hk
    have h1 := jobA_bd hc hb hk
    have h2 : 0 ≤ (D.getD b []).getD k 0 ∧ (D.getD b []).getD k 0 ≤ 10000 := by
      have hk' : k < (D.getD b []).length := by rw [hcn b hb]; exact hk
      have hb' : b < D.length := by omega
      have e1 : D.getD b [] = D[b] := getD_lt hb'
      have e2 : (D.getD b []).getD k 0 = (D.getD b [])[k] := getD_lt hk'
      rw [e2]
      refine hdb (D.getD b []) (by rw [e1]; exact List.getElem_mem hb') _ (List.getElem_mem hk')
    exact mul_bd (A := 10000) (B := 100) h2.1 h2.2 h1.2.2.1 h1.2.2.2
  have hbb : ∀ {b : Nat}, b < j.length → 0 ≤ sumZ (j.getD b []).length (hrmF j D b) ∧ sumZ (j.getD b []).length (hrmF j D b) ≤ 12000000 := by
    intro b hb
    have h1 := sumZ_bd (n := (j.getD b []).length) (F := hrmF j D b) (M := 1000000) (fun k hk => hbd hb hk)
    have h2 := small_mul (n := (j.getD b []).length) (N := 12) (M := 1000000) (by have := h12 b hb; omega) (by omega)
    omega
  refine Spec.of tok Try.func65 rfl rfl rfl fun n0 cx => vc_ok tok ?_
  repeat ((conv => whnf); first
      | (refine And.intro (by first | omega | exact Nat.le_of_ble_eq_true rfl | (dsimp only [inK]; omega) | (simp only [mulS_eq]; omega) | (simp only [mulS_eq, setL_length]; omega) | (simp only [setL_length, List.length_map]; omega) | exact ⟨by omega, by omega, by first | exact Nat.le_of_ble_eq_true rfl | (dsimp only; omega) | (simp only [setL_length]; omega) | (simp only [setL_length, List.length_map]; omega)⟩ | exact ⟨by omega, by first | rfl | omega, by omega, Nat.le_of_ble_eq_true rfl, Nat.le_of_ble_eq_true rfl⟩ | exact ⟨rfl, rfl, rfl, Nat.le_of_ble_eq_true rfl, by first | rfl | omega | exact Nat.le_of_ble_eq_true rfl | (simp; done) | (simp; omega), by first | rfl | omega | exact Nat.le_of_ble_eq_true rfl | (simp; done) | (simp; omega), by omega, Nat.le_of_ble_eq_true rfl⟩ | exact Eq.refl true) ?_)
      | (refine Exists.intro _ (And.intro rfl ?_))
      | (refine And.intro (And.intro rfl (chk_rowI _ _ _ _)) ?_)
      | (refine br_t (by omega) ?_)
      | (refine br_f (by omega) ?_)
      | (refine bs_t (by omega) ?_)
      | (refine bs_f (by omega) ?_)
      | (refine fun (K' : K3) hK' => ?_)
      | (refine hK' _ _ _ ?_; clear hK' K')
      | (refine CallM.rows (d := []) (R := []) 40 (by omega) plain_ints (fun p x => chk_ints p x) rfl (fun e => by cases e) (by omega) hD (by kernel_rfl) rfl (by simp [V.wf, A.wf, C.wf]) (HasO.ro ⟨⟨rfl, fun k hk => by (repeat (first | rw [find_skip (by omega)] | rw [find_hi (by omega) (by rfl)])); exact entC_find hk⟩, rfl⟩ hj) (injO hj) ?_)
      | (refine draw_auto tok mixed (by kernel_rfl) ?_)
      | (refine bs_bt (Eq.refl true) ?_)
      | (refine bs_bf (Eq.refl false) ?_)
      | (refine br_bt (Eq.refl true) ?_)
      | (refine br_bf (Eq.refl false) ?_)
      | (refine CallK.m ?_)
      | (refine And.intro (And.intro rfl rfl) ?_))
  refine Tri.loop (γ := Nat) (fun b => b ≤ j.length) (fun b => [(0, V.c (.sl 0 j.length)), (5, V.c (.sl 32 D.length)), (7, V.i (sumZ b fun b => sumZ (j.getD b []).length (hrmF j D b))), (8, V.i (b : Nat))])
    (fun b => ⟨32, .vec 35 1, famS List.length 40 D⟩ :: ⟨0, .ro 1, slsC 1 j⟩ :: ⟨21, .ro 0, o.map C.i⟩ :: (famE rowE (List.map C.i) 40 D ++ entC 1 j)) 60 (fun b => j.length - b) 0 (R0 := []) ?_ ?_ ?_
  · omega
  · have hR : ∀ l, l < 40 → renL [] l = some l := fun l hl => rfl
    refine ⟨?_, ?_, inj_nil (p := [_, _, _]) (tail_fam (by omega) hj20) rfl (by simp), rfl, by first | exact Nat.le_of_ble_eq_true rfl | omega⟩
    · repeat (first | exact trivial | refine And.intro (covS_syn (by first | rfl | exact (rsl (hR _ (Nat.le_of_ble_eq_true rfl))).symm | exact (rptr (hR _ (Nat.le_of_ble_eq_true rfl))).symm) rfl (by first | exact trivial | exact Nat.le_of_ble_eq_true rfl | exact hy)) ?_)
    · repeat (first | (exact covL_app (cov_all (d := []) plain_ints (by omega) (fun i hi => rfl) (fun i hi => by rw [find_skip (by omega)]; exact find_app_some (famE_find hi))) (cov_ent (fun k hk => rfl) (by omega) (fun k hk => by rw [find_skip (by omega), find_fam (by omega), find_skip (by omega), find_skip (by omega)]; exact entC_find hk))) | (refine And.intro (covE_some rfl (Nat.le_of_ble_eq_true rfl) (wf_sls _ _ _ (by omega)) (by rw [find_skip (by simp only; omega), find_fam (by simp only; omega)]; rfl) (ren_sls_of (fun l hl => hR l (by omega)) (by omega))) ?_) | (refine And.intro (covE_some rfl (Nat.le_of_ble_eq_true rfl) (wf_ints _ _) (by rw [find_skip (by simp only; omega), find_fam (by simp only; omega)]; rfl) (ren_ints _ _)) ?_) | refine And.intro (covE_some (hR _ (Nat.le_of_ble_eq_true rfl)) (Nat.le_of_ble_eq_true rfl) (by first | exact wf_ints _ _ | exact wf_bools _ _ | first | first | exact wf_sls _ _ _ (by omega) | exact wf_jobs _ _ | exact wf_famS _ _ _ (by omega) | simp [C.wf]) rfl (by first | exact ren_ints _ _ | exact ren_sls_of (fun l hl => hR l (by omega)) (by omega) | exact ren_sl1 (hR _ (Nat.le_of_ble_eq_true rfl)) | (exact seqO_id) | rfl)) ?_)
  · intro b hb
    refine vc_ok tok ?_
    have hR : ∀ l, l < 40 → renL [] l = some l := fun l hl => rfl
    have hT := tail_fam (kd := rowE) (cs := List.map C.i) (l := D) (j := j) (by omega) hj20
    have hfl : (famS List.length 40 D).length = j.length := by simp [hdl]
    by_cases hlt : b < j.length
    · have hjl := jobC_len (j.getD b [])
      have hcb := hcn b hlt
      have hb12 := h12 b hlt
      have b1 := sumZ_bd (n := b) (F := fun b => sumZ (j.getD b []).length (hrmF j D b)) (M := 12000000) (fun c hcb => hbb (by omega))
      have b1' := small_mul (n := b) (N := 6) (M := 12000000) (by omega) (by omega)
      repeat ((conv => whnf); first
          | (refine And.intro (by first | omega | exact Nat.le_of_ble_eq_true rfl | (dsimp only [inK]; omega) | (simp only [mulS_eq]; omega) | (simp only [mulS_eq, setL_length]; omega) | (simp only [setL_length, List.length_map]; omega) | exact ⟨by omega, by omega, by first | exact Nat.le_of_ble_eq_true rfl | (dsimp only; omega) | (simp only [setL_length]; omega) | (simp only [setL_length, List.length_map]; omega)⟩ | exact ⟨by omega, by first | rfl | omega, by omega, Nat.le_of_ble_eq_true rfl, Nat.le_of_ble_eq_true rfl⟩ | exact ⟨rfl, rfl, rfl, Nat.le_of_ble_eq_true rfl, by first | rfl | omega | exact Nat.le_of_ble_eq_true rfl | (simp; done) | (simp; omega), by first | rfl | omega | exact Nat.le_of_ble_eq_true rfl | (simp; done) | (simp; omega), by omega, Nat.le_of_ble_eq_true rfl⟩ | exact Eq.refl true) ?_)
          | (refine Exists.intro _ (And.intro rfl ?_))
          | (refine And.intro (And.intro rfl (chk_rowI _ _ _ _)) ?_)
          | (refine br_t (by omega) ?_)
          | (refine br_f (by omega) ?_)
          | (refine bs_t (by omega) ?_)
          | (refine bs_f (by omega) ?_)
          | (refine fun (K' : K3) hK' => ?_)
          | (refine hK' _ _ _ ?_; clear hK' K')
          | (refine draw_auto tok mixed (by kernel_rfl) ?_)
          | (refine bs_bt (Eq.refl true) ?_)
          | (refine bs_bf (Eq.refl false) ?_)
          | (refine br_bt (Eq.refl true) ?_)
          | (refine br_bf (Eq.refl false) ?_)
          | (refine CallK.m ?_)
          | (refine And.intro (And.intro rfl rfl) ?_))
      refine Tri.loop (γ := Nat) (fun i => i ≤ (j.getD b []).length) (fun i => [(0, V.c (.sl 0 j.length)), (5, V.c (.sl 32 D.length)), (7, V.i (sumZ b (fun b => sumZ (j.getD b []).length (hrmF j D b)) + sumZ i (hrmF j D b))), (8, V.i (b : Nat)), (9, V.i (i : Nat))])
        (fun i => ⟨32, .vec 35 1, famS List.length 40 D⟩ :: ⟨0, .ro 1, slsC 1 j⟩ :: ⟨21, .ro 0, o.map C.i⟩ :: (famE rowE (List.map C.i) 40 D ++ entC 1 j)) 60 (fun i => (j.getD b []).length - i) 0 (R0 := []) ?_ ?_ ?_
      · omega
      · skip
        refine ⟨?_, ?_, inj_nil (p := [_, _, _]) hT rfl (by simp), rfl, by first | exact Nat.le_of_ble_eq_true rfl | omega⟩
        · repeat (first | exact trivial | refine And.intro (covS_syn (by first | rfl | exact (rsl (hR _ (Nat.le_of_ble_eq_true rfl))).symm | exact (rptr (hR _ (Nat.le_of_ble_eq_true rfl))).symm | (refine congrArg some (congrArg V.i ?_); exact (Int.add_zero _).symm)) rfl (by first | exact trivial | exact Nat.le_of_ble_eq_true rfl | exact hy)) ?_)
        · repeat (first | (exact covL_app (cov_all (d := []) plain_ints (by omega) (fun i hi => rfl) (fun i hi => by (try simp only [flatN]); (repeat rw [find_skip (by omega)]); exact tail_row hi)) (cov_ent (fun k hk => rfl) (by omega) (fun k hk => by (try simp only [flatN]); (repeat rw [find_skip (by omega)]); exact tail_be hk hj20))) | refine And.intro (covE_some (hR _ (Nat.le_of_ble_eq_true rfl)) (Nat.le_of_ble_eq_true rfl) (by first | exact wf_ints _ _ | exact wf_bools _ _ | first | first | exact wf_sls _ _ _ (by omega) | exact wf_jobs _ _ | exact wf_famS _ _ _ (by omega) | simp [C.wf]) rfl (by first | exact ren_ints _ _ | exact ren_sls_of (fun l hl => hR l (by omega)) (by omega) | exact ren_sl1 (hR _ (Nat.le_of_ble_eq_true rfl)) | (exact seqO_id) | rfl)) ?_)
      · intro i hi
        refine vc_ok tok ?_
        by_cases hil : i < (j.getD b []).length
        · have b2 := sumZ_bd (n := i) (F := hrmF j D b) (M := 1000000) (fun c hcb => hbd hlt (by omega))
          have b2' := small_mul (n := i) (N := 12) (M := 1000000) (by omega) (by omega)
          have b3 : 0 ≤ (D.getD b []).getD i 0 * ((j.getD b []).getD i (0, 0)).2 ∧ (D.getD b []).getD i 0 * ((j.getD b []).getD i (0, 0)).2 ≤ 1000000 := hbd hlt hil
          have hDl : ((D.getD b []).map C.i).length = (j.getD b []).length := by rw [List.length_map, hcb]
          repeat ((conv => whnf); first
              | (refine And.intro (by first | omega | exact Nat.le_of_ble_eq_true rfl | (dsimp only [inK]; omega) | (simp only [mulS_eq]; omega) | (simp only [mulS_eq, setL_length]; omega) | (simp only [setL_length, List.length_map]; omega) | exact ⟨by omega, by omega, by first | exact Nat.le_of_ble_eq_true rfl | (dsimp only; omega) | (simp only [setL_length]; omega) | (simp only [setL_length, List.length_map]; omega)⟩ | exact ⟨by omega, by first | rfl | omega, by omega, Nat.le_of_ble_eq_true rfl, Nat.le_of_ble_eq_true rfl⟩ | exact ⟨rfl, rfl, rfl, Nat.le_of_ble_eq_true rfl, by first | rfl | omega | exact Nat.le_of_ble_eq_true rfl | (simp; done) | (simp; omega), by first | rfl | omega | exact Nat.le_of_ble_eq_true rfl | (simp; done) | (simp; omega), by omega, Nat.le_of_ble_eq_true rfl⟩ | exact Eq.refl true) ?_)
              | (with_reducible refine ld (slL hlt) ?_)
              | (with_reducible refine ld (famL (d := []) rfl (show b < D.length by omega)) ?_)
              | (with_reducible refine ld (intL (show i < (D.getD b []).length by omega)) ?_)
              | (with_reducible refine ld (jobL1 hil) ?_)
              | (refine Exists.intro _ (And.intro rfl ?_))
              | (refine And.intro (And.intro rfl (chk_rowI _ _ _ _)) ?_)
              | (refine br_t (by omega) ?_)
              | (refine br_f (by omega) ?_)
              | (refine bs_t (by omega) ?_)
              | (refine bs_f (by omega) ?_)
              | (refine fun (K' : K3) hK' => ?_)
              | (refine hK' _ _ _ ?_; clear hK' K')
              | (refine draw_auto tok mixed (by kernel_rfl) ?_)
              | (refine onV_ld (c := ⟨b + 40, rowE, (D.getD b []).map C.i⟩) (by (try (conv => lhs; arg 1; whnf)); (repeat rw [find_skip (by omega)]); exact tail_row (by omega)) ?_)
              | (refine onV_ld (c := ⟨1 + b, .ro 2, jobC (j.getD b [])⟩) (by (try (conv => lhs; arg 1; whnf)); (repeat rw [find_skip (by omega)]); exact tail_be hlt hj20) ?_)
              | (refine bs_bt (Eq.refl true) ?_)
              | (refine bs_bf (Eq.refl false) ?_)
              | (refine br_bt (Eq.refl true) ?_)
              | (refine br_bf (Eq.refl false) ?_)
              | (refine CallK.m ?_)
              | (refine And.intro (And.intro rfl rfl) ?_))
          refine ⟨i + 1, [], by omega, by omega, ?_⟩
          refine ⟨?_, ?_, inj_nil (p := [_, _, _]) hT rfl (by simp), rfl, by first | exact Nat.le_of_ble_eq_true rfl | omega⟩
          · repeat (first | exact trivial | refine And.intro (covS_syn (by first | rfl | exact (rsl (hR _ (Nat.le_of_ble_eq_true rfl))).symm | exact (rptr (hR _ (Nat.le_of_ble_eq_true rfl))).symm | (refine congrArg some (congrArg V.i ?_); omega) | (refine congrArg some (congrArg V.i ?_); (rw [sumZ, hrmF, ← Int.add_assoc]; rfl))) rfl (by first | exact trivial | exact Nat.le_of_ble_eq_true rfl | exact hy)) ?_)
          · repeat (first | (exact covL_app (cov_all (d := []) plain_ints (by omega) (fun i hi => rfl) (fun i hi => by (try simp only [flatN]); (repeat rw [find_skip (by omega)]); exact tail_row hi)) (cov_ent (fun k hk => rfl) (by omega) (fun k hk => by (try simp only [flatN]); (repeat rw [find_skip (by omega)]); exact tail_be hk hj20))) | refine And.intro (covE_some (hR _ (Nat.le_of_ble_eq_true rfl)) (Nat.le_of_ble_eq_true rfl) (by first | exact wf_ints _ _ | exact wf_bools _ _ | first | first | exact wf_sls _ _ _ (by omega) | exact wf_jobs _ _ | exact wf_famS _ _ _ (by omega) | simp [C.wf]) rfl (by first | exact ren_ints _ _ | exact ren_sls_of (fun l hl => hR l (by omega)) (by omega) | exact ren_sl1 (hR _ (Nat.le_of_ble_eq_true rfl)) | (exact seqO_id) | rfl)) ?_)
        · obtain rfl : i = (j.getD b []).length := by omega
          repeat ((conv => whnf); first
              | (refine And.intro (by first | omega | exact Nat.le_of_ble_eq_true rfl | (dsimp only [inK]; omega) | (simp only [mulS_eq]; omega) | (simp only [mulS_eq, setL_length]; omega) | (simp only [setL_length, List.length_map]; omega) | exact ⟨by omega, by omega, by first | exact Nat.le_of_ble_eq_true rfl | (dsimp only; omega) | (simp only [setL_length]; omega) | (simp only [setL_length, List.length_map]; omega)⟩ | exact ⟨by omega, by first | rfl | omega, by omega, Nat.le_of_ble_eq_true rfl, Nat.le_of_ble_eq_true rfl⟩ | exact ⟨rfl, rfl, rfl, Nat.le_of_ble_eq_true rfl, by first | rfl | omega | exact Nat.le_of_ble_eq_true rfl | (simp; done) | (simp; omega), by first | rfl | omega | exact Nat.le_of_ble_eq_true rfl | (simp; done) | (simp; omega), by omega, Nat.le_of_ble_eq_true rfl⟩ | exact Eq.refl true) ?_)
              | (with_reducible refine ld (slL hlt) ?_)
              | (refine Exists.intro _ (And.intro rfl ?_))
              | (refine And.intro (And.intro rfl (chk_rowI _ _ _ _)) ?_)
              | (refine br_t (by omega) ?_)
              | (refine br_f (by omega) ?_)
              | (refine bs_t (by omega) ?_)
              | (refine bs_f (by omega) ?_)
              | (refine fun (K' : K3) hK' => ?_)
              | (refine hK' _ _ _ ?_; clear hK' K')
              | (refine draw_auto tok mixed (by kernel_rfl) ?_)
              | (refine bs_bt (Eq.refl true) ?_)
              | (refine bs_bf (Eq.refl false) ?_)
              | (refine br_bt (Eq.refl true) ?_)
              | (refine br_bf (Eq.refl false) ?_)
              | (refine CallK.m ?_)
              | (refine And.intro (And.intro rfl rfl) ?_))
          refine ⟨b + 1, [], by omega, by omega, ?_⟩
          refine ⟨?_, ?_, inj_nil (p := [_, _, _]) hT rfl (by simp), rfl, by first | exact Nat.le_of_ble_eq_true rfl | omega⟩
          · repeat (first | exact trivial | refine And.intro (covS_syn (by first | rfl | exact (rsl (hR _ (Nat.le_of_ble_eq_true rfl))).symm | exact (rptr (hR _ (Nat.le_of_ble_eq_true rfl))).symm | (refine congrArg some (congrArg V.i ?_); omega) | (refine congrArg some (congrArg V.i ?_); rfl)) rfl (by first | exact trivial | exact Nat.le_of_ble_eq_true rfl | exact hy)) ?_)
          · repeat (first | (exact covL_app (cov_all (d := []) plain_ints (by omega) (fun i hi => rfl) (fun i hi => by (try simp only [flatN]); (repeat rw [find_skip (by omega)]); exact tail_row hi)) (cov_ent (fun k hk => rfl) (by omega) (fun k hk => by (try simp only [flatN]); (repeat rw [find_skip (by omega)]); exact tail_be hk hj20))) | refine And.intro (covE_some (hR _ (Nat.le_of_ble_eq_true rfl)) (Nat.le_of_ble_eq_true rfl) (by first | exact wf_ints _ _ | exact wf_bools _ _ | first | first | exact wf_sls _ _ _ (by omega) | exact wf_jobs _ _ | exact wf_famS _ _ _ (by omega) | simp [C.wf]) rfl (by first | exact ren_ints _ _ | exact ren_sls_of (fun l hl => hR l (by omega)) (by omega) | exact ren_sl1 (hR _ (Nat.le_of_ble_eq_true rfl)) | (exact seqO_id) | rfl)) ?_)
    · obtain rfl : b = j.length := by omega
      repeat ((conv => whnf); first
          | (refine And.intro (by first | omega | exact Nat.le_of_ble_eq_true rfl | (dsimp only [inK]; omega) | (simp only [mulS_eq]; omega) | (simp only [mulS_eq, setL_length]; omega) | (simp only [setL_length, List.length_map]; omega) | exact ⟨by omega, by omega, by first | exact Nat.le_of_ble_eq_true rfl | (dsimp only; omega) | (simp only [setL_length]; omega) | (simp only [setL_length, List.length_map]; omega)⟩ | exact ⟨by omega, by first | rfl | omega, by omega, Nat.le_of_ble_eq_true rfl, Nat.le_of_ble_eq_true rfl⟩ | exact ⟨rfl, rfl, rfl, Nat.le_of_ble_eq_true rfl, by first | rfl | omega | exact Nat.le_of_ble_eq_true rfl | (simp; done) | (simp; omega), by first | rfl | omega | exact Nat.le_of_ble_eq_true rfl | (simp; done) | (simp; omega), by omega, Nat.le_of_ble_eq_true rfl⟩ | exact Eq.refl true) ?_)
          | (refine Exists.intro _ (And.intro rfl ?_))
          | (refine And.intro (And.intro rfl (chk_rowI _ _ _ _)) ?_)
          | (refine br_t (by omega) ?_)
          | (refine br_f (by omega) ?_)
          | (refine bs_t (by omega) ?_)
          | (refine bs_f (by omega) ?_)
          | (refine fun (K' : K3) hK' => ?_)
          | (refine hK' _ _ _ ?_; clear hK' K')
          | (refine draw_auto tok mixed (by kernel_rfl) ?_)
          | (refine bs_bt (Eq.refl true) ?_)
          | (refine bs_bf (Eq.refl false) ?_)
          | (refine br_bt (Eq.refl true) ?_)
          | (refine br_bf (Eq.refl false) ?_)
          | (refine CallK.m ?_)
          | (refine And.intro (And.intro rfl rfl) ?_))
      intro ρ; rfl
theorem rHarmE_spec (j : Coast) (o : List Int) (hj : Sized j) (ho : o.length ≤ 200) : Spec Try.prog 25 [V.c (.sl 0 j.length), V.c (.sl 21 o.length)] (⟨0, .ro 1, slsC 1 j⟩ :: ⟨21, .ro 0, o.map C.i⟩ :: entC 1 j) 32 (Is (numO (validL j) (isOrdB j o) (harmO j o o.length))) := by
  have hj20 := hj.len
  have hA := asked_spec j o hj ho
  rw [asked_val] at hA
  cases hv : validL j with
  | true =>
    cases hi : isOrdB j o with
    | true =>
      have e : ordE j o = 0 := by simp [ordE, hv, hi]
      rw [e] at hA
      refine Spec.of tok Try.func25 rfl rfl rfl fun n0 cx => vc_ok tok ?_
      repeat ((conv => whnf); first
          | (refine And.intro (by first | omega | exact Nat.le_of_ble_eq_true rfl | (dsimp only [inK]; omega) | (simp only [mulS_eq]; omega) | (simp only [mulS_eq, setL_length]; omega) | (simp only [setL_length, List.length_map]; omega) | exact ⟨by omega, by omega, by first | exact Nat.le_of_ble_eq_true rfl | (dsimp only; omega) | (simp only [setL_length]; omega) | (simp only [setL_length, List.length_map]; omega)⟩ | exact ⟨by omega, by first | rfl | omega, by omega, Nat.le_of_ble_eq_true rfl, Nat.le_of_ble_eq_true rfl⟩ | exact ⟨rfl, rfl, rfl, Nat.le_of_ble_eq_true rfl, by first | rfl | omega | exact Nat.le_of_ble_eq_true rfl | (simp; done) | (simp; omega), by first | rfl | omega | exact Nat.le_of_ble_eq_true rfl | (simp; done) | (simp; omega), by omega, Nat.le_of_ble_eq_true rfl⟩ | exact Eq.refl true) ?_)
          | (refine Exists.intro _ (And.intro rfl ?_))
          | (refine And.intro (And.intro rfl (chk_rowI _ _ _ _)) ?_)
          | (refine br_t (by omega) ?_)
          | (refine br_f (by omega) ?_)
          | (refine bs_t (by omega) ?_)
          | (refine bs_f (by omega) ?_)
          | (refine fun (K' : K3) hK' => ?_)
          | (refine hK' _ _ _ ?_; clear hK' K')
          | (refine draw_auto tok mixed (by kernel_rfl) ?_)
          | (refine CallK.val (R := []) hA (by kernel_rfl) rfl (by simp [V.wf, A.wf, C.wf]) (HasO.ro ⟨⟨rfl, fun k hk => by (repeat (first | rw [find_skip (by omega)] | rw [find_hi (by omega) (by rfl)])); exact entC_find hk⟩, rfl⟩ hj) (injO hj) rfl trivial ?_)
          | (refine CallK.val (R := []) (rharm_spec j o hj ho hv hi) (by kernel_rfl) rfl (by simp [V.wf, A.wf, C.wf]) (HasO.ro ⟨⟨rfl, fun k hk => by (repeat (first | rw [find_skip (by omega)] | rw [find_hi (by omega) (by rfl)])); exact entC_find hk⟩, rfl⟩ hj) (injO hj) rfl trivial ?_)
          | (refine bs_bt (Eq.refl true) ?_)
          | (refine bs_bf (Eq.refl false) ?_)
          | (refine br_bt (Eq.refl true) ?_)
          | (refine br_bf (Eq.refl false) ?_)
          | (refine CallK.m ?_)
          | (refine And.intro (And.intro rfl rfl) ?_))
      intro ρ; rfl
    | false =>
      have e : ordE j o = 61 := by simp [ordE, hv, hi]
      rw [e] at hA
      refine Spec.of tok Try.func25 rfl rfl rfl fun n0 cx => vc_ok tok ?_
      repeat ((conv => whnf); first
          | (refine And.intro (by first | omega | exact Nat.le_of_ble_eq_true rfl | (dsimp only [inK]; omega) | (simp only [mulS_eq]; omega) | (simp only [mulS_eq, setL_length]; omega) | (simp only [setL_length, List.length_map]; omega) | exact ⟨by omega, by omega, by first | exact Nat.le_of_ble_eq_true rfl | (dsimp only; omega) | (simp only [setL_length]; omega) | (simp only [setL_length, List.length_map]; omega)⟩ | exact ⟨by omega, by first | rfl | omega, by omega, Nat.le_of_ble_eq_true rfl, Nat.le_of_ble_eq_true rfl⟩ | exact ⟨rfl, rfl, rfl, Nat.le_of_ble_eq_true rfl, by first | rfl | omega | exact Nat.le_of_ble_eq_true rfl | (simp; done) | (simp; omega), by first | rfl | omega | exact Nat.le_of_ble_eq_true rfl | (simp; done) | (simp; omega), by omega, Nat.le_of_ble_eq_true rfl⟩ | exact Eq.refl true) ?_)
          | (refine Exists.intro _ (And.intro rfl ?_))
          | (refine And.intro (And.intro rfl (chk_rowI _ _ _ _)) ?_)
          | (refine br_t (by omega) ?_)
          | (refine br_f (by omega) ?_)
          | (refine bs_t (by omega) ?_)
          | (refine bs_f (by omega) ?_)
          | (refine fun (K' : K3) hK' => ?_)
          | (refine hK' _ _ _ ?_; clear hK' K')
          | (refine draw_auto tok mixed (by kernel_rfl) ?_)
          | (refine CallK.val (R := []) hA (by kernel_rfl) rfl (by simp [V.wf, A.wf, C.wf]) (HasO.ro ⟨⟨rfl, fun k hk => by (repeat (first | rw [find_skip (by omega)] | rw [find_hi (by omega) (by rfl)])); exact entC_find hk⟩, rfl⟩ hj) (injO hj) rfl trivial ?_)
          | (refine bs_bt (Eq.refl true) ?_)
          | (refine bs_bf (Eq.refl false) ?_)
          | (refine br_bt (Eq.refl true) ?_)
          | (refine br_bf (Eq.refl false) ?_)
          | (refine CallK.m ?_)
          | (refine And.intro (And.intro rfl rfl) ?_))
      intro ρ; rfl
  | false =>
    have e : ordE j o = 60 := by simp [ordE, hv]
    rw [e] at hA
    refine Spec.of tok Try.func25 rfl rfl rfl fun n0 cx => vc_ok tok ?_
    repeat ((conv => whnf); first
        | (refine And.intro (by first | omega | exact Nat.le_of_ble_eq_true rfl | (dsimp only [inK]; omega) | (simp only [mulS_eq]; omega) | (simp only [mulS_eq, setL_length]; omega) | (simp only [setL_length, List.length_map]; omega) | exact ⟨by omega, by omega, by first | exact Nat.le_of_ble_eq_true rfl | (dsimp only; omega) | (simp only [setL_length]; omega) | (simp only [setL_length, List.length_map]; omega)⟩ | exact ⟨by omega, by first | rfl | omega, by omega, Nat.le_of_ble_eq_true rfl, Nat.le_of_ble_eq_true rfl⟩ | exact ⟨rfl, rfl, rfl, Nat.le_of_ble_eq_true rfl, by first | rfl | omega | exact Nat.le_of_ble_eq_true rfl | (simp; done) | (simp; omega), by first | rfl | omega | exact Nat.le_of_ble_eq_true rfl | (simp; done) | (simp; omega), by omega, Nat.le_of_ble_eq_true rfl⟩ | exact Eq.refl true) ?_)
        | (refine Exists.intro _ (And.intro rfl ?_))
        | (refine And.intro (And.intro rfl (chk_rowI _ _ _ _)) ?_)
        | (refine br_t (by omega) ?_)
        | (refine br_f (by omega) ?_)
        | (refine bs_t (by omega) ?_)
        | (refine bs_f (by omega) ?_)
        | (refine fun (K' : K3) hK' => ?_)
        | (refine hK' _ _ _ ?_; clear hK' K')
        | (refine draw_auto tok mixed (by kernel_rfl) ?_)
        | (refine CallK.val (R := []) hA (by kernel_rfl) rfl (by simp [V.wf, A.wf, C.wf]) (HasO.ro ⟨⟨rfl, fun k hk => by (repeat (first | rw [find_skip (by omega)] | rw [find_hi (by omega) (by rfl)])); exact entC_find hk⟩, rfl⟩ hj) (injO hj) rfl trivial ?_)
        | (refine bs_bt (Eq.refl true) ?_)
        | (refine bs_bf (Eq.refl false) ?_)
        | (refine br_bt (Eq.refl true) ?_)
        | (refine br_bf (Eq.refl false) ?_)
        | (refine CallK.m ?_)
        | (refine And.intro (And.intro rfl rfl) ?_))
    intro ρ; rfl
end Go.Proofs.Ytjijjncddjkdlaa

/- The law of the leads. -/
namespace Go.Proofs.Ytjijjncddjkdlaa
open Go.RowKit
set_option linter.unusedVariables false
set_option linter.unusedSimpArgs false
section
variable {n0 nx : Nat} {L : List E} {K : V → List E → Nat → Prop} {j : Coast}
theorem long_k (hj : j.length < 9223372036854775808) (hs : find L 0 = some ⟨0, .ro 1, slsC 1 j⟩) (hK : K (V.c (.bool (longB j))) [] nx) : CallK Try.prog n0 14 [V.c (.sl 0 j.length)] L nx K :=
  CallK.val (R := []) (long_any j hj) (by kernel_rfl) rfl (by simp [V.wf, A.wf, C.wf]) ⟨roE_id (Nat.succ_pos _) (wf_sls _ _ _ (by omega)) hs (.inr rfl) rfl, trivial⟩ rfl rfl trivial hK
theorem sane_k (hK : K (V.c (.bool true)) [] nx) : CallK Try.prog n0 15 [] L nx K :=
  CallK.val (R := []) sane_spec (by kernel_rfl) rfl (by simp) trivial rfl rfl trivial hK
end
theorem isTrue_any {f : FuncId} {vs : List V} {L : List E} {na : Nat} {ρ : Env} {w : World} {args : Array Value} (spec : Spec Try.prog f vs L na (Is (V.c (.bool true)))) (hp : Hp w.heap.size ρ w L na) (hv : ∀ v ∈ vs, v.wf na) (ha : (vs.map (V.den ρ)).toArray = args) :
    Calls Try.prog f args w fun e w' => e = .returned (.bool true) ∧ Below w.heap.size w w' := by
  subst ha
  refine (spec ρ w hp hv).mono ?_
  rintro e w' ⟨v, ρ', L', nx', rfl, h1, h2, h3, h4, h5, h6⟩
  exact ⟨by rw [h6 ρ']; rfl, h4⟩
theorem leadV_tup (j : Coast) (b f : Int) : ∃ p q r e, leadV j b f = .tup [.c (.i p), .agg [.i q, .i r], .c (.i e)] := by
  unfold leadV
  split
  · split
    · exact ⟨_, _, _, _, rfl⟩
    · exact ⟨_, _, _, _, rfl⟩
  · exact ⟨_, _, _, _, rfl⟩
theorem leads_long (j : Coast) (b f : Int) (hj : j.length < 9223372036854775808) (hl : longB j = true) :
    Spec Try.prog 3 [V.c (.sl 0 j.length), V.i b, V.i f] [⟨0, .ro 1, slsC 1 j⟩] (j.length + 32) (Is (V.c (.bool true))) := by
  refine Spec.of tok Try.func3 rfl rfl rfl fun n0 cx => vc_ok tok ?_
  repeat ((conv => whnf); first
      | (refine And.intro (by first | omega | exact Nat.le_of_ble_eq_true rfl | (dsimp only [inK]; omega) | (simp only [mulS_eq]; omega) | (simp only [mulS_eq, setL_length]; omega) | (simp only [setL_length, List.length_map]; omega) | exact ⟨by omega, by omega, by first | exact Nat.le_of_ble_eq_true rfl | (dsimp only; omega) | (simp only [setL_length]; omega) | (simp only [setL_length, List.length_map]; omega)⟩ | exact ⟨by omega, by first | rfl | omega, by omega, Nat.le_of_ble_eq_true rfl, Nat.le_of_ble_eq_true rfl⟩ | exact ⟨rfl, rfl, rfl, Nat.le_of_ble_eq_true rfl, by first | rfl | omega | exact Nat.le_of_ble_eq_true rfl | (simp; done) | (simp; omega), by first | rfl | omega | exact Nat.le_of_ble_eq_true rfl | (simp; done) | (simp; omega), by omega, Nat.le_of_ble_eq_true rfl⟩ | exact Eq.refl true) ?_)
      | (refine Exists.intro _ (And.intro rfl ?_))
      | (refine And.intro (And.intro rfl (chk_rowI _ _ _ _)) ?_)
      | (refine br_t (by omega) ?_)
      | (refine br_f (by omega) ?_)
      | (refine bs_t (by omega) ?_)
      | (refine bs_f (by omega) ?_)
      | (refine fun (K' : K3) hK' => ?_)
      | (refine hK' _ _ _ ?_; clear hK' K')
      | (refine draw_auto tok mixed (by kernel_rfl) ?_)
      | (refine long_k hj rfl ?_)
      | (refine br_bt hl ?_)
      | (refine sane_k ?_)
      | (refine CallK.m ?_)
      | (refine And.intro (And.intro rfl rfl) ?_))
  intro ρ; rfl
set_option maxRecDepth 10000 in
theorem leads_spec (j : Coast) (b f : Int) (hj : Sized j) (hl : longB j = false) (hbb : -9223372036854775808 ≤ b ∧ b ≤ 9223372036854775807) (hff : -9223372036854775808 ≤ f ∧ f ≤ 9223372036854775807) :
    Spec Try.prog 3 [V.c (.sl 0 j.length), V.i b, V.i f] (⟨0, .ro 1, slsC 1 j⟩ :: entC 1 j) 32 (Is (V.c (.bool true))) := by
  have hj20 := hj.len
  obtain ⟨p, q, r, e, hV⟩ := leadV_tup j b f
  have h1 := Lead_spec j hj b f hbb hff
  have h2 := rLead_spec j hj b f hbb hff
  rw [hV] at h1 h2
  refine Spec.of tok Try.func3 rfl rfl rfl fun n0 cx => vc_ok tok ?_
  repeat ((conv => whnf); first
      | (refine And.intro (by first | omega | exact Nat.le_of_ble_eq_true rfl | (dsimp only [inK]; omega) | (simp only [mulS_eq]; omega) | (simp only [mulS_eq, setL_length]; omega) | (simp only [setL_length, List.length_map]; omega) | exact ⟨by omega, by omega, by first | exact Nat.le_of_ble_eq_true rfl | (dsimp only; omega) | (simp only [setL_length]; omega) | (simp only [setL_length, List.length_map]; omega)⟩ | exact ⟨by omega, by first | rfl | omega, by omega, Nat.le_of_ble_eq_true rfl, Nat.le_of_ble_eq_true rfl⟩ | exact ⟨rfl, rfl, rfl, Nat.le_of_ble_eq_true rfl, by first | rfl | omega | exact Nat.le_of_ble_eq_true rfl | (simp; done) | (simp; omega), by first | rfl | omega | exact Nat.le_of_ble_eq_true rfl | (simp; done) | (simp; omega), by omega, Nat.le_of_ble_eq_true rfl⟩ | exact Eq.refl true) ?_)
      | (refine Exists.intro _ (And.intro rfl ?_))
      | (refine And.intro (And.intro rfl (chk_rowI _ _ _ _)) ?_)
      | (refine br_t (by omega) ?_)
      | (refine br_f (by omega) ?_)
      | (refine bs_t (by omega) ?_)
      | (refine bs_f (by omega) ?_)
      | (refine fun (K' : K3) hK' => ?_)
      | (refine hK' _ _ _ ?_; clear hK' K')
      | (refine draw_auto tok mixed (by kernel_rfl) ?_)
      | (refine long_k (by omega) rfl ?_)
      | (refine br_bf hl ?_)
      | (refine CallK.val (R := []) h1 (by kernel_rfl) rfl (by simp [V.wf, A.wf, C.wf, V.i]) (HasC.ro ⟨rfl, fun k hk => by (repeat (first | rw [find_skip (by omega)] | rw [find_hi (by omega) (by rfl)])); exact entC_find hk⟩ hj) (injC hj) rfl (by simp [V.wf, A.wf, C.wf]) ?_)
      | (refine CallK.val (R := []) h2 (by kernel_rfl) rfl (by simp [V.wf, A.wf, C.wf, V.i]) (HasC.ro ⟨rfl, fun k hk => by (repeat (first | rw [find_skip (by omega)] | rw [find_hi (by omega) (by rfl)])); exact entC_find hk⟩ hj) (injC hj) rfl (by simp [V.wf, A.wf, C.wf]) ?_)
      | (with_reducible refine updK_ent (by omega) ?_)
      | (refine bs_bt (by simp) ?_)
      | (refine br_bt (by simp) ?_)
      | (refine sane_k ?_)
      | (refine CallK.m ?_)
      | (refine And.intro (And.intro rfl rfl) ?_))
  intro ρ; rfl
theorem leads_any (j : Coast) (b f : Int) (ao : Option Addr) (c : Nat) (bs : Nat → Option Addr × Nat) (w : World) (h : CoastAt w ao c j bs) (hbb : -9223372036854775808 ≤ b ∧ b ≤ 9223372036854775807) (hff : -9223372036854775808 ≤ f ∧ f ≤ 9223372036854775807) :
    Calls Try.prog 3 #[.slice ao j.length c, .int .i64 b, .int .i64 f] w fun e w' => e = .returned (.bool true) ∧ Below w.heap.size w w' := by
  rcases bool_or (longB j) with hl | hl
  · exact isTrue_any (vs := [V.c (.sl 0 j.length), V.i b, V.i f]) (leads_spec j b f (longB_sized hl) hl hbb hff) (hp_coast h (longB_sized hl)) (by simp [V.wf, A.wf, C.wf, V.i]) rfl
  · exact isTrue_any (vs := [V.c (.sl 0 j.length), V.i b, V.i f]) (leads_long j b f h.lt hl) (hp_long h none 0) (by simp [V.wf, A.wf, C.wf, V.i]) rfl
end Go.Proofs.Ytjijjncddjkdlaa

/- The law of orders. -/
namespace Go.Proofs.Ytjijjncddjkdlaa
open Go.RowKit
set_option linter.unusedVariables false
set_option linter.unusedSimpArgs false
theorem orders_long (j : Coast) (o : List Int) (hj : j.length < 9223372036854775808) (hl : longB j = true ∨ 200 < o.length) :
    Spec Try.prog 5 [V.c (.sl 0 j.length), V.c (.sl (j.length + 31) o.length)] [⟨0, .ro 1, slsC 1 j⟩] (j.length + 32) (Is (V.c (.bool true))) := by
  rcases bool_or (longB j) with h | h
  · have ho : (o.length : Int) > 200 := by have := hl.resolve_left (by rw [h]; simp); omega
    refine Spec.of tok Try.func5 rfl rfl rfl fun n0 cx => vc_ok tok ?_
    repeat ((conv => whnf); first
        | (refine And.intro (by first | omega | exact Nat.le_of_ble_eq_true rfl | (dsimp only [inK]; omega) | (simp only [mulS_eq]; omega) | (simp only [mulS_eq, setL_length]; omega) | (simp only [setL_length, List.length_map]; omega) | exact ⟨by omega, by omega, by first | exact Nat.le_of_ble_eq_true rfl | (dsimp only; omega) | (simp only [setL_length]; omega) | (simp only [setL_length, List.length_map]; omega)⟩ | exact ⟨by omega, by first | rfl | omega, by omega, Nat.le_of_ble_eq_true rfl, Nat.le_of_ble_eq_true rfl⟩ | exact ⟨rfl, rfl, rfl, Nat.le_of_ble_eq_true rfl, by first | rfl | omega | exact Nat.le_of_ble_eq_true rfl | (simp; done) | (simp; omega), by first | rfl | omega | exact Nat.le_of_ble_eq_true rfl | (simp; done) | (simp; omega), by omega, Nat.le_of_ble_eq_true rfl⟩ | exact Eq.refl true) ?_)
        | (refine Exists.intro _ (And.intro rfl ?_))
        | (refine And.intro (And.intro rfl (chk_rowI _ _ _ _)) ?_)
        | (refine br_t (by omega) ?_)
        | (refine br_f (by omega) ?_)
        | (refine bs_t (by omega) ?_)
        | (refine bs_f (by omega) ?_)
        | (refine fun (K' : K3) hK' => ?_)
        | (refine hK' _ _ _ ?_; clear hK' K')
        | (refine draw_auto tok mixed (by kernel_rfl) ?_)
        | (refine long_k hj rfl ?_)
        | (refine bs_bf h ?_)
        | (refine br_t ho ?_)
        | (refine sane_k ?_)
        | (refine bs_bt (Eq.refl true) ?_)
        | (refine bs_bf (Eq.refl false) ?_)
        | (refine br_bt (Eq.refl true) ?_)
        | (refine br_bf (Eq.refl false) ?_)
        | (refine CallK.m ?_)
        | (refine And.intro (And.intro rfl rfl) ?_))
    intro ρ; rfl
  · refine Spec.of tok Try.func5 rfl rfl rfl fun n0 cx => vc_ok tok ?_
    repeat ((conv => whnf); first
        | (refine And.intro (by first | omega | exact Nat.le_of_ble_eq_true rfl | (dsimp only [inK]; omega) | (simp only [mulS_eq]; omega) | (simp only [mulS_eq, setL_length]; omega) | (simp only [setL_length, List.length_map]; omega) | exact ⟨by omega, by omega, by first | exact Nat.le_of_ble_eq_true rfl | (dsimp only; omega) | (simp only [setL_length]; omega) | (simp only [setL_length, List.length_map]; omega)⟩ | exact ⟨by omega, by first | rfl | omega, by omega, Nat.le_of_ble_eq_true rfl, Nat.le_of_ble_eq_true rfl⟩ | exact ⟨rfl, rfl, rfl, Nat.le_of_ble_eq_true rfl, by first | rfl | omega | exact Nat.le_of_ble_eq_true rfl | (simp; done) | (simp; omega), by first | rfl | omega | exact Nat.le_of_ble_eq_true rfl | (simp; done) | (simp; omega), by omega, Nat.le_of_ble_eq_true rfl⟩ | exact Eq.refl true) ?_)
        | (refine Exists.intro _ (And.intro rfl ?_))
        | (refine And.intro (And.intro rfl (chk_rowI _ _ _ _)) ?_)
        | (refine br_t (by omega) ?_)
        | (refine br_f (by omega) ?_)
        | (refine bs_t (by omega) ?_)
        | (refine bs_f (by omega) ?_)
        | (refine fun (K' : K3) hK' => ?_)
        | (refine hK' _ _ _ ?_; clear hK' K')
        | (refine draw_auto tok mixed (by kernel_rfl) ?_)
        | (refine long_k hj rfl ?_)
        | (refine bs_bt h ?_)
        | (refine br_bt h ?_)
        | (refine sane_k ?_)
        | (refine bs_bt (Eq.refl true) ?_)
        | (refine bs_bf (Eq.refl false) ?_)
        | (refine br_bt (Eq.refl true) ?_)
        | (refine br_bf (Eq.refl false) ?_)
        | (refine CallK.m ?_)
        | (refine And.intro (And.intro rfl rfl) ?_))
    intro ρ; rfl
theorem numO_tup (a b : Bool) (n : Int) : ∃ x y, numO a b n = .tup [.c (.i x), .c (.i y)] := by
  cases a <;> cases b <;> exact ⟨_, _, rfl⟩
theorem inj_two {D : List (List Int)} {k1 k2 : Kd} {c1 c2 : List C} (hD : D.length ≤ 20) : injB [] (⟨32, k1, c1⟩ :: ⟨60, k2, c2⟩ :: (famE rowE (List.map C.i) 40 D ++ famE rowE (List.map C.i) 61 D)) = true := by
  refine injB_gen (by simp) ?_ (by simp)
  simp only [List.map_cons, List.map_append, famE_labs]
  refine List.nodup_cons.2 ⟨fun h => ?_, List.nodup_cons.2 ⟨fun h => ?_, List.nodup_append.2 ⟨range_nd _ _, range_nd _ _, fun a ha b hb => ?_⟩⟩⟩
  · rcases List.mem_cons.1 h with h | h
    · omega
    · rcases List.mem_append.1 h with h | h
      · have := List.mem_range'_1.1 h; omega
      · have := List.mem_range'_1.1 h; omega
  · rcases List.mem_append.1 h with h | h
    · have := List.mem_range'_1.1 h; omega
    · have := List.mem_range'_1.1 h; omega
  · have := List.mem_range'_1.1 ha
    have := List.mem_range'_1.1 hb
    omega
theorem bneq (b : Bool) : (b != b) = false := by cases b <;> rfl
set_option maxHeartbeats 2000000 in
set_option maxRecDepth 100000 in
theorem orders_spec (j : Coast) (o : List Int) (hj : Sized j) (hl : longB j = false) (ho : o.length ≤ 200) :
    Spec Try.prog 5 [V.c (.sl 0 j.length), V.c (.sl 21 o.length)] (⟨0, .ro 1, slsC 1 j⟩ :: ⟨21, .ro 0, o.map C.i⟩ :: entC 1 j) 32 (Is (V.c (.bool true))) := by
  have hj20 := hj.len
  have hlen := slsC_len (b := 1) (j := j)
  have h200 : ¬ (o.length : Int) > 200 := by omega
  have hO1 : ∃ (x : Bool) (y : Int), (if validL j then V.tup [.c (.bool (isOrdB j o)), .c (.i 0)] else V.tup [.c (.bool false), .c (.i 60)]) = V.tup [.c (.bool x), .c (.i y)] ∧ (if validL j then V.tup [.c (.bool (risOrdB j o)), .c (.i 0)] else V.tup [.c (.bool false), .c (.i 60)]) = V.tup [.c (.bool x), .c (.i y)] := by
    cases hv : validL j with
    | true => exact ⟨isOrdB j o, 0, rfl, by rw [ris_eq (by have := validL_many hv; omega)]; rfl⟩
    | false => exact ⟨false, 60, rfl, rfl⟩
  obtain ⟨x, y, hX1, hX2⟩ := hO1
  have h1 := isOrderE_spec j o hj ho
  have h2 := rIsOrderE_spec j o hj ho
  rw [hX1] at h1
  rw [hX2] at h2
  have h3 := valid_spec j hj.len hj.be
  have h4 := rvalid_spec j hj
  have h5 := harmE_spec j o hj ho
  have h6 := rHarmE_spec j o hj ho
  obtain ⟨n, e, hN⟩ := numO_tup (validL j) (isOrdB j o) (harmO j o o.length)
  rw [hN] at h5 h6
  have h7 := sHours_spec j hj
  have h8 := rHours_spec j hj
  obtain ⟨n2, e2, hN2, hN3⟩ : ∃ n e, numE (validL j) (hoursC j j.length) = .tup [.c (.i n), .c (.i e)] ∧ (if validL j then V.tup [.c (.i (hoursC j j.length)), .c (.i 0)] else V.tup [.c (.i 0), .c (.i 60)]) = .tup [.c (.i n), .c (.i e)] := by
    cases hv : validL j with
    | true => exact ⟨_, _, rfl, rfl⟩
    | false => exact ⟨_, _, rfl, rfl⟩
  rw [hN2] at h7
  rw [hN3] at h8
  have h9 := DoneE_spec j o hj ho
  have h10 := rDoneE_spec j o hj ho
  have hDn : (doneR j o).length ≤ 20 := by
    unfold doneR
    split
    · rw [doneL_len]; exact hj20
    · simp
  have hDl : ∀ c, c < (doneR j o).length → ((doneR j o).getD c []).length ≤ 200 := by
    intro c hc
    by_cases h : ordE j o = 0
    · obtain ⟨hv, hi⟩ := ordE_zero h
      simp only [doneR, h, if_true] at hc ⊢
      rw [doneL_len] at hc
      rw [doneL_cnt (isOrd_ok hi) hc (Nat.le_refl _)]
      exact Nat.le_trans cntO_le ho
    · simp only [doneR, if_neg h] at hc; simp at hc
  generalize doneR j o = D at *
  generalize ordE j o = Er at *
  refine Spec.of tok Try.func5 rfl rfl rfl fun n0 cx => vc_ok tok ?_
  repeat ((conv => whnf); first
      | (refine And.intro (by first | omega | exact Nat.le_of_ble_eq_true rfl | (dsimp only [inK]; omega) | (simp only [mulS_eq]; omega) | (simp only [mulS_eq, setL_length]; omega) | (simp only [setL_length, List.length_map]; omega) | exact ⟨by omega, by omega, by first | exact Nat.le_of_ble_eq_true rfl | (dsimp only; omega) | (simp only [setL_length]; omega) | (simp only [setL_length, List.length_map]; omega)⟩ | exact ⟨by omega, by first | rfl | omega, by omega, Nat.le_of_ble_eq_true rfl, Nat.le_of_ble_eq_true rfl⟩ | exact ⟨rfl, rfl, rfl, Nat.le_of_ble_eq_true rfl, by first | rfl | omega | exact Nat.le_of_ble_eq_true rfl | (simp; done) | (simp; omega), by first | rfl | omega | exact Nat.le_of_ble_eq_true rfl | (simp; done) | (simp; omega), by omega, Nat.le_of_ble_eq_true rfl⟩ | exact Eq.refl true) ?_)
      | (refine Exists.intro _ (And.intro rfl ?_))
      | (refine And.intro (And.intro rfl (chk_rowI _ _ _ _)) ?_)
      | (refine br_t (by omega) ?_)
      | (refine br_f (by omega) ?_)
      | (refine bs_t (by omega) ?_)
      | (refine bs_f (by omega) ?_)
      | (refine fun (K' : K3) hK' => ?_)
      | (refine hK' _ _ _ ?_; clear hK' K')
      | (refine CallM.rows (d := []) (R := []) 40 (by omega) plain_ints (fun p x => chk_ints p x) rfl (fun e => by cases e) hDn h9 (by kernel_rfl) rfl (by simp [V.wf, A.wf, C.wf]) (HasO.ro ⟨⟨rfl, fun k hk => by (repeat (first | rw [find_skip (by omega)] | rw [find_hi (by omega) (by rfl)])); exact entC_find hk⟩, rfl⟩ hj) (injO hj) ?_)
      | (refine CallM.rows (d := []) (R := []) 61 (by omega) plain_ints (fun p x => chk_ints p x) rfl (fun e => by cases e) hDn h10 (by kernel_rfl) rfl (by simp [V.wf, A.wf, C.wf]) (HasO.ro ⟨⟨by (repeat (first | rw [find_skip (by omega)] | rw [find_fam (by omega)])); rfl, fun k hk => by (repeat (first | rw [find_skip (by omega)] | rw [find_fam (by omega)])); exact entC_find hk⟩, by (repeat (first | rw [find_skip (by omega)] | rw [find_fam (by omega)])); rfl⟩ hj) (injO hj) ?_)
      | (refine draw_auto tok mixed (by kernel_rfl) ?_)
      | (refine long_k (by omega) rfl ?_)
      | (refine bs_bf hl ?_)
      | (refine br_f h200 ?_)
      | (refine CallK.val (R := []) h1 (by kernel_rfl) rfl (by simp [V.wf, A.wf, C.wf]) (HasO.ro ⟨⟨rfl, fun k hk => by (repeat (first | rw [find_skip (by omega)] | rw [find_hi (by omega) (by rfl)])); exact entC_find hk⟩, rfl⟩ hj) (injO hj) rfl (by simp [V.wf, A.wf, C.wf]) ?_)
      | (refine CallK.val (R := []) h2 (by kernel_rfl) rfl (by simp [V.wf, A.wf, C.wf]) (HasO.ro ⟨⟨rfl, fun k hk => by (repeat (first | rw [find_skip (by omega)] | rw [find_hi (by omega) (by rfl)])); exact entC_find hk⟩, rfl⟩ hj) (injO hj) rfl (by simp [V.wf, A.wf, C.wf]) ?_)
      | (refine CallK.val (R := []) h3 (by kernel_rfl) rfl (by simp [V.wf, A.wf, C.wf]) (HasC.ro ⟨rfl, fun k hk => by (repeat (first | rw [find_skip (by omega)] | rw [find_hi (by omega) (by rfl)])); exact entC_find hk⟩ hj) (injC hj) rfl trivial ?_)
      | (refine CallK.val (R := []) h4 (by kernel_rfl) rfl (by simp [V.wf, A.wf, C.wf]) (HasC.ro ⟨rfl, fun k hk => by (repeat (first | rw [find_skip (by omega)] | rw [find_hi (by omega) (by rfl)])); exact entC_find hk⟩ hj) (injC hj) rfl trivial ?_)
      | (refine CallK.val (R := []) h5 (by kernel_rfl) rfl (by simp [V.wf, A.wf, C.wf]) (HasO.ro ⟨⟨rfl, fun k hk => by (repeat (first | rw [find_skip (by omega)] | rw [find_hi (by omega) (by rfl)])); exact entC_find hk⟩, rfl⟩ hj) (injO hj) rfl (by simp [V.wf, A.wf, C.wf]) ?_)
      | (refine CallK.val (R := []) h6 (by kernel_rfl) rfl (by simp [V.wf, A.wf, C.wf]) (HasO.ro ⟨⟨rfl, fun k hk => by (repeat (first | rw [find_skip (by omega)] | rw [find_hi (by omega) (by rfl)])); exact entC_find hk⟩, rfl⟩ hj) (injO hj) rfl (by simp [V.wf, A.wf, C.wf]) ?_)
      | (refine CallK.val (R := []) h7 (by kernel_rfl) rfl (by simp [V.wf, A.wf, C.wf]) (HasC.ro ⟨rfl, fun k hk => by (repeat (first | rw [find_skip (by omega)] | rw [find_hi (by omega) (by rfl)])); exact entC_find hk⟩ hj) (injC hj) rfl (by simp [V.wf, A.wf, C.wf]) ?_)
      | (refine CallK.val (R := []) h8 (by kernel_rfl) rfl (by simp [V.wf, A.wf, C.wf]) (HasC.ro ⟨rfl, fun k hk => by (repeat (first | rw [find_skip (by omega)] | rw [find_hi (by omega) (by rfl)])); exact entC_find hk⟩ hj) (injC hj) rfl (by simp [V.wf, A.wf, C.wf]) ?_)
      | (refine bs_bf (bneq _) ?_)
      | (refine br_bf (bneq _) ?_)
      | (refine bs_bt (Eq.refl true) ?_)
      | (refine bs_bf (Eq.refl false) ?_)
      | (refine br_bt (Eq.refl true) ?_)
      | (refine br_bf (Eq.refl false) ?_)
      | (refine CallK.m ?_)
      | (refine And.intro (And.intro rfl rfl) ?_))
  refine Tri.loop (γ := Nat) (fun c => c ≤ D.length) (fun c => [(15, V.c (.sl 32 D.length)), (16, V.c (.sl 60 D.length)), (17, V.i (c : Nat))])
    (fun c => ⟨32, .vec 35 1, famS List.length 40 D⟩ :: ⟨60, .vec 35 1, famS List.length 61 D⟩ :: (famE rowE (List.map C.i) 40 D ++ famE rowE (List.map C.i) 61 D)) 81 (fun c => D.length - c) 0 (R0 := []) ?_ ?_ ?_
  · omega
  · have hR : ∀ l, l < 61 → renL [] l = some l := fun l hl => rfl
    refine ⟨?_, ?_, inj_two hDn, rfl, by first | exact Nat.le_of_ble_eq_true rfl | omega⟩
    · repeat (first | exact trivial | refine And.intro (covS_syn (by first | rfl | exact (rsl (hR _ (Nat.le_of_ble_eq_true rfl))).symm | exact (rptr (hR _ (Nat.le_of_ble_eq_true rfl))).symm) rfl (by first | exact trivial | exact Nat.le_of_ble_eq_true rfl | exact hy)) ?_)
    · repeat (first | (exact covL_app (cov_all (d := []) plain_ints (by omega) (fun i hi => rfl) (fun i hi => by (try simp only [flatN]); (repeat (first | rw [find_skip (by omega)] | rw [find_fam (by omega)])); exact find_app_some (famE_find hi))) (cov_all (d := []) plain_ints (by omega) (fun i hi => rfl) (fun i hi => by rw [find_skip (by omega)]; exact find_app_some (famE_find hi)))) | (refine And.intro (covE_some rfl (Nat.le_of_ble_eq_true rfl) (wf_famS _ _ _ (by omega)) (by rw [find_skip (by simp only; omega), find_fam (by simp only; omega)]; rfl) seqO_id) ?_) | refine And.intro (covE_some (hR _ (Nat.le_of_ble_eq_true rfl)) (Nat.le_of_ble_eq_true rfl) (by first | exact wf_ints _ _ | exact wf_bools _ _ | first | first | exact wf_sls _ _ _ (by omega) | exact wf_jobs _ _ | exact wf_famS _ _ _ (by omega) | simp [C.wf]) rfl (by first | exact ren_ints _ _ | exact ren_sls_of (fun l hl => hR l (by omega)) (by omega) | exact ren_sl1 (hR _ (Nat.le_of_ble_eq_true rfl)) | (exact seqO_id) | rfl)) ?_)
  · intro c hcc
    refine vc_ok tok ?_
    have hR : ∀ l, l < 61 → renL [] l = some l := fun l hl => rfl
    have hfl : (famS List.length 40 D).length = D.length := famS_len
    have hfl2 : (famS List.length 61 D).length = D.length := famS_len
    by_cases hlt : c < D.length
    · have hsame := sameInts_spec (D.getD c []) (D.getD c []) (by have := hDl c hlt; omega) (by have := hDl c hlt; omega)
      rw [decide_eq_true rfl] at hsame
      repeat ((conv => whnf); first
          | (refine And.intro (by first | omega | exact Nat.le_of_ble_eq_true rfl | (dsimp only [inK]; omega) | (simp only [mulS_eq]; omega) | (simp only [mulS_eq, setL_length]; omega) | (simp only [setL_length, List.length_map]; omega) | exact ⟨by omega, by omega, by first | exact Nat.le_of_ble_eq_true rfl | (dsimp only; omega) | (simp only [setL_length]; omega) | (simp only [setL_length, List.length_map]; omega)⟩ | exact ⟨by omega, by first | rfl | omega, by omega, Nat.le_of_ble_eq_true rfl, Nat.le_of_ble_eq_true rfl⟩ | exact ⟨rfl, rfl, rfl, Nat.le_of_ble_eq_true rfl, by first | rfl | omega | exact Nat.le_of_ble_eq_true rfl | (simp; done) | (simp; omega), by first | rfl | omega | exact Nat.le_of_ble_eq_true rfl | (simp; done) | (simp; omega), by omega, Nat.le_of_ble_eq_true rfl⟩ | exact Eq.refl true) ?_)
          | (with_reducible refine ld (famL (b := 40) (d := []) rfl hlt) ?_)
          | (with_reducible refine ld (famL (b := 61) (d := []) rfl hlt) ?_)
          | (refine Exists.intro _ (And.intro rfl ?_))
          | (refine And.intro (And.intro rfl (chk_rowI _ _ _ _)) ?_)
          | (refine br_t (by omega) ?_)
          | (refine br_f (by omega) ?_)
          | (refine bs_t (by omega) ?_)
          | (refine bs_f (by omega) ?_)
          | (refine fun (K' : K3) hK' => ?_)
          | (refine hK' _ _ _ ?_; clear hK' K')
          | (refine draw_auto tok mixed (by kernel_rfl) ?_)
          | (refine HD_mk (fun _ h => CallK.val (R := [(0, some (c + 40)), (1, some (c + 61))]) hsame (by kernel_rfl) rfl (by simp [V.wf, A.wf, C.wf]) ⟨⟨by simp only; omega, wf_ints _ _, rowE, _, (by (try (conv => lhs; arg 1; whnf)); (repeat rw [find_skip (by omega)]); exact find_app_some (famE_find hlt)), .inl rfl, ren_ints _ _⟩, ⟨by simp only; omega, wf_ints _ _, rowE, _, (by (try (conv => lhs; arg 1; whnf)); (repeat rw [find_skip (by omega)]); rw [find_app (fun e he => by have hm : e.lab ∈ (famE rowE (List.map C.i) 40 D).map E.lab := List.mem_map.2 ⟨e, he, rfl⟩; rw [famE_labs] at hm; have := List.mem_range'_1.1 hm; omega)]; exact famE_find hlt), .inl rfl, ren_ints _ _⟩, trivial⟩ rfl rfl trivial h) ?_)
          | (refine bs_bt (Eq.refl true) ?_)
          | (refine bs_bf (Eq.refl false) ?_)
          | (refine br_bt (Eq.refl true) ?_)
          | (refine br_bf (Eq.refl false) ?_)
          | (refine CallK.m ?_)
          | (refine And.intro (And.intro rfl rfl) ?_))
      refine ⟨c + 1, [], by omega, by omega, ?_⟩
      refine ⟨?_, ?_, inj_two hDn, rfl, by first | exact Nat.le_of_ble_eq_true rfl | omega⟩
      · repeat (first | exact trivial | refine And.intro (covS_syn (by first | rfl | exact (rsl (hR _ (Nat.le_of_ble_eq_true rfl))).symm | exact (rptr (hR _ (Nat.le_of_ble_eq_true rfl))).symm | (refine congrArg some (congrArg V.i ?_); omega)) rfl (by first | exact trivial | exact Nat.le_of_ble_eq_true rfl | exact hy)) ?_)
      · repeat (first | (exact covL_app (cov_all (d := []) plain_ints (by omega) (fun i hi => rfl) (fun i hi => by (try simp only [flatN]); (repeat (first | rw [find_skip (by omega)] | rw [find_fam (by omega)])); exact find_app_some (famE_find hi))) (cov_all (d := []) plain_ints (by omega) (fun i hi => rfl) (fun i hi => by (try simp only [flatN]); (repeat rw [find_skip (by omega)]); rw [find_app (fun e he => by have hm : e.lab ∈ (famE rowE (List.map C.i) 40 D).map E.lab := List.mem_map.2 ⟨e, he, rfl⟩; rw [famE_labs] at hm; have := List.mem_range'_1.1 hm; omega)]; exact famE_find hi))) | refine And.intro (covE_some (hR _ (Nat.le_of_ble_eq_true rfl)) (Nat.le_of_ble_eq_true rfl) (by first | exact wf_ints _ _ | exact wf_bools _ _ | first | first | exact wf_sls _ _ _ (by omega) | exact wf_jobs _ _ | exact wf_famS _ _ _ (by omega) | simp [C.wf]) rfl (by first | exact ren_ints _ _ | exact ren_sls_of (fun l hl => hR l (by omega)) (by omega) | exact ren_sl1 (hR _ (Nat.le_of_ble_eq_true rfl)) | (exact seqO_id) | rfl)) ?_)
    · repeat ((conv => whnf); first
          | (refine And.intro (by first | omega | exact Nat.le_of_ble_eq_true rfl | (dsimp only [inK]; omega) | (simp only [mulS_eq]; omega) | (simp only [mulS_eq, setL_length]; omega) | (simp only [setL_length, List.length_map]; omega) | exact ⟨by omega, by omega, by first | exact Nat.le_of_ble_eq_true rfl | (dsimp only; omega) | (simp only [setL_length]; omega) | (simp only [setL_length, List.length_map]; omega)⟩ | exact ⟨by omega, by first | rfl | omega, by omega, Nat.le_of_ble_eq_true rfl, Nat.le_of_ble_eq_true rfl⟩ | exact ⟨rfl, rfl, rfl, Nat.le_of_ble_eq_true rfl, by first | rfl | omega | exact Nat.le_of_ble_eq_true rfl | (simp; done) | (simp; omega), by first | rfl | omega | exact Nat.le_of_ble_eq_true rfl | (simp; done) | (simp; omega), by omega, Nat.le_of_ble_eq_true rfl⟩ | exact Eq.refl true) ?_)
          | (refine Exists.intro _ (And.intro rfl ?_))
          | (refine And.intro (And.intro rfl (chk_rowI _ _ _ _)) ?_)
          | (refine br_t (by omega) ?_)
          | (refine br_f (by omega) ?_)
          | (refine bs_t (by omega) ?_)
          | (refine bs_f (by omega) ?_)
          | (refine fun (K' : K3) hK' => ?_)
          | (refine hK' _ _ _ ?_; clear hK' K')
          | (refine draw_auto tok mixed (by kernel_rfl) ?_)
          | (refine sane_k ?_)
          | (refine bs_bt (Eq.refl true) ?_)
          | (refine bs_bf (Eq.refl false) ?_)
          | (refine br_bt (Eq.refl true) ?_)
          | (refine br_bf (Eq.refl false) ?_)
          | (refine CallK.m ?_)
          | (refine And.intro (And.intro rfl rfl) ?_))
      intro ρ; rfl
theorem orders_any (j : Coast) (o : List Int) (ao : Option Addr) (c : Nat) (bs : Nat → Option Addr × Nat) (po : Option Addr) (pc : Nat) (w : World) (h : CoastAt w ao c j bs) (ho : RoAt w po (o.map (Value.int .i64))) :
    Calls Try.prog 5 #[.slice ao j.length c, .slice po o.length pc] w fun e w' => e = .returned (.bool true) ∧ Below w.heap.size w w' := by
  by_cases hl : longB j = true ∨ 200 < o.length
  · refine isTrue_any (vs := [V.c (.sl 0 j.length), V.c (.sl (j.length + 31) o.length)]) (orders_long j o h.lt hl) (hp_long h po pc) (by simp [V.wf, A.wf, C.wf, V.i]) ?_
    simp [V.den, A.den, C.den, C.i, V.i, coastE]
  · have h1 : longB j = false := by simpa using fun e => hl (.inl e)
    exact isTrue_any (vs := [V.c (.sl 0 j.length), V.c (.sl 21 o.length)]) (orders_spec j o (longB_sized h1) h1 (by omega)) (hp_order h (longB_sized h1) ho) (by simp [V.wf, A.wf, C.wf, V.i]) rfl
end Go.Proofs.Ytjijjncddjkdlaa

