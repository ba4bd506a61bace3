/- Regions that draw: the rule. -/
import Derived.Test.YtnafllhgjidbkaaS12
namespace Go.Proofs.Ytnafllhgjidbkaa
open Go.RowKit
set_option linter.unusedVariables false
set_option linter.unusedSimpArgs false
/-- How many heads have not run. -/
def cnt (listed : Array Bool) : Nat → Nat
  | 0 => 0
  | n + 1 => cnt listed n + if listed.getD n false = true then 0 else 1
theorem getD_set_same {listed : Array Bool} {i : Nat} (h : i < listed.size) : (listed.setIfInBounds i true).getD i false = true := by simp [h]
theorem cnt_set {listed : Array Bool} {i : Nat} (hs : i < listed.size) (hf : listed.getD i false = false) : ∀ n, (i < n → cnt (listed.setIfInBounds i true) n + 1 = cnt listed n) ∧ (n ≤ i → cnt (listed.setIfInBounds i true) n = cnt listed n)
  | 0 => ⟨fun h => by omega, fun _ => rfl⟩
  | n + 1 => by
    obtain ⟨h1, h2⟩ := cnt_set hs hf n
    refine ⟨fun hi => ?_, fun hi => ?_⟩
    · by_cases hin : i = n
      · subst hin
        simp only [cnt, getD_set_same hs, if_true, hf, Bool.false_eq_true, if_false]
        rw [h2 (Nat.le_refl _)]
      · have := h1 (by omega)
        simp only [cnt, getD_set_ne false hin]
        omega
    · simp only [cnt, getD_set_ne false (show i ≠ n by omega)]
      rw [h2 (by omega)]
theorem cnt_zero {listed : Array Bool} : ∀ {n : Nat}, cnt listed n = 0 → ∀ i, i < n → listed.getD i false = true
  | 0, _, i, hi => by omega
  | n + 1, h, i, hi => by
    simp only [cnt] at h
    by_cases hn : listed.getD n false = true
    · by_cases hin : i = n
      · rw [hin]; exact hn
      · exact cnt_zero (n := n) (by omega) i (by omega)
    · rw [if_neg hn] at h; omega
theorem cnt_pos {listed : Array Bool} : ∀ {n : Nat}, 0 < cnt listed n → ∃ i, i < n ∧ listed.getD i false = false ∧ ∀ j, j < i → listed.getD j false = true
  | 0, h => by simp [cnt] at h
  | n + 1, h => by
    by_cases hc : 0 < cnt listed n
    · obtain ⟨i, h1, h2⟩ := cnt_pos hc; exact ⟨i, by omega, h2⟩
    · simp only [cnt] at h
      by_cases hn : listed.getD n false = true
      · rw [if_pos hn] at h; omega
      · exact ⟨n, by omega, by simpa using hn, cnt_zero (n := n) (by omega)⟩
section
variable {P : Program} {T : List (Nat × TD)} {n0 N na nx0 : Nat} {all : List Oper} {L0 : List E} {s0 : S} {ds : List Stp} {n : Nat}
theorem DSt.congr {ny : Nat} {ρ0 ρ : Env} {w0 w : World} {a : Act} {D D' : Nat → Bool} (h : DSt n0 N nx0 all L0 s0 ds n ny ρ0 w0 D ρ a w) (he : D = D') : DSt n0 N nx0 all L0 s0 ds n ny ρ0 w0 D' ρ a w := he ▸ h
theorem sim (hP : ∀ j st, ds[j]? = some st → PStep P n0 N all L0 s0 nx0 ds j st) (hn : ds.length = n) (hna : n ≤ all.length) (hH : headB all.toArray n = true) {ny : Nat} (hny : ∀ (j : Nat) (st : Stp), ds[j]? = some st → st.hi ≤ ny)
    (hL0 : ∀ e ∈ L0, e.lab < nx0 ∧ ∀ c ∈ e.cs, c.wf nx0) (hs0 : ∀ t v, look s0 t = some v → v.wf nx0)
    (ht : n = all.length ∨ (Region.sinkB .any all.toArray n = true ∧ Region.chainB .any all.toArray n = true)) {g : Nat} {ρ0 : Env} {w0 : World} {Q : Exit → Act → World → Prop}
    (hend : ∀ ρ a w, DSt n0 N nx0 all L0 s0 ds n ny ρ0 w0 (fun j => Nat.blt j n) ρ a w → wpAny P .any all.toArray Q g (listedN n (all.length - n)) a w) :
    ∀ (c : Nat) (listed : Array Bool) (ρ : Env) (a : Act) (w : World), cnt listed n = c → HeadInv .any all.toArray n listed → DSt n0 N nx0 all L0 s0 ds n ny ρ0 w0 (fun j => listed.getD j false) ρ a w →
      wpAny P .any all.toArray Q (c + g) listed a w
  | 0, listed, ρ, a, w, hc, inv, h => by
    have hl := cnt_zero hc
    have htail : ∀ t, n ≤ t → listed.getD t false = false := fun t hnt => by
      by_cases hts : t < all.length
      · exact getD_both (inv.tail t hnt (by simpa using hts))
      · have hsz := inv.size; simp at hsz; simp [Array.getElem?_eq_none (show listed.size ≤ t by omega)]
    have hlist : listed = listedN n (all.length - n) := by
      have hsz := inv.size
      simp only [List.size_toArray] at hsz
      apply Array.ext
      · simp [listedN, hsz]; omega
      · intro i hi hi'
        by_cases hin : i < n
        · have := hl i hin
          simp [hi] at this
          rw [this]; simp [listedN, hin]
        · have := htail i (by omega)
          simp [hi] at this
          rw [this]; simp [listedN, List.getElem_append_right (show (List.replicate n true).length ≤ i by simp; omega)]
    rw [Nat.zero_add, hlist]
    refine hend ρ a w (h.congr (funext fun j => ?_))
    by_cases hjn : j < n
    · have h2 : Nat.blt j n = true := Nat.ble_eq_true_of_le hjn
      rw [h2]; exact hl j hjn
    · have h1 := htail j (by omega)
      have h2 : Nat.blt j n = false := by
        cases hb : Nat.blt j n with
        | false => rfl
        | true => exact absurd (Nat.le_of_ble_eq_true hb) hjn
      rw [h2]; exact h1
  | c + 1, listed, ρ, a, w, hc, inv, h => by
    have hsz := inv.size
    simp only [List.size_toArray] at hsz
    obtain ⟨i0, hi0, hf0, hlow⟩ := cnt_pos (n := n) (listed := listed) (by omega)
    have hcl : Closed all fun j => listed.getD j false = true := fun j oj hj hD e he hb => inv.closed j oj (by simpa using hj) hD e he hb
    rw [show c + 1 + g = (c + g) + 1 by omega]
    refine ⟨fun hr => ?_, fun i hi => ?_⟩
    · exfalso
      have hlt : i0 < all.length := by omega
      have : i0 ∈ Region.ready .any all.toArray listed := mem_ready.2 ⟨getD_in (by omega) hf0, all[i0], by simp [hlt], fun e he hb => by
        exact hlow _ (headB_edges hH hi0 (List.getElem?_eq_getElem hlt) e he hb)⟩
      rw [hr] at this; cases this
    · obtain ⟨hun, oi, hoi, hall⟩ := mem_ready.1 hi
      have hin : i < n := by
        rcases Nat.lt_or_ge i n with hh | hh
        · exact hh
        · exfalso
          rcases ht with ht | ⟨ht1, ht2⟩
          · have := (Array.getElem?_eq_some_iff.1 hoi).1; simp at this; omega
          · by_cases hnl : n < all.length
            · exact tail_waits ht1 ht2 (by simpa using hnl) inv _ i0 rfl hi0 (getD_in (by omega) hf0) i hh hi
            · have := (Array.getElem?_eq_some_iff.1 hoi).1; simp at this; omega
      have hfi := getD_both hun
      refine DSt.step hP hn hH hny hL0 hs0 h hcl hin hfi (fun o ho e he hb => ?_) (fun ρ' a' w' h' => ?_)
      · simp only [List.getElem?_toArray] at hoi
        rw [hoi] at ho; cases ho
        exact hall e he hb
      · have hcs := (cnt_set (i := i) (by omega) hfi n).1 hin
        refine sim hP hn hna hH hny hL0 hs0 ht hend c _ ρ' a' w' (by omega) (inv.set hi hin) (h'.congr (funext fun j => ?_))
        by_cases hji : i = j
        · subst hji
          rw [getD_set_same (by omega)]; simp
        · rw [getD_set_ne false hji]
          have : Nat.beq j i = false := by
            cases hb : Nat.beq j i with
            | false => rfl
            | true => exact absurd (Nat.eq_of_beq_eq_true hb).symm hji
          rw [this]; rfl
theorem drew_below (w : World) : Below w.heap.size w w.drew := (Below.refl _ _).drew
theorem Hp.drew {ρ : Env} {w : World} {L : List E} {nx : Nat} (h : Hp n0 ρ w L nx) : Hp n0 ρ w.drew L nx :=
  ⟨h.base, fun e he => (h.ok e he).below (h.wf e he) (AgrLt.refl _ _) (drew_below w), h.wf, h.fn, h.apart⟩
/-- A region that draws: the heads in the text's order, then the tail. -/
def drawR (P : Program) (T : List (Nat × TD)) (n0 N : Nat) (ops : List Oper) (n : Nat) (K : K3) (s : S) (L : List E) (nx : Nat) : Prop :=
  dr P T n0 N ops L nx (ops.take n) (fun news s' nx' => vcOps P T n0 N ops (ops.drop n) K s' (flatN L news) nx') 0 [] [] s nx
theorem draw_rule (hT : TOK P T) (hm : P.follows .mixedOrders = true) {id n : Nat} {ops : Array Oper} {K : Kt} {s : S} {L : List E} {nx : Nat} (hB : drawB ops n = true) (h : drawR P T n0 N ops.toList n (K .normal) s L nx) :
    Tri P n0 N na (.region id ops true) K s L nx := by
  refine ⟨fun ρ a w hna hs hp => ?_⟩
  obtain ⟨all, rfl⟩ : ∃ l : List Oper, ops = l.toArray := ⟨ops.toList, by simp⟩
  simp only [drawB, Bool.and_eq_true, decide_eq_true_eq, Bool.or_eq_true, List.size_toArray] at hB
  obtain ⟨⟨⟨hn, hH⟩, ht⟩, hseq⟩ := hB
  have hacc : AccP all s nx ([] : List Stp) 0 [] [] s nx :=
    ⟨rfl, rfl, fun t v hv => .inr ⟨fun j hj => by omega, v, hv, fun _ => rfl, fun _ h => h⟩, fun D hc j m hj => by simp at hj, fun x hx => by simp at hx, fun j st hj => by simp at hj, Nat.le_refl _⟩
  have htl : (all.take n).length = n := by simp; omega
  obtain ⟨ds, hlen, hP, msF, newsF, sF, nxF, hF, hK⟩ := dr_plan hT h hacc (fun j hj => by rw [htl] at hj; simp [hj])
  simp only [List.nil_append] at hP hF
  rw [htl] at hlen hF
  have hP' : ∀ j st, ds[j]? = some st → PStep P n0 N all L s nx ds j st := fun j st hj => hP j st (Nat.zero_le _) hj
  have hwfL : ∀ e ∈ L, e.lab < nx ∧ ∀ c ∈ e.cs, c.wf nx := fun e he => hp.wf e he
  have hwfs : ∀ t v, look s t = some v → v.wf nx := fun t v hv => (hs.ok t v hv).2
  refine wp_region_any hm ?_
  have hgoal := sim (g := all.length - n) (Q := fun e a' w' => Fin n0 N na ρ w a' w' (K e)) (ρ0 := ρ) (w0 := w.drew) hP' hlen hn hH (ny := nxF) hF.hi hwfL hwfs (ht.imp (fun h => h) (fun h => h)) ?_ n (Array.replicate all.length false) ρ a w.drew ?_ ?_ ?_
  · simp only [List.size_toArray]
    rw [show n + (all.length - n) = all.length by omega] at hgoal
    exact hgoal
  · intro ρ' a' w' hd
    have hsl : SlOK N ρ' a' sF nxF := by
      refine ⟨hd.size, hd.defers, fun t v hv => ?_⟩
      rcases hF.look t v hv with ⟨j, sj, hj, hsj, hg, hden, hwf⟩ | ⟨hnone, v0, hv0, hden, hwf⟩
      · have hDj : (fun j => Nat.blt j n) j = true := by simp only; exact Nat.ble_eq_true_of_le (by omega)
        exact ⟨by rw [hden ρ']; exact hd.done j sj t hsj hDj hg, hwf _ (V.wf_mono (hF.hi j sj hsj) (hd.wfd j sj hsj hDj).1)⟩
      · exact ⟨by rw [hden ρ']; exact hd.old t v0 hv0 (fun j hj _ => hnone j (by omega)), hwf _ (V.wf_mono hF.le (hwfs t v0 hv0))⟩
    have hhp : Hp n0 ρ' w' (flatN L newsF) nxF := by
      refine hd.hp.mono (fun e he => ?_) (Nat.le_refl _)
      rcases flatN_mem he with he | ⟨x, hx, he⟩
      · exact List.mem_append.2 (.inl he)
      · obtain ⟨st, h1, h2, _⟩ := hF.news x hx
        have hlt : x.i < n := by rw [← hlen]; exact (List.getElem?_eq_some_iff.1 h1).1
        have hblt : Nat.blt x.i n = true := Nat.ble_eq_true_of_le hlt
        exact List.mem_append.2 (.inr (List.mem_flatMap.2 ⟨x.i, List.mem_range.2 hlt, by rw [hblt, h1]; simp only [cond_true]; rw [h2]; exact he⟩))
    have hagr : AgrLt na ρ ρ' := hd.agr.mono hna
    have hbel : Below n0 w w' := ((drew_below w).trans hd.bel).mono hp.base
    have hw := vcOps_ok (Q := fun e a2 w2 => Fin n0 N na ρ w a2 w2 (K e)) (na := na) hT (Nat.le_trans hna hF.le) hsl hhp hK (fun a2 w2 hf => Fin.trans hagr hbel hf)
    have hdl : (all.drop n).length = all.length - n := by simp
    have := wpAny_of_seq (md := .any) (Q' := fun e a2 w2 => Fin n0 N na ρ w a2 w2 (K e)) (P := P) (ops := all.toArray) (all.drop n) n (listedN n (all.length - n)) a' w' (fun j => by simp) (by rw [hdl]; exact hseq) hw
    rw [hdl] at this
    exact this
  · -- none has run
    have : ∀ m, cnt (Array.replicate all.length false) m = m := by
      intro m
      induction m with
      | zero => rfl
      | succ m ih => simp only [cnt, ih, getD_replicate_false]; simp
    exact this n
  · exact ⟨by simp, fun j oj _ hl => (by rw [getD_replicate_false] at hl; cases hl), fun t _ ht => getD_in (by simpa using ht) (getD_replicate_false _ _)⟩
  · refine ⟨hs.size, hs.defers, AgrLt.refl _ _, Below.refl _ _, ?_, ?_, ?_, ?_⟩
    · refine hp.drew.mono (fun e he => ?_) hF.le
      rcases List.mem_append.1 he with he | he
      · exact he
      · obtain ⟨j, hj, he⟩ := List.mem_flatMap.1 he
        rw [getD_replicate_false] at he; cases he
    · intro j st hj hD; rw [getD_replicate_false] at hD; cases hD
    · intro j st d hj hD; rw [getD_replicate_false] at hD; cases hD
    · intro t v hv _; exact (hs.ok t v hv).1
end
end Go.Proofs.Ytnafllhgjidbkaa
