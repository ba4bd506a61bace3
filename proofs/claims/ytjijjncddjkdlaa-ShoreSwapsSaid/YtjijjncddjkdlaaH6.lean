/- Texts of the proof, part 6: N1, N2, N3, N4, N5, V6, N6. -/
import Derived.Test.YtjijjncddjkdlaaH5
import Derived.WalkKit
import Derived.Below
import Derived.Laws.OwnMore
import Derived.Maps.AppendAt
import Derived.Laws.IdiomCopy
import Derived.Laws.CopyRow
import Derived.IntWalk
import Derived.StillTail
import Derived.Scope
import Derived.ChangeKeysEq
import Derived.Laws.Small
import Derived.OrdersIn
import Derived.TacticsIn
import Derived.OwnWalkIn
import Derived.RangeFuncNested
import Derived.RangeFuncLeaves
import Derived.RangeFuncRecord
import Derived.Test.YtjijjncddjkdlaaRows
import Derived.KernelRfl
import Derived.ProofKit
import Derived.OpenShut
import Derived.Lib.SmallJoins
import Derived.Deep.Slices
import Derived.PlainAid
import Derived.StillTailTactics
import Derived.WalkSpells
import Derived.OwnWalk
/- Rows of rows of one's own: a family of labels. -/
namespace Go.Proofs.Ytjijjncddjkdlaa
open Go.RowKit
set_option linter.unusedVariables false
set_option linter.unusedSimpArgs false
section
variable {α : Type} {kd : Kd} {cs : α → List C} {ln : α → Nat} {d : α}
def famE (kd : Kd) (cs : α → List C) : Nat → List α → List E
  | _, [] => []
  | b, x :: r => ⟨b, kd, cs x⟩ :: famE kd cs (b + 1) r
def famS (ln : α → Nat) : Nat → List α → List C
  | _, [] => []
  | b, x :: r => .sl b (ln x) :: famS ln (b + 1) r
@[simp] theorem famS_len : ∀ {b : Nat} {l : List α}, (famS ln b l).length = l.length
  | _, [] => rfl
  | b, x :: r => by simp [famS, famS_len (b := b + 1) (l := r)]
theorem famS_get : ∀ {b : Nat} {l : List α} {k : Nat}, k < l.length → (famS ln b l)[k]? = some (.sl (k + b) (ln (l.getD k d)))
  | b, x :: r, 0, _ => by simp [famS]
  | b, x :: r, k + 1, h => by
    have := famS_get (b := b + 1) (l := r) (k := k) (by simpa using h)
    simp only [famS, List.getElem?_cons_succ, this, List.getD_cons_succ]
    rw [show k + (b + 1) = k + 1 + b by omega]
theorem famE_find : ∀ {b : Nat} {l : List α} {k : Nat}, k < l.length → find (famE kd cs b l) (k + b) = some ⟨k + b, kd, cs (l.getD k d)⟩
  | b, x :: r, 0, _ => by simp [famE, find]
  | b, x :: r, k + 1, h => by
    rw [famE, find_skip (by omega), List.getD_cons_succ, show k + 1 + b = k + (b + 1) by omega]
    exact famE_find (by simpa using h)
theorem famE_mem : ∀ {b : Nat} {l : List α} {e : E}, e ∈ famE kd cs b l → ∃ k, k < l.length ∧ e = ⟨k + b, kd, cs (l.getD k d)⟩
  | b, x :: r, e, h => by
    rcases List.mem_cons.1 h with rfl | h
    · exact ⟨0, by simp, by simp⟩
    · obtain ⟨k, h1, rfl⟩ := famE_mem h
      exact ⟨k + 1, by simpa using h1, by rw [List.getD_cons_succ, show k + (b + 1) = k + 1 + b by omega]⟩
theorem famE_labs : ∀ {b : Nat} {l : List α}, (famE kd cs b l).map E.lab = List.range' b l.length
  | _, [] => rfl
  | b, x :: r => by simp only [famE, List.map_cons, List.length_cons, List.range'_succ, famE_labs]
theorem wf_famS : ∀ (n b : Nat) (l : List α), b + l.length ≤ n → ∀ c ∈ famS ln b l, c.wf n
  | n, b, x :: r, h, c, hc => by
    simp only [List.length_cons] at h
    rcases List.mem_cons.1 hc with rfl | hc
    · show b < n; omega
    · exact wf_famS n (b + 1) r (by omega) c hc
theorem famL {b : Nat} {l : List α} {k : Nat} {z : Int} (hz : z = k) (h : k < l.length) : (famS ln b l)[mulS z.toNat 1]? = some (.sl (k + b) (ln (l.getD k d))) := by
  subst hz; rw [mulS_eq]; simpa using famS_get h
end
theorem entC_labs : ∀ {b : Nat} {j : Coast}, (entC b j).map E.lab = List.range' b j.length
  | _, [] => rfl
  | b, x :: r => by simp only [entC, List.map_cons, List.length_cons, List.range'_succ, entC_labs]
theorem find_app {l : Nat} : ∀ {A B : List E}, (∀ e ∈ A, e.lab ≠ l) → find (A ++ B) l = find B l
  | [], B, _ => rfl
  | ⟨lab, kd, cs⟩ :: A, B, h => by
    rw [List.cons_append, find_skip (show lab ≠ l from h ⟨lab, kd, cs⟩ (by simp)), find_app (fun e he => h e (by simp [he]))]
theorem find_app_some {l : Nat} {e : E} : ∀ {A B : List E}, find A l = some e → find (A ++ B) l = some e
  | ⟨lab, kd, cs⟩ :: A, B, h => by
    rw [List.cons_append]
    rw [find] at h ⊢
    cases hb : Nat.beq lab l with
    | true => rw [hb] at h; exact h
    | false => rw [hb] at h; exact find_app_some (B := B) h
theorem find_rm {x y : Nat} (h : x ≠ y) : ∀ {L : List E}, find (rmL L x) y = find L y
  | [] => rfl
  | ⟨lab, kd, cs⟩ :: r => by
    rw [rmL]
    cases hb : Nat.beq lab x with
    | true =>
      have := Nat.eq_of_beq_eq_true hb
      simp only [cond_true]
      rw [find_rm h, find_skip (by omega)]
    | false =>
      simp only [cond_false]
      rw [find, find, find_rm h]
theorem rm_mem {x : Nat} {e : E} : ∀ {L : List E}, e ∈ rmL L x → e ∈ L ∧ e.lab ≠ x
  | ⟨lab, kd, cs⟩ :: r, h => by
    rw [rmL] at h
    cases hb : Nat.beq lab x with
    | true =>
      rw [hb] at h; simp only [cond_true] at h
      obtain ⟨h1, h2⟩ := rm_mem h
      exact ⟨by simp [h1], h2⟩
    | false =>
      rw [hb] at h; simp only [cond_false] at h
      rcases List.mem_cons.1 h with rfl | h
      · refine ⟨by simp, fun e => ?_⟩
        simp only at e
        rw [e, Nat.beq_refl] at hb; cases hb
      · obtain ⟨h1, h2⟩ := rm_mem h
        exact ⟨by simp [h1], h2⟩
theorem rm_labs {x : Nat} : ∀ {L : List E}, ((rmL L x).map E.lab).Sublist (L.map E.lab)
  | [] => by simp [rmL]
  | ⟨lab, kd, cs⟩ :: r => by
    rw [rmL]
    cases Nat.beq lab x with
    | true => simp only [cond_true, List.map_cons]; exact List.Sublist.cons _ rm_labs
    | false => simp only [cond_false, List.map_cons]; exact List.Sublist.cons_cons _ rm_labs
theorem updL_none {l o : Nat} {vs : List C} : ∀ {L : List E}, (∀ e ∈ L, e.lab ≠ l) → updL L l o vs = L
  | [], _ => rfl
  | e :: r, h => by
    have : Nat.beq e.lab l = false := beq_ne (h e (by simp))
    rw [updL, this, cond_false, updL_none (fun x hx => h x (by simp [hx]))]
theorem rmL_none {l : Nat} : ∀ {L : List E}, (∀ e ∈ L, e.lab ≠ l) → rmL L l = L
  | [], _ => rfl
  | e :: r, h => by
    have : Nat.beq e.lab l = false := beq_ne (h e (by simp))
    rw [rmL, this, cond_false, rmL_none (fun x hx => h x (by simp [hx]))]
theorem updOL_none {l : Nat} {o : Obj} : ∀ {L : List E}, (∀ e ∈ L, e.lab ≠ l) → updOL l o L = L
  | [], _ => rfl
  | ⟨lab, kd, cs⟩ :: r, h => by
    have : Nat.beq lab l = false := beq_ne (show lab ≠ l from h ⟨lab, kd, cs⟩ (by simp))
    rw [updOL, this, cond_false, updOL_none (fun x hx => h x (by simp [hx]))]
/-- A tail whose labels are those of beaches and of rows. -/
structure TailOk (T : List E) : Prop where
  lab : ∀ e ∈ T, (1 ≤ e.lab ∧ e.lab ≤ 20) ∨ (40 ≤ e.lab ∧ e.lab < 60)
  nd : (T.map E.lab).Nodup
def fixedB (l : Nat) : Bool := Nat.beq l 0 || (Nat.ble 21 l && (Nat.ble l 39 || Nat.ble 60 l))
theorem TailOk.ne {T : List E} (h : TailOk T) {l : Nat} (hl : fixedB l = true) : ∀ e ∈ T, e.lab ≠ l := by
  intro e he heq
  have h1 := h.lab e he
  simp only [fixedB, Bool.or_eq_true, Bool.and_eq_true] at hl
  rcases hl with hl | ⟨hl1, hl2 | hl2⟩
  · have := Nat.eq_of_beq_eq_true hl; omega
  · have := Nat.le_of_ble_eq_true hl1; have := Nat.le_of_ble_eq_true hl2; omega
  · have := Nat.le_of_ble_eq_true hl1; have := Nat.le_of_ble_eq_true hl2; omega
theorem updK_tail {T : List E} (h : TailOk T) {l o : Nat} {vs : List C} {K : List E → Prop} (hl : fixedB l = true) (hK : K T) : updK l o vs T K := by
  rw [updK_eq, updL_none (h.ne hl)]; exact hK
theorem rmK_tail {T : List E} (h : TailOk T) {l : Nat} {K : List E → Prop} (hl : fixedB l = true) (hK : K T) : rmK l T K := by
  rw [rmK_eq, rmL_none (h.ne hl)]; exact hK
theorem updO_tail {T : List E} (h : TailOk T) {l : Nat} {o : Obj} {K : List E → Prop} (hl : fixedB l = true) (hK : K T) : updO l o T K := by
  rw [updO_eq, updOL_none (h.ne hl)]; exact hK
theorem visC_tail {T : List E} (h : TailOk T) {ks : List Nat} {K : List E → Prop} (hl : ks.all fixedB = true) (hK : K T) : visC ks T K :=
  visC_none (fun e he => by
    refine Bool.eq_false_iff.2 fun hm => ?_
    exact h.ne (List.all_eq_true.1 hl _ (memN_iff.1 hm)) e he rfl) hK
theorem relC_tail {T : List E} (h : TailOk T) {als : List (Nat × Nat)} {K : List E → Prop} (hl : (als.all fun p => fixedB p.1) = true) (hK : K T) : relC als T K := by
  refine relC_none (fun e he => ?_) hK
  have : ∀ {als : List (Nat × Nat)}, (als.all fun p => fixedB p.1) = true → relN als e.lab = e.lab := by
    intro als
    induction als with
    | nil => intro _; rfl
    | cons p r ih =>
      intro hl
      simp only [List.all_cons, Bool.and_eq_true] at hl
      obtain ⟨a, b⟩ := p
      simp only [relN, beq_ne (fun e' => h.ne hl.1 e he e'.symm), cond_false]
      exact ih hl.2
  exact this hl
theorem range_nd (b n : Nat) : (List.range' b n).Nodup := List.nodup_range'
theorem tail_fam {α : Type} {kd : Kd} {cs : α → List C} {l : List α} {j : Coast} (hl : l.length ≤ 20) (hj : j.length ≤ 20) : TailOk (famE kd cs 40 l ++ entC 1 j) := by
  refine ⟨fun e he => ?_, ?_⟩
  · have hm : e.lab ∈ (famE kd cs 40 l ++ entC 1 j).map E.lab := List.mem_map.2 ⟨e, he, rfl⟩
    rw [List.map_append, famE_labs, entC_labs] at hm
    rcases List.mem_append.1 hm with hm | hm
    · have := List.mem_range'_1.1 hm; omega
    · have := List.mem_range'_1.1 hm; omega
  · rw [List.map_append, famE_labs, entC_labs]
    refine List.nodup_append.2 ⟨range_nd _ _, range_nd _ _, fun a ha b hb => ?_⟩
    have := List.mem_range'_1.1 ha
    have := List.mem_range'_1.1 hb
    omega
theorem tail_rm {α : Type} {kd : Kd} {cs : α → List C} {l : List α} {j : Coast} {x : Nat} (hl : l.length ≤ 20) (hj : j.length ≤ 20) : TailOk (rmL (famE kd cs 40 l) x ++ entC 1 j) := by
  have h := tail_fam (kd := kd) (cs := cs) hl hj
  refine ⟨fun e he => h.lab e ?_, ?_⟩
  · rcases List.mem_append.1 he with he | he
    · exact List.mem_append.2 (.inl (rm_mem he).1)
    · exact List.mem_append.2 (.inr he)
  · refine h.nd.sublist ?_
    rw [List.map_append, List.map_append]
    exact List.Sublist.append rm_labs (List.Sublist.refl _)
theorem renL_spec {R : Rn} {l a : Nat} (h : renL R l = some a) : a = l ∨ ((l, some a) ∈ R) := by
  induction R with
  | nil => simp only [renL, Option.some.injEq] at h; exact .inl h.symm
  | cons p r ih =>
    rw [renL] at h
    cases hb : Nat.beq p.1 l with
    | true =>
      rw [hb] at h; simp only [cond_true] at h
      refine .inr (List.mem_cons.2 (.inl ?_))
      rw [← Nat.eq_of_beq_eq_true hb, ← h]
    | false =>
      rw [hb] at h; simp only [cond_false] at h
      exact (ih h).imp id (List.mem_cons_of_mem _)
/-- Labels that differ, and new names that are none of them. -/
theorem injB_gen {R : Rn} (hR : ((R.filterMap Prod.snd)).Nodup) : ∀ {L : List E}, (L.map E.lab).Nodup → (∀ p ∈ R, ∀ y, p.2 = some y → y ∉ L.map E.lab) → injB R L = true
  | [], _, _ => rfl
  | e :: r, hn, hy => by
    simp only [List.map_cons, List.nodup_cons] at hn
    rw [injB, Bool.and_eq_true]
    refine ⟨List.all_eq_true.2 fun e' he' => ?_, injB_gen hR hn.2 (fun p hp y h1 h2 => hy p hp y h1 (by simp [h2]))⟩
    have hne : e'.lab ≠ e.lab := fun h => hn.1 (by rw [← h]; exact List.mem_map.2 ⟨e', he', rfl⟩)
    rw [beq_ne hne]
    cases h1 : renL R e.lab with
    | none => rfl
    | some a =>
      cases h2 : renL R e'.lab with
      | none => rfl
      | some b =>
        have hab : a ≠ b := by
          intro heq
          subst heq
          rcases renL_spec h1 with k1 | k1
          · rcases renL_spec h2 with k2 | k2
            · omega
            · exact hy _ k2 a rfl (by rw [k1]; simp)
          · rcases renL_spec h2 with k2 | k2
            · exact hy _ k1 a rfl (by rw [k2]; exact List.mem_map.2 ⟨e', by simp [he'], rfl⟩)
            · have : ∀ {R : Rn}, (R.filterMap Prod.snd).Nodup → (e.lab, some a) ∈ R → (e'.lab, some a) ∈ R → False := by
                intro R
                induction R with
                | nil => intro _ h; cases h
                | cons p r ih =>
                  intro hn h3 h4
                  obtain ⟨p1, p2⟩ := p
                  have hin : ∀ {x : Nat}, (x, some a) ∈ r → a ∈ r.filterMap Prod.snd := fun h => List.mem_filterMap.2 ⟨_, h, rfl⟩
                  rcases List.mem_cons.1 h3 with g3 | g3
                  · rcases List.mem_cons.1 h4 with g4 | g4
                    · rw [← g3] at g4
                      simp only [Prod.mk.injEq, and_true] at g4
                      exact hne g4
                    · simp only [Prod.mk.injEq] at g3
                      rw [← g3.2] at hn
                      simp only [List.filterMap_cons, List.nodup_cons] at hn
                      exact hn.1 (hin g4)
                  · rcases List.mem_cons.1 h4 with g4 | g4
                    · simp only [Prod.mk.injEq] at g4
                      rw [← g4.2] at hn
                      simp only [List.filterMap_cons, List.nodup_cons] at hn
                      exact hn.1 (hin g3)
                    · refine ih ?_ g3 g4
                      cases p2 with
                      | none => exact hn
                      | some y => simp only [List.filterMap_cons, List.nodup_cons] at hn; exact hn.2
              exact this hR k1 k2
        simp [beq_ne hab]
theorem injB_tail {R : Rn} {T p : List E} (h : TailOk T) (hp : (p.all fun e => fixedB e.lab) = true) (hn : (p.map E.lab).Nodup) (hR : ((R.filterMap Prod.snd)).Nodup) (hy : ∀ q ∈ R, ∀ y, q.2 = some y → y ∉ p.map E.lab ∧ ∀ e ∈ T, e.lab ≠ y) : injB R (p ++ T) = true := by
  refine injB_gen hR ?_ (fun q hq y h1 h2 => ?_)
  · rw [List.map_append]
    refine List.nodup_append.2 ⟨hn, h.nd, fun a ha b hb hab => ?_⟩
    obtain ⟨e, he, rfl⟩ := List.mem_map.1 ha
    obtain ⟨e', he', rfl⟩ := List.mem_map.1 hb
    exact h.ne (List.all_eq_true.1 hp e he) e' he' hab.symm
  · rw [List.map_append] at h2
    rcases List.mem_append.1 h2 with h2 | h2
    · exact (hy q hq y h1).1 h2
    · obtain ⟨e, he, rfl⟩ := List.mem_map.1 h2
      exact (hy q hq e.lab h1).2 e he rfl
section
variable {α : Type} {kd : Kd} {cs : α → List C} {ln : α → Nat} {d : α}
theorem renL_ne {a l : Nat} {o : Option Nat} (h : a ≠ l) : renL [(a, o)] l = some l := by simp [renL, beq_ne h]
theorem renL_eq {a : Nat} {o : Option Nat} : renL [(a, o)] a = o := by simp [renL]
/-- Cells that name nothing. -/
structure Plain (cs : α → List C) : Prop where
  wf : ∀ n x, ∀ c ∈ cs x, c.wf n
  ren : ∀ R x, seqO ((cs x).map (C.ren R)) = some (cs x)
theorem cov_ent {R : Rn} {nx : Nat} {L : List E} {b : Nat} {j : Coast} (hR : ∀ k, k < j.length → renL R (b + k) = some (b + k)) (hnx : b + j.length ≤ nx) (hL : ∀ k, k < j.length → find L (b + k) = some ⟨b + k, .ro 2, jobC (j.getD k [])⟩) : covL R nx L (entC b j) := by
  refine covL_all fun e he => ?_
  obtain ⟨k, hk, rfl⟩ := entC_mem he
  exact covE_some (hR k hk) (by simp only; omega) (wf_jobs _ _) (hL k hk) (ren_jobs _ _)
/-- The rows behind a round in which one has become another. -/
theorem cov_set {nx y b : Nat} {L : List E} {l : List α} {k : Nat} {x : α} (hp : Plain cs) (hb : b + l.length ≤ nx) (hx : find L y = some ⟨y, kd, cs x⟩) (hL : ∀ i, i < l.length → i ≠ k → find L (i + b) = some ⟨i + b, kd, cs (l.getD i d)⟩) : covL [(k + b, some y)] nx L (famE kd cs b (l.set k x)) := by
  refine covL_all fun e he => ?_
  obtain ⟨i, hi, rfl⟩ := famE_mem (d := d) he
  rw [List.length_set] at hi
  by_cases hik : i = k
  · subst hik
    have e1 : (l.set i x).getD i d = x := by simp [List.getD_eq_getElem?_getD, hi]
    rw [e1]
    exact covE_some renL_eq (by simp only; omega) (hp.wf _ _) hx (hp.ren _ _)
  · have e1 : (l.set k x).getD i d = l.getD i d := by simp [List.getD_eq_getElem?_getD, List.getElem?_set, show k ≠ i from fun e => hik e.symm]
    rw [e1]
    exact covE_some (show renL [(k + b, some y)] (i + b) = some (i + b) from renL_ne (by omega)) (by simp only; omega) (hp.wf _ _) (hL i hi hik) (hp.ren _ _)
/-- The rows as they are. -/
theorem cov_all {R : Rn} {nx b : Nat} {L : List E} {l : List α} (hp : Plain cs) (hb : b + l.length ≤ nx) (hR : ∀ i, i < l.length → renL R (i + b) = some (i + b)) (hL : ∀ i, i < l.length → find L (i + b) = some ⟨i + b, kd, cs (l.getD i d)⟩) : covL R nx L (famE kd cs b l) := by
  refine covL_all fun e he => ?_
  obtain ⟨i, hi, rfl⟩ := famE_mem (d := d) he
  exact covE_some (hR i hi) (by simp only; omega) (hp.wf _ _) (hL i hi) (hp.ren _ _)
/-- All but one, which has got another name. -/
theorem cov_rm {R : Rn} {nx b : Nat} {L : List E} {l : List α} {k : Nat} (hp : Plain cs) (hb : b + l.length ≤ nx) (hR : ∀ i, i < l.length → i ≠ k → renL R (i + b) = some (i + b)) (hL : ∀ i, i < l.length → find L (i + b) = some ⟨i + b, kd, cs (l.getD i d)⟩) : covL R nx L (rmL (famE kd cs b l) (k + b)) := by
  refine covL_all fun e he => ?_
  obtain ⟨he1, he2⟩ := rm_mem he
  obtain ⟨i, hi, rfl⟩ := famE_mem (d := d) he1
  simp only at he2
  exact covE_some (hR i hi (fun e => he2 (by rw [e]))) (by simp only; omega) (hp.wf _ _) (hL i hi) (hp.ren _ _)
/-- The slices behind such a round. -/
theorem famS_set {b y k : Nat} {x : α} : ∀ {l : List α}, k < l.length → seqO ((famS ln b (l.set k x)).map (C.ren [(k + b, some y)])) = some ((famS ln b l).set k (.sl y (ln x)))
  | [], h => by simp at h
  | a :: l, h => by
    have hrest : ∀ {b' : Nat} {l : List α}, k + b < b' → seqO ((famS ln b' l).map (C.ren [(k + b, some y)])) = some (famS ln b' l) := by
      intro b' l
      induction l generalizing b' with
      | nil => intro _; rfl
      | cons a l ih =>
        intro hb'
        simp only [famS, List.map_cons, C.ren, renL_ne (show k + b ≠ b' by omega), seqO, ih (b' := b' + 1) (by omega)]
    cases k with
    | zero =>
      simp only [List.set_cons_zero, famS, List.map_cons, C.ren]
      have e : (0 : Nat) + b = b := Nat.zero_add b
      rw [e] at hrest ⊢
      simp only [renL_eq, seqO, hrest (b' := b + 1) (by omega)]
    | succ k =>
      have ih := famS_set (b := b + 1) (y := y) (k := k) (x := x) (l := l) (by simpa using h)
      rw [show k + (b + 1) = k + 1 + b by omega] at ih
      simp only [List.set_cons_succ, famS, List.map_cons, C.ren, renL_ne (show k + 1 + b ≠ b by omega), seqO, ih]
/-- The slices, with one under another name. -/
theorem famS_view {b v k : Nat} (hv : ∀ i, i + b ≠ v) : ∀ {l : List α}, k < l.length → seqO (((famS ln b l).set k (.sl v (ln (l.getD k d)))).map (C.ren [(v, some (k + b))])) = some (famS ln b l)
  | [], h => by simp at h
  | a :: l, h => by
    have hrest : ∀ {i : Nat} {l : List α}, seqO ((famS ln (i + b) l).map (C.ren [(v, some (k + b))])) = some (famS ln (i + b) l) := by
      intro i l
      induction l generalizing i with
      | nil => rfl
      | cons a l ih =>
        simp only [famS, List.map_cons, C.ren, renL_ne (fun e => hv i e.symm), seqO]
        rw [show i + b + 1 = (i + 1) + b by omega, ih]
    cases k with
    | zero =>
      simp only [famS, List.set_cons_zero, List.map_cons, C.ren, renL_eq, seqO, List.getD_cons_zero]
      rw [show b + 1 = 1 + b by omega, hrest, Nat.zero_add]
    | succ k =>
      have ih := famS_view (b := b + 1) (v := v) (k := k) (fun i e => hv (i + 1) (by omega)) (l := l) (by simpa using h)
      rw [show k + (b + 1) = k + 1 + b by omega] at ih
      have := hv 0
      rw [Nat.zero_add] at this
      simp only [famS, List.set_cons_succ, List.map_cons, List.getD_cons_succ, C.ren, renL_ne (fun e => this e.symm), seqO, ih]
theorem plain_ints : Plain (List.map C.i) := ⟨fun n x => wf_ints n x, fun R x => ren_ints R x⟩
theorem plain_jobs : Plain jobC := ⟨fun n x => wf_jobs n x, fun R x => ren_jobs R x⟩
end
theorem hy_one {x y : Nat} {p T : List E} (h1 : y ∉ p.map E.lab) (h2 : ∀ e ∈ T, e.lab ≠ y) : ∀ q ∈ ([(x, some y)] : Rn), ∀ z, q.2 = some z → z ∉ p.map E.lab ∧ ∀ e ∈ T, e.lab ≠ z := by
  intro q hq z hz
  simp only [List.mem_singleton] at hq
  subst hq
  cases hz
  exact ⟨h1, h2⟩
/-- Behind a round: one row has got a new name. -/
theorem inj_end {x y : Nat} {T p : List E} (h : TailOk T) (hp : (p.all fun e => fixedB e.lab) = true) (hn : (p.map E.lab).Nodup) (hy : fixedB y = true) (hy2 : y ∉ p.map E.lab) : injB [(x, some y)] (p ++ T) = true :=
  injB_tail h hp hn (by simp) (hy_one hy2 (h.ne hy))
theorem inj_nil {T p : List E} (h : TailOk T) (hp : (p.all fun e => fixedB e.lab) = true) (hn : (p.map E.lab).Nodup) : injB [] (p ++ T) = true :=
  injB_tail h hp hn (by simp) (by simp)
/-- One row seen under a name of its own. -/
theorem inj_view {α : Type} {kd : Kd} {cs : α → List C} {l : List α} {j : Coast} {v k : Nat} {p : List E} (hl : l.length ≤ 20) (hj : j.length ≤ 20) (hk : k < 20) (hp : (p.all fun e => fixedB e.lab) = true) (hn : (p.map E.lab).Nodup) : injB [(v, some (k + 40))] (p ++ (rmL (famE kd cs 40 l) (k + 40) ++ entC 1 j)) = true := by
  refine injB_tail (tail_rm hl hj) hp hn (by simp) (hy_one (fun hm => ?_) (fun e he => ?_))
  · obtain ⟨e, he, heq⟩ := List.mem_map.1 hm
    have := List.all_eq_true.1 hp e he
    rw [heq] at this
    simp only [fixedB, Bool.or_eq_true, Bool.and_eq_true] at this
    rcases this with h1 | ⟨h1, h2 | h2⟩
    · have := Nat.eq_of_beq_eq_true h1; omega
    · have := Nat.le_of_ble_eq_true h2; omega
    · have := Nat.le_of_ble_eq_true h2; omega
  · rcases List.mem_append.1 he with he | he
    · exact (rm_mem he).2
    · obtain ⟨i, hi, rfl⟩ := entC_mem he
      simp only; omega
/-- Names of rows that are nil. -/
def nones (b n : Nat) : Rn := (List.range n).map fun k => (k + b, none)
theorem renL_nones {b l : Nat} : ∀ {n : Nat}, renL (nones b n) l = if b ≤ l ∧ l < b + n then none else some l := by
  have key : ∀ {r : List Nat}, renL (r.map fun k => (k + b, none)) l = if ∃ k ∈ r, k + b = l then none else some l := by
    intro r
    induction r with
    | nil => simp [renL]
    | cons a r ih =>
      simp only [List.map_cons, renL]
      cases hb : Nat.beq (a + b) l with
      | true =>
        have := Nat.eq_of_beq_eq_true hb
        simp only [cond_true]
        rw [if_pos ⟨a, by simp, this⟩]
      | false =>
        have hne : a + b ≠ l := fun e => by rw [e, Nat.beq_refl] at hb; cases hb
        simp only [cond_false]
        rw [ih]
        congr 1
        simp only [List.mem_cons, eq_iff_iff]
        exact ⟨fun ⟨k, h1, h2⟩ => ⟨k, .inr h1, h2⟩, fun ⟨k, h1, h2⟩ => h1.elim (fun e => absurd (by rw [e] at h2; exact h2) hne) (fun h => ⟨k, h, h2⟩)⟩
  intro n
  unfold nones
  rw [key]
  congr 1
  simp only [List.mem_range, eq_iff_iff]
  exact ⟨fun ⟨k, h1, h2⟩ => by omega, fun h => ⟨l - b, by omega, by omega⟩⟩
theorem renL_nones_out {b l n : Nat} (h : l < b ∨ b + n ≤ l) : renL (nones b n) l = some l := by rw [renL_nones, if_neg (by omega)]
theorem inj_none {b n : Nat} {T p : List E} (h : TailOk T) (hp : (p.all fun e => fixedB e.lab) = true) (hn : (p.map E.lab).Nodup) : injB (nones b n) (p ++ T) = true := by
  have hz : ∀ q ∈ nones b n, q.2 = none := fun q hq => by
    obtain ⟨k, _, rfl⟩ := List.mem_map.1 hq; rfl
  have e : (nones b n).filterMap Prod.snd = [] := List.filterMap_eq_nil_iff.2 hz
  exact injB_tail h hp hn (by rw [e]; simp) (fun q hq y hy => by rw [hz q hq] at hy; cases hy)
theorem fix_nones {b n na : Nat} (h : na ≤ b) : fixB (nones b n) na = true := by
  refine List.all_eq_true.2 fun q hq => ?_
  obtain ⟨k, _, rfl⟩ := List.mem_map.1 hq
  rw [Nat.ble_eq]; simp only; omega
section
variable {α : Type} {kd : Kd} {cs : α → List C} {ln : α → Nat} {d : α}
theorem cov_nones {t z b n nx : Nat} {L : List E} (hd : cs d = []) (hb : b + n ≤ nx) : covL (nones b n) nx L (famE (.vec t z) cs b (List.replicate n d)) := by
  refine covL_all fun e he => ?_
  obtain ⟨i, hi, rfl⟩ := famE_mem (d := d) he
  rw [List.length_replicate] at hi
  have e1 : (List.replicate n d).getD i d = d := by simp [List.getD_eq_getElem?_getD, hi]
  rw [e1, hd]
  exact covE_nil (by simp only; rw [renL_nones, if_pos (by omega)]) (by simp only; omega) rfl rfl
theorem famS_nones {b n : Nat} (hd : ln d = 0) : seqO ((famS ln b (List.replicate n d)).map (C.ren (nones b n))) = some (repC n [.nil]) := by
  have key : ∀ m b', b ≤ b' → b' + m ≤ b + n → seqO ((famS ln b' (List.replicate m d)).map (C.ren (nones b n))) = some (repC m [.nil]) := by
    intro m
    induction m with
    | zero => intro b' _ _; rfl
    | succ m ih =>
      intro b' h1 h2
      simp only [List.replicate_succ, famS, List.map_cons, C.ren, hd]
      rw [renL_nones, if_pos (by omega)]
      simp only [seqO, ih (b' + 1) (by omega) (by omega)]
      rfl
  exact key n b (Nat.le_refl _) (Nat.le_refl _)
/-- The row of slices behind a round. -/
theorem famS_end {b y k v w : Nat} {x : α} {l : List α} {z : Int} {c : C} (hk : k < l.length) (hz : z = k) : seqO ((famS ln b (l.set k x)).map (C.ren [(k + b, some y)])) = some (setL ((famS ln b l).set k c) (mulS z.toNat 1) [.sl y (ln x)]) := by
  subst hz
  rw [famS_set hk, mulS_eq]
  simp only [setL, Int.toNat_natCast, Nat.mul_one, List.set_set]
theorem famV {b k : Nat} {l : List α} {z : Int} {c : C} (hz : z = k) (hk : k < l.length) : ((famS ln b l).set k c)[mulS z.toNat 1]? = some c := by
  subst hz; rw [mulS_eq]; simp [hk]
end
section
variable {α : Type} {kd : Kd} {cs : α → List C} {l : List α} {d : α} {j : Coast}
theorem tail_be {k : Nat} (hk : k < j.length) (hj : j.length ≤ 20) : find (famE kd cs 40 l ++ entC 1 j) (1 + k) = some ⟨1 + k, .ro 2, jobC (j.getD k [])⟩ := by
  rw [find_app (fun e he => ?_)]
  · exact entC_find hk
  · have hm : e.lab ∈ (famE kd cs 40 l).map E.lab := List.mem_map.2 ⟨e, he, rfl⟩
    rw [famE_labs] at hm
    have := List.mem_range'_1.1 hm; omega
theorem tail_rm_be {k x : Nat} (hk : k < j.length) (hj : j.length ≤ 20) : find (rmL (famE kd cs 40 l) x ++ entC 1 j) (1 + k) = some ⟨1 + k, .ro 2, jobC (j.getD k [])⟩ := by
  rw [find_app (fun e he => ?_)]
  · exact entC_find hk
  · have hm : e.lab ∈ (famE kd cs 40 l).map E.lab := List.mem_map.2 ⟨e, (rm_mem he).1, rfl⟩
    rw [famE_labs] at hm
    have := List.mem_range'_1.1 hm; omega
theorem tail_row {i : Nat} (hi : i < l.length) : find (famE kd cs 40 l ++ entC 1 j) (i + 40) = some ⟨i + 40, kd, cs (l.getD i d)⟩ := find_app_some (famE_find hi)
theorem tail_rm_row {i k : Nat} (hi : i < l.length) (hik : i ≠ k) : find (rmL (famE kd cs 40 l) (k + 40) ++ entC 1 j) (i + 40) = some ⟨i + 40, kd, cs (l.getD i d)⟩ :=
  find_app_some (by rw [find_rm (by omega)]; exact famE_find hi)
end
theorem rsl {R : Rn} {l n : Nat} (h : renL R l = some l) : (V.c (.sl l n)).ren R = some (V.c (.sl l n)) := by
  simp only [V.ren, A.ren, C.ren, h]
theorem rptr {R : Rn} {l n : Nat} (h : renL R l = some l) : (V.c (.ptr l n)).ren R = some (V.c (.ptr l n)) := by
  simp only [V.ren, A.ren, C.ren, h]
end Go.Proofs.Ytjijjncddjkdlaa

/- Shore: results that are rows of rows; the reference's Done. -/
namespace Go.Proofs.Ytjijjncddjkdlaa
open Go.RowKit
set_option linter.unusedVariables false
set_option linter.unusedSimpArgs false
section
variable {α : Type} {kd : Kd} {cs : α → List C} {ln : α → Nat} {d : α}
/-- Rows and an error. -/
def rowsR (t : Nat) (kd : Kd) (cs : α → List C) (ln : α → Nat) (d : α) (l : List α) (Er : Int) (v : V) (L' : List E) : Prop :=
  ∃ o : C, v = V.tup [A.c o, A.c (C.i Er)] ∧ ((o = C.nil ∧ l = []) ∨ ∃ lab, o = C.sl lab l.length ∧ find L' lab = some ⟨lab, .vec t 1, famS ln 40 l⟩ ∧ ∀ k, k < l.length → find L' (k + 40) = some ⟨k + 40, kd, cs (l.getD k d)⟩)
/-- The names of rows that a call gives, as the callee has them. -/
def shiftR (b c n : Nat) : Rn := (List.range n).map fun k => (k + b, some (k + c))
theorem renL_shift {b c l : Nat} : ∀ {n : Nat}, renL (shiftR b c n) l = if b ≤ l ∧ l < b + n then some (l - b + c) else some l := by
  have key : ∀ {r : List Nat}, renL (r.map fun k => (k + b, some (k + c))) l = if ∃ k ∈ r, k + b = l then some (l - b + c) else some l := by
    intro r
    induction r with
    | nil => simp [renL]
    | cons a r ih =>
      simp only [List.map_cons, renL]
      cases hb : Nat.beq (a + b) l with
      | true =>
        have := Nat.eq_of_beq_eq_true hb
        simp only [cond_true]
        rw [if_pos ⟨a, by simp, this⟩]
        congr 1; omega
      | false =>
        have hne : a + b ≠ l := fun e => by rw [e, Nat.beq_refl] at hb; cases hb
        simp only [cond_false]
        rw [ih]
        congr 1
        simp only [List.mem_cons, eq_iff_iff]
        exact ⟨fun ⟨k, h1, h2⟩ => ⟨k, .inr h1, h2⟩, fun ⟨k, h1, h2⟩ => h1.elim (fun e => absurd (by rw [e] at h2; exact h2) hne) (fun h => ⟨k, h, h2⟩)⟩
  intro n
  unfold shiftR
  rw [key]
  congr 1
  simp only [List.mem_range, eq_iff_iff]
  exact ⟨fun ⟨k, h1, h2⟩ => by omega, fun h => ⟨l - b, by omega, by omega⟩⟩
theorem famS_shift {a b c n : Nat} {o : Option Nat} : ∀ {m : Nat} {l : List α}, b ≤ m → m + l.length ≤ b + n → a < b → seqO ((famS ln m l).map (C.ren ((a, o) :: shiftR b c n))) = some (famS ln (m - b + c) l)
  | m, [], _, _, _ => rfl
  | m, x :: r, h1, h2, h3 => by
    simp only [List.length_cons] at h2
    simp only [famS, List.map_cons, C.ren, renL, beq_ne (show a ≠ m by omega), cond_false]
    rw [renL_shift, if_pos (by omega)]
    simp only [seqO, famS_shift (a := a) (o := o) (b := b) (c := c) (n := n) (m := m + 1) (l := r) (by omega) (by omega) h3]
    rw [show m + 1 - b + c = m - b + c + 1 by omega]
theorem injB_of {R : Rn} : ∀ {L : List E}, (L.map E.lab).Nodup → (∀ e ∈ L, ∀ e' ∈ L, e.lab ≠ e'.lab → ∀ a, renL R e.lab = some a → renL R e'.lab = some a → False) → injB R L = true
  | [], _, _ => rfl
  | e :: r, hn, h => by
    simp only [List.map_cons, List.nodup_cons] at hn
    rw [injB, Bool.and_eq_true]
    refine ⟨List.all_eq_true.2 fun e' he' => ?_, injB_of hn.2 (fun x hx y hy => h x (by simp [hx]) y (by simp [hy]))⟩
    have hne : e'.lab ≠ e.lab := fun h => hn.1 (by rw [← h]; exact List.mem_map.2 ⟨e', he', rfl⟩)
    rw [beq_ne hne]
    cases h1 : renL R e.lab with
    | none => rfl
    | some a =>
      cases h2 : renL R e'.lab with
      | none => rfl
      | some b =>
        have hab : a ≠ b := fun e1 => h e (by simp) e' (by simp [he']) (fun e2 => hne e2.symm) a h1 (by rw [h2, e1])
        simp [beq_ne hab]
theorem CallK.rows {P : Program} {n0 nx nac t : Nat} {f : FuncId} {vs vs' : List V} {Lc L : List E} {R : Rn} {K : V → List E → Nat → Prop} {l : List α} {Er : Int} (B : Nat) (hB : nx < B) (hp : Plain cs) (hck : ∀ p x, (cs x).all (C.chk p) = true) (hkd : kd.isRo = false) (hkt : kd ≠ .vec t 1) (hl : l.length ≤ 20) (spec : Spec P f vs Lc nac (fun v L' _ => rowsR t kd cs ln d l Er v L')) (hok : callB P f = true)
    (hv : renVs R vs = some vs') (hvw : ∀ v ∈ vs, v.wf nac) (hL : roL R nac L Lc) (hLc : injB [] Lc = true)
    (hK : K (V.tup [A.c (.sl nx l.length), A.c (C.i Er)]) (⟨nx, .vec t 1, famS ln B l⟩ :: famE kd cs B l) (B + 20)) : CallK P n0 f vs' L nx K := by
  refine CallK.mk' hok spec hv hvw hL hLc ?_
  have hin : inLab nx (B + 20) nx = true := by simp only [inLab, Bool.and_eq_true]; rw [Nat.ble_eq, Nat.blt_eq]; omega
  have hin2 : ∀ k, k < l.length → inLab nx (B + 20) (k + B) = true := fun k hk => by
    simp only [inLab, Bool.and_eq_true]; rw [Nat.ble_eq, Nat.blt_eq]; omega
  rintro v L' nx' hw ⟨o, rfl, ⟨rfl, rfl⟩ | ⟨lab, rfl, hf, hfk⟩⟩
  · refine ⟨V.tup [A.c (.sl nx 0), A.c (C.i Er)], [⟨nx, .vec t 1, []⟩], B + 20, [(nx, none)], ⟨by omega, ?_, ?_, ⟨covE_nil (renL_one _ _) (by simp only; omega) rfl rfl, trivial⟩, rfl, ?_⟩, hK⟩
    · simp [V.ren, A.ren, C.ren, renL_one, C.i, seqO]
    · simp [V.chk, A.chk, C.chk, hin, C.i]
    · simp only [List.all_cons, List.all_nil, Bool.and_true, hin, Kd.isRo, Bool.not_false]
  · refine ⟨V.tup [A.c (.sl nx l.length), A.c (C.i Er)], ⟨nx, .vec t 1, famS ln B l⟩ :: famE kd cs B l, B + 20, (nx, some lab) :: shiftR B 40 l.length, ⟨by omega, ?_, ?_, ⟨covE_some (by simp [renL]) (show nx < B + 20 by omega) (wf_famS _ _ _ (by omega)) hf ?_, ?_⟩, ?_, ?_⟩, hK⟩
    · simp [V.ren, A.ren, C.ren, renL, C.i, seqO]
    · simp [V.chk, A.chk, C.chk, hin, C.i]
    · have := famS_shift (ln := ln) (a := nx) (o := some lab) (b := B) (c := 40) (n := l.length) (m := B) (l := l) (Nat.le_refl _) (Nat.le_refl _) (by omega)
      rw [Nat.sub_self, Nat.zero_add] at this
      exact this
    · refine covL_all fun e he => ?_
      obtain ⟨i, hi, rfl⟩ := famE_mem (d := d) he
      refine covE_some (l := i + 40) ?_ (by simp only; omega) (hp.wf _ _) (hfk i hi) (hp.ren _ _)
      simp only [renL, beq_ne (show nx ≠ i + B by omega), cond_false]
      rw [renL_shift, if_pos (by omega)]
      congr 1; omega
    · have hr : ∀ i, i < l.length → renL ((nx, some lab) :: shiftR B 40 l.length) (i + B) = some (i + 40) := fun i hi => by
        simp only [renL, beq_ne (show nx ≠ i + B by omega), cond_false]
        rw [renL_shift, if_pos (by omega)]
        congr 1; omega
      have hlab : ∀ i, i < l.length → lab ≠ i + 40 := fun i hi e1 => by
        rw [e1, hfk i hi] at hf
        simp only [Option.some.injEq, E.mk.injEq] at hf
        exact hkt hf.2.1
      have hr0 : renL ((nx, some lab) :: shiftR B 40 l.length) nx = some lab := by simp [renL]
      refine injB_of ?_ ?_
      · rw [List.map_cons, famE_labs, List.nodup_cons]
        exact ⟨fun hm => by have := List.mem_range'_1.1 hm; simp only at this; omega, range_nd _ _⟩
      · intro e he e' he' hne a h1 h2
        rcases List.mem_cons.1 he with rfl | he
        · rcases List.mem_cons.1 he' with rfl | he'
          · exact hne rfl
          · obtain ⟨i, hi, rfl⟩ := famE_mem (d := d) he'
            simp only at h1 h2
            rw [hr0] at h1; rw [hr i hi] at h2
            cases h1; cases h2
            exact hlab i hi rfl
        · obtain ⟨i, hi, rfl⟩ := famE_mem (d := d) he
          simp only at h1
          rw [hr i hi] at h1; cases h1
          rcases List.mem_cons.1 he' with rfl | he'
          · simp only at h2
            rw [hr0] at h2; cases h2
            exact hlab i hi rfl
          · obtain ⟨i', hi', rfl⟩ := famE_mem (d := d) he'
            simp only at h2 hne
            rw [hr i' hi'] at h2; cases h2
            omega
    · rw [List.all_cons, Bool.and_eq_true]
      refine ⟨?_, List.all_eq_true.2 fun e he => ?_⟩
      · simp only [hin, Kd.isRo, Bool.not_false, Bool.true_and]
        refine List.all_eq_true.2 fun c hc => ?_
        have : ∀ {m : Nat} {l' : List α}, nx ≤ m → m + l'.length ≤ B + 20 → ∀ c ∈ famS ln m l', C.chk (inLab nx (B + 20)) c = true := by
          intro m l'
          induction l' generalizing m with
          | nil => intro _ _ c hc; cases hc
          | cons x r ih =>
            intro h1 h2 c hc
            simp only [List.length_cons] at h2
            rcases List.mem_cons.1 hc with rfl | hc
            · simp only [C.chk, inLab, Bool.and_eq_true]; rw [Nat.ble_eq, Nat.blt_eq]; omega
            · exact ih (m := m + 1) (by omega) (by omega) c hc
        exact this (by omega) (by omega) c hc
      · obtain ⟨i, hi, rfl⟩ := famE_mem (d := d) he
        simp only [hin2 i hi, hkd, Bool.not_false, Bool.true_and]
        exact hck _ _
theorem CallM.rows {P : Program} {n0 nx nac t : Nat} {f : FuncId} {vs vs' : List V} {Lc L : List E} {R : Rn} {K : V → List E → Nat → Prop} {l : List α} {Er : Int} (B : Nat) (hB : nx < B) (hp : Plain cs) (hck : ∀ p x, (cs x).all (C.chk p) = true) (hkd : kd.isRo = false) (hkt : kd ≠ .vec t 1) (hl : l.length ≤ 20) (spec : Spec P f vs Lc nac (fun v L' _ => rowsR t kd cs ln d l Er v L')) (hok : callB P f = true)
    (hv : renVs R vs = some vs') (hvw : ∀ v ∈ vs, v.wf nac) (hL : roL R nac L Lc) (hLc : injB [] Lc = true)
    (hK : K (V.tup [A.c (.sl nx l.length), A.c (C.i Er)]) (⟨nx, .vec t 1, famS ln B l⟩ :: (famE kd cs B l ++ L)) (B + 20)) : CallM P n0 f vs' L nx K :=
  CallK.m (CallK.rows (d := d) B hB hp hck hkd hkt hl spec hok hv hvw hL hLc (by rw [appK_eq]; exact hK))
end
theorem appK_fam {α : Type} {e : E} {kd : Kd} {cs : α → List C} {b : Nat} {l : List α} {L : List E} {K : List E → Prop} (hK : K (e :: (famE kd cs b l ++ L))) : appK (e :: famE kd cs b l) L K := by
  rw [appK_eq]; exact hK
theorem ren_sl1 {R : Rn} {l n : Nat} (h : renL R l = some l) : seqO (([.sl l n] : List C).map (C.ren R)) = some [.sl l n] := by simp [C.ren, h, seqO]
/-- The hours at which the jobs of each beach are done, of the first jobs of an order. -/
def doneL (j : Coast) (o : List Int) : Nat → List (List Int)
  | 0 => List.replicate j.length []
  | i + 1 => (doneL j o i).set (beachO o i) ((doneL j o i).getD (beachO o i) [] ++ [hourO j o (i + 1)])
theorem doneL_len {j : Coast} {o : List Int} : ∀ {i : Nat}, (doneL j o i).length = j.length
  | 0 => by simp [doneL]
  | i + 1 => by simp [doneL, doneL_len (i := i)]
theorem doneL_cnt {j : Coast} {o : List Int} {b : Nat} (ho : OrdOk j o) (hb : b < j.length) : ∀ {i : Nat}, i ≤ o.length → ((doneL j o i).getD b []).length = cntO o i b
  | 0, _ => by simp [doneL, cntO, List.getD_eq_getElem?_getD, hb]
  | i + 1, hi => by
    have ih := doneL_cnt (i := i) ho hb (by omega)
    obtain ⟨h1, h2⟩ := ho.beach i (by omega)
    have hc := cntO_succ (o := o) (i := i) (b := b) (by omega)
    simp only [doneL]
    have hg : ((doneL j o i).set (beachO o i) ((doneL j o i).getD (beachO o i) [] ++ [hourO j o (i + 1)])).getD b [] = if b = beachO o i then (doneL j o i).getD (beachO o i) [] ++ [hourO j o (i + 1)] else (doneL j o i).getD b [] := by
      simp only [List.getD_eq_getElem?_getD, List.getElem?_set]
      by_cases h : b = beachO o i
      · subst h; simp [doneL_len, h2]
      · rw [if_neg (fun e => h e.symm), if_neg h]
    rw [hg]
    by_cases h : b = beachO o i
    · subst h
      rw [if_pos rfl, List.length_append, ih, hc, if_pos h1]; rfl
    · rw [if_neg h, ih, hc, if_neg (by omega)]; rfl
abbrev rowE : Kd := .vec 3 1
theorem len_ints : ∀ {l : List Int}, (l.map C.i).length = l.length := List.length_map ..
set_option maxHeartbeats 1000000 in
set_option maxRecDepth 100000 in
theorem rDone_spec (j : Coast) (o : List Int) (hj : Sized j) (ho : o.length ≤ 200) (hv : validL j = true) (hi : isOrdB j o = true) : Spec Try.prog 29 [V.c (.sl 0 j.length), V.c (.sl 21 o.length)] (⟨0, .ro 1, slsC 1 j⟩ :: ⟨21, .ro 0, o.map C.i⟩ :: entC 1 j) 32 (fun v L' _ => rowsR 35 rowE (List.map C.i) List.length [] (doneL j o o.length) 0 v L') := by
  have hj20 := hj.len
  have hlen := slsC_len (b := 1) (j := j)
  have hm := validL_many hv
  have hc := validL_coast hj hv
  have hoo := isOrd_ok hi
  have hA := asked_spec j o hj ho
  rw [hv, ris_eq (by omega), hi] at hA
  simp only [if_true] at hA
  refine Spec.of tok Try.func29 rfl rfl rfl fun n0 cx => vc_ok tok ?_
  repeat ((conv => whnf); first
      | (refine And.intro (by first | omega | exact Nat.le_of_ble_eq_true rfl | (dsimp only [inK]; omega) | (simp only [mulS_eq]; omega) | (simp only [mulS_eq, setL_length]; omega) | (simp only [setL_length, List.length_map]; omega) | exact ⟨by omega, by omega, by first | exact Nat.le_of_ble_eq_true rfl | (dsimp only; omega) | (simp only [setL_length]; omega) | (simp only [setL_length, List.length_map]; omega)⟩ | exact ⟨by omega, by first | rfl | omega, by omega, Nat.le_of_ble_eq_true rfl, Nat.le_of_ble_eq_true rfl⟩ | exact ⟨rfl, rfl, rfl, Nat.le_of_ble_eq_true rfl, by first | rfl | omega | exact Nat.le_of_ble_eq_true rfl | (dsimp only; omega) | (simp; done) | (simp; omega), by first | rfl | omega | exact Nat.le_of_ble_eq_true rfl | (dsimp only; omega) | (simp; done) | (simp; omega), by omega, Nat.le_of_ble_eq_true rfl⟩ | exact Eq.refl true) ?_)
      | (refine Exists.intro _ (And.intro rfl ?_))
      | (refine And.intro (And.intro rfl (chk_rowI _ _ _ _)) ?_)
      | (refine br_t (by omega) ?_)
      | (refine br_f (by omega) ?_)
      | (refine bs_t (by omega) ?_)
      | (refine bs_f (by omega) ?_)
      | (refine fun (K' : K3) hK' => ?_)
      | (refine hK' _ _ _ ?_; clear hK' K')
      | (refine draw_auto tok mixed (by kernel_rfl) ?_)
      | (refine CallK.val (R := []) hA (by kernel_rfl) rfl (by simp [V.wf, A.wf, C.wf]) (HasO.ro ⟨⟨rfl, fun k hk => by (repeat (first | rw [find_skip (by omega)] | rw [find_hi (by omega) (by rfl)])); exact entC_find hk⟩, rfl⟩ hj) (injO hj) rfl trivial ?_)
      | (refine bs_bt (Eq.refl true) ?_)
      | (refine bs_bf (Eq.refl false) ?_)
      | (refine br_bt (Eq.refl true) ?_)
      | (refine br_bf (Eq.refl false) ?_)
      | (refine CallK.m ?_)
      | (refine And.intro (And.intro rfl rfl) ?_))
  refine Tri.loop (γ := Nat) (fun i => i ≤ o.length) (fun i => [(0, V.c (.sl 0 j.length)), (1, V.c (.sl 21 o.length)), (7, V.c (.sl 32 j.length)), (8, V.i (hourO j o i)), (9, V.i (i : Nat))])
    (fun i => ⟨32, .vec 35 1, famS List.length 40 (doneL j o i)⟩ :: ⟨0, .ro 1, slsC 1 j⟩ :: ⟨21, .ro 0, o.map C.i⟩ :: (famE rowE (List.map C.i) 40 (doneL j o i) ++ entC 1 j)) 60 (fun i => o.length - i) 0 (R0 := nones 40 j.length) ?_ ?_ ?_
  · omega
  · refine ⟨?_, ?_, inj_none (p := [_, _, _]) (tail_fam (by rw [doneL_len]; omega) hj20) rfl (by simp), fix_nones (by omega), by omega⟩
    · repeat (first | exact trivial | refine And.intro (covS_syn (by first | rfl | exact (rsl (renL_nones_out (by omega))).symm) rfl (by first | exact trivial | exact Nat.le_of_ble_eq_true rfl)) ?_)
    · refine ⟨covE_some (renL_nones_out (.inl (Nat.le_of_ble_eq_true rfl))) (by simp only; omega) (wf_famS _ _ _ (by rw [doneL_len]; omega)) rfl (famS_nones rfl), covE_some (renL_nones_out (.inl (Nat.le_of_ble_eq_true rfl))) (by simp only; omega) (wf_sls _ _ _ (by omega)) rfl (ren_sls_of (fun l hl => renL_nones_out (by omega)) (by omega)), covE_some (renL_nones_out (.inl (Nat.le_of_ble_eq_true rfl))) (by simp only; omega) (wf_ints _ _) rfl (ren_ints _ _), covL_app (cov_nones rfl (by omega)) (cov_ent (fun k hk => renL_nones_out (by omega)) (by omega) (fun k hk => by ((try (conv => lhs; arg 1; whnf)); (repeat (first | rw [find_skip (by omega)] | rw [find_hi (by omega) (by rfl)])); exact entC_find hk)))⟩
  · intro i hii
    by_cases hlt : i < o.length
    · obtain ⟨hz, hb⟩ := hoo.beach i hlt
      have hpl := hoo.place i hlt
      have hdl := doneL_len (j := j) (o := o) (i := i)
      have hdc := doneL_cnt hoo hb hii
      obtain ⟨b, hbe⟩ : ∃ b, b = beachO o i := ⟨_, rfl⟩
      rw [← hbe] at hz hb hpl hdc
      refine Tri.enter (R := [(39, some (b + 40))]) (nx' := 60) (s' := [(0, V.c (.sl 0 j.length)), (1, V.c (.sl 21 o.length)), (7, V.c (.sl 32 j.length)), (8, V.i (hourO j o i)), (9, V.i (i : Nat))])
        (L' := ⟨39, rowE, ((doneL j o i).getD b []).map C.i⟩ :: ⟨32, .vec 35 1, (famS List.length 40 (doneL j o i)).set b (.sl 39 ((doneL j o i).getD b []).length)⟩ :: ⟨0, .ro 1, slsC 1 j⟩ :: ⟨21, .ro 0, o.map C.i⟩ :: (rmL (famE rowE (List.map C.i) 40 (doneL j o i)) (b + 40) ++ entC 1 j)) ?_ ?_
      case refine_2 =>
        refine ⟨?_, ?_, inj_view (p := [_, _, _, _]) (by omega) hj20 (by omega) rfl (by simp), rfl, by omega⟩
        · repeat (first | exact trivial | refine And.intro (covS_syn (by first | rfl) rfl (by first | exact trivial | exact Nat.le_of_ble_eq_true rfl)) ?_)
        · refine ⟨covE_some (l := b + 40) rfl (by simp only; omega) (wf_ints _ _) (by (repeat rw [find_skip (by omega)]); exact tail_row (by omega)) (ren_ints _ _), covE_some rfl (by simp only; omega) ?_ rfl (famS_view (fun i => by omega) (by omega)), covE_some rfl (by simp only; omega) (wf_sls _ _ _ (by omega)) rfl (ren_sls_of (fun l hl => renL_ne (by omega)) (by omega)), covE_some rfl (by simp only; omega) (wf_ints _ _) rfl (ren_ints _ _), covL_app (cov_rm (d := []) plain_ints (by omega) (fun i hi _ => renL_ne (by omega)) (fun i hi => by (repeat rw [find_skip (by omega)]); exact tail_row hi)) (cov_ent (fun k hk => renL_ne (by omega)) (by omega) (fun k hk => by (repeat rw [find_skip (by omega)]); exact tail_be hk hj20))⟩
          intro c hc
          rcases List.mem_or_eq_of_mem_set hc with hc | rfl
          · exact wf_famS _ _ _ (by omega) c hc
          · show 39 < 60; omega
      refine vc_ok tok ?_
      have hT := tail_rm (kd := rowE) (cs := List.map C.i) (l := doneL j o i) (j := j) (x := b + 40) (by omega) hj20
      have hom : (o.map C.i).length = o.length := by simp
      have hfl : ((famS List.length 40 (doneL j o i)).set b (.sl 39 ((doneL j o i).getD b []).length)).length = j.length := by simp [hdl]
      have hjl := jobC_len (j.getD b [])
      have hjb := jobO_bd hc hoo hlt
      have hhb := hourO_bd hc hoo i hii
      have ho100 := hoo.len
      have hcnt : cntO o i b ≤ 100 := by have := (hc.jobs _ hb).2; omega
      have hrl : (((doneL j o i).getD b []).map C.i).length = cntO o i b := by rw [List.length_map, hdc]
      have hpl2 : ((doneL j o i).getD b []).length < (j.getD b []).length := by rw [hdc]; exact hpl
      have hjo : jobO j o i = (j.getD b []).getD ((doneL j o i).getD b []).length (0, 0) := by unfold jobO; rw [← hbe, hdc]
      rw [hjo] at hjb
      repeat ((conv => whnf); first
          | (refine And.intro (by first | omega | exact Nat.le_of_ble_eq_true rfl | (dsimp only [inK]; omega) | (simp only [mulS_eq]; omega) | (simp only [mulS_eq, setL_length]; omega) | (simp only [setL_length, List.length_map]; omega) | exact ⟨by omega, by omega, by first | exact Nat.le_of_ble_eq_true rfl | (dsimp only; omega) | (simp only [setL_length]; omega) | (simp only [setL_length, List.length_map]; omega)⟩ | exact ⟨by omega, by first | rfl | omega, by omega, Nat.le_of_ble_eq_true rfl, Nat.le_of_ble_eq_true rfl⟩ | exact ⟨rfl, rfl, rfl, Nat.le_of_ble_eq_true rfl, by first | rfl | omega | exact Nat.le_of_ble_eq_true rfl | (dsimp only; omega) | (simp; done) | (simp; omega), by first | rfl | omega | exact Nat.le_of_ble_eq_true rfl | (dsimp only; omega) | (simp; done) | (simp; omega), by omega, Nat.le_of_ble_eq_true rfl⟩ | exact Eq.refl true) ?_)
          | (with_reducible refine ld (intL hlt) ?_)
          | (with_reducible refine ld (famV hz (by omega)) ?_)
          | (with_reducible refine ld (slLz hz hb) ?_)
          | (with_reducible refine ld (jobL0 hpl2) ?_)
          | (refine Exists.intro _ (And.intro rfl ?_))
          | (refine And.intro (And.intro rfl (chk_rowI _ _ _ _)) ?_)
          | (refine br_t (by omega) ?_)
          | (refine br_f (by omega) ?_)
          | (refine bs_t (by omega) ?_)
          | (refine bs_f (by omega) ?_)
          | (refine fun (K' : K3) hK' => ?_)
          | (refine hK' _ _ _ ?_; clear hK' K')
          | (refine draw_auto tok mixed (by kernel_rfl) ?_)
          | (refine onV_ld (c := ⟨1 + b, .ro 2, jobC (j.getD b [])⟩) (by (try (conv => lhs; arg 1; whnf)); (repeat (first | rw [find_skip (by omega)] | rw [find_hi (by omega) (by rfl)])); exact tail_rm_be hb hj20) ?_)
          | (with_reducible refine rmK_tail hT rfl ?_)
          | (with_reducible refine updK_tail hT rfl ?_)
          | (refine bs_bt (Eq.refl true) ?_)
          | (refine bs_bf (Eq.refl false) ?_)
          | (refine br_bt (Eq.refl true) ?_)
          | (refine br_bf (Eq.refl false) ?_)
          | (refine CallK.m ?_)
          | (refine And.intro (And.intro rfl rfl) ?_))
      refine ⟨i + 1, [(b + 40, some 61)], by omega, by omega, ?_⟩
      have hh : hourO j o (i + 1) = hourO j o i + ((j.getD b []).getD ((doneL j o i).getD b []).length (0, 0)).1 := by simp only [hourO]; rw [hjo]
      have hD : doneL j o (i + 1) = (doneL j o i).set b ((doneL j o i).getD b [] ++ [hourO j o (i + 1)]) := by rw [hbe]; rfl
      have hrow : ((doneL j o i).getD b []).map C.i ++ [C.i (hourO j o i + ((j.getD b []).getD ((doneL j o i).getD b []).length (0, 0)).1)] = ((doneL j o i).getD b [] ++ [hourO j o (i + 1)]).map C.i := by rw [List.map_append, hh]; rfl
      have hln : ((doneL j o i).getD b [] ++ [hourO j o (i + 1)]).length = ((doneL j o i).getD b []).length + 1 := by simp
      have hfe := famS_end (ln := List.length) (b := 40) (y := 61) (v := 0) (w := 0) (x := (doneL j o i).getD b [] ++ [hourO j o (i + 1)]) (l := doneL j o i) (c := .sl 39 ((doneL j o i).getD b []).length) (show b < _ by omega) hz
      rw [hln] at hfe
      rw [hD]
      refine ⟨?_, ?_, inj_end (p := [_, _, _]) (tail_fam (by rw [List.length_set]; omega) hj20) rfl (by simp) rfl (by simp), by first | rfl | (simp [fixB, Nat.ble_eq]; omega), by omega⟩
      · repeat (first | exact trivial | refine And.intro (covS_syn (by first | rfl | exact (rsl (renL_ne (by omega))).symm | (refine congrArg some (congrArg V.i ?_); omega) | (refine congrArg some (congrArg V.i ?_); exact hh.symm)) rfl (by first | exact trivial | exact Nat.le_of_ble_eq_true rfl)) ?_)
      · refine ⟨covE_some (renL_ne (by simp only; omega)) (by simp only; omega) (wf_famS _ _ _ (by rw [List.length_set]; omega)) rfl hfe, covE_some (renL_ne (by simp only; omega)) (by simp only; omega) (wf_sls _ _ _ (by omega)) rfl (ren_sls_of (fun l hl => renL_ne (by omega)) (by omega)), covE_some (renL_ne (by simp only; omega)) (by simp only; omega) (wf_ints _ _) rfl (ren_ints _ _), covL_app (cov_set (d := []) plain_ints (by omega) (congrArg (fun m => some (E.mk 61 (.vec 3 1) m)) hrow) (fun i' hi' hne => by (repeat rw [find_skip (by omega)]); exact tail_rm_row hi' hne)) (cov_ent (fun k hk => renL_ne (by omega)) (by omega) (fun k hk => by (repeat rw [find_skip (by omega)]); exact tail_rm_be hk hj20))⟩
    · refine vc_ok tok ?_
      obtain rfl : i = o.length := by omega
      repeat ((conv => whnf); first
          | (refine And.intro (by first | omega | exact Nat.le_of_ble_eq_true rfl | (dsimp only [inK]; omega) | (simp only [mulS_eq]; omega) | (simp only [mulS_eq, setL_length]; omega) | (simp only [setL_length, List.length_map]; omega) | exact ⟨by omega, by omega, by first | exact Nat.le_of_ble_eq_true rfl | (dsimp only; omega) | (simp only [setL_length]; omega) | (simp only [setL_length, List.length_map]; omega)⟩ | exact ⟨by omega, by first | rfl | omega, by omega, Nat.le_of_ble_eq_true rfl, Nat.le_of_ble_eq_true rfl⟩ | exact ⟨rfl, rfl, rfl, Nat.le_of_ble_eq_true rfl, by first | rfl | omega | exact Nat.le_of_ble_eq_true rfl | (dsimp only; omega) | (simp; done) | (simp; omega), by first | rfl | omega | exact Nat.le_of_ble_eq_true rfl | (dsimp only; omega) | (simp; done) | (simp; omega), by omega, Nat.le_of_ble_eq_true rfl⟩ | exact Eq.refl true) ?_)
          | (refine Exists.intro _ (And.intro rfl ?_))
          | (refine And.intro (And.intro rfl (chk_rowI _ _ _ _)) ?_)
          | (refine br_t (by omega) ?_)
          | (refine br_f (by omega) ?_)
          | (refine bs_t (by omega) ?_)
          | (refine bs_f (by omega) ?_)
          | (refine fun (K' : K3) hK' => ?_)
          | (refine hK' _ _ _ ?_; clear hK' K')
          | (refine draw_auto tok mixed (by kernel_rfl) ?_)
          | (refine bs_bt (Eq.refl true) ?_)
          | (refine bs_bf (Eq.refl false) ?_)
          | (refine br_bt (Eq.refl true) ?_)
          | (refine br_bf (Eq.refl false) ?_)
          | (refine CallK.m ?_)
          | (refine And.intro (And.intro rfl rfl) ?_))
      exact .inr ⟨32, by rw [doneL_len], rfl, fun k hk => by (repeat rw [find_skip (by omega)]); exact tail_row hk⟩
end Go.Proofs.Ytjijjncddjkdlaa

/- Shore: Done. -/
namespace Go.Proofs.Ytjijjncddjkdlaa
open Go.RowKit
set_option linter.unusedVariables false
set_option linter.unusedSimpArgs false
theorem chk_rowA (p : Nat → Bool) (l : List Int) (z : Int) (lab : Nat) (kd : Kd) : (([⟨lab, kd, l.map C.i ++ [C.i z]⟩] : List E).all fun e => e.cs.all (C.chk p)) = true := by
  simp only [List.all_cons, List.all_nil, Bool.and_true, List.all_append, chk_ints, Bool.true_and]
  rfl
set_option maxHeartbeats 1000000 in
set_option maxRecDepth 100000 in
theorem Done_spec (j : Coast) (o : List Int) (hj : Sized j) (ho : o.length ≤ 200) (hv : validL j = true) (hi : isOrdB j o = true) : Spec Try.prog 28 [V.c (.sl 0 j.length), V.c (.sl 21 o.length)] (⟨0, .ro 1, slsC 1 j⟩ :: ⟨21, .ro 0, o.map C.i⟩ :: entC 1 j) 32 (fun v L' _ => rowsR 35 rowE (List.map C.i) List.length [] (doneL j o o.length) 0 v L') := by
  have hj20 := hj.len
  have hlen := slsC_len (b := 1) (j := j)
  have hm := validL_many hv
  have hc := validL_coast hj hv
  have hoo := isOrd_ok hi
  have ho100 := hoo.len
  have hO := hasO0 (o := o) hj
  refine Spec.of tok Try.func28 rfl rfl rfl fun n0 cx => vc_ok tok ?_
  repeat ((conv => whnf); first
      | (refine And.intro (by first | omega | exact Nat.le_of_ble_eq_true rfl | (dsimp only [inK]; omega) | (simp only [mulS_eq]; omega) | (simp only [mulS_eq, setL_length]; omega) | (simp only [setL_length, List.length_map]; omega) | exact ⟨by omega, by omega, by first | exact Nat.le_of_ble_eq_true rfl | (dsimp only; omega) | (simp only [setL_length]; omega) | (simp only [setL_length, List.length_map]; omega)⟩ | exact ⟨by omega, by first | rfl | omega, by omega, Nat.le_of_ble_eq_true rfl, Nat.le_of_ble_eq_true rfl⟩ | exact ⟨rfl, rfl, rfl, Nat.le_of_ble_eq_true rfl, by first | rfl | omega | exact Nat.le_of_ble_eq_true rfl | (dsimp only; omega) | (simp; done) | (simp; omega), by first | rfl | omega | exact Nat.le_of_ble_eq_true rfl | (dsimp only; omega) | (simp; done) | (simp; omega), by omega, Nat.le_of_ble_eq_true rfl⟩ | exact Eq.refl true) ?_)
      | (refine Exists.intro _ (And.intro rfl ?_))
      | (refine And.intro (And.intro rfl (chk_rowI _ _ _ _)) ?_)
      | (refine br_t (by omega) ?_)
      | (refine br_f (by omega) ?_)
      | (refine bs_t (by omega) ?_)
      | (refine bs_f (by omega) ?_)
      | (refine fun (K' : K3) hK' => ?_)
      | (refine hK' _ _ _ ?_; clear hK' K')
      | (refine CallM.eq (by kernel_rfl) (ordered_spec j o hj ho _ _ hO) ?_)
      | (refine CallM.eq (by kernel_rfl) (visits_spec _ _ _ _ _ _) ?_)
      | (refine draw_auto tok mixed (by kernel_rfl) ?_)
      | (rw [hv])
      | (rw [hi])
      | (with_reducible refine updK_ent (by omega) ?_)
      | (refine bs_bt (Eq.refl true) ?_)
      | (refine bs_bf (Eq.refl false) ?_)
      | (refine br_bt (Eq.refl true) ?_)
      | (refine br_bf (Eq.refl false) ?_)
      | (refine CallK.m ?_)
      | (refine And.intro (And.intro rfl rfl) ?_))
  refine Tri.rangeFunc tok (by exact rfl) (by kernel_rfl) (by exact rfl) (by exact rfl) (by exact rfl) (by exact rfl) (by exact rfl) (by exact rfl) ?_
  intro y cxi oo ob od hy hY
  refine vc_ok tok ?_
  repeat ((conv => whnf); first
      | (refine And.intro (by first | omega | exact Nat.le_of_ble_eq_true rfl | (dsimp only [inK]; omega) | (simp only [mulS_eq]; omega) | (simp only [mulS_eq, setL_length]; omega) | (simp only [setL_length, List.length_map]; omega) | exact ⟨by omega, by omega, by first | exact Nat.le_of_ble_eq_true rfl | (dsimp only; omega) | (simp only [setL_length]; omega) | (simp only [setL_length, List.length_map]; omega)⟩ | exact ⟨by omega, by first | rfl | omega, by omega, Nat.le_of_ble_eq_true rfl, Nat.le_of_ble_eq_true rfl⟩ | exact ⟨rfl, rfl, rfl, Nat.le_of_ble_eq_true rfl, by first | rfl | omega | exact Nat.le_of_ble_eq_true rfl | (dsimp only; omega) | (simp; done) | (simp; omega), by first | rfl | omega | exact Nat.le_of_ble_eq_true rfl | (dsimp only; omega) | (simp; done) | (simp; omega), by omega, Nat.le_of_ble_eq_true rfl⟩ | exact Eq.refl true) ?_)
      | (refine Exists.intro _ (And.intro rfl ?_))
      | (refine And.intro (And.intro rfl (chk_rowI _ _ _ _)) ?_)
      | (refine br_t (by omega) ?_)
      | (refine br_f (by omega) ?_)
      | (refine bs_t (by omega) ?_)
      | (refine bs_f (by omega) ?_)
      | (refine fun (K' : K3) hK' => ?_)
      | (refine hK' _ _ _ ?_; clear hK' K')
      | (refine draw_auto tok mixed (by kernel_rfl) ?_)
      | (refine bs_bt (Eq.refl true) ?_)
      | (refine bs_bf (Eq.refl false) ?_)
      | (refine br_bt (Eq.refl true) ?_)
      | (refine br_bf (Eq.refl false) ?_)
      | (refine CallK.m ?_)
      | (refine And.intro (And.intro rfl rfl) ?_))
  refine Tri.loop (γ := Nat) (fun i => i ≤ o.length) (fun i => [(0, V.c (.v y)), (1, V.c (.ptr 34 0)), (2, V.c (.ptr 35 0)), (4, V.c (.sl 37 j.length)), (5, V.i (hourO j o i)), (12, V.c (.sl 21 o.length)), (13, V.i o.length), (14, V.i (i : Nat))])
    (fun i => ⟨37, .vec 3 1, (nextO j o i).map C.i⟩ :: ⟨36, .obj oo, []⟩ :: ⟨35, .own 35, [.sl 21 o.length]⟩ :: ⟨34, .own 57, [.sl 0 j.length]⟩ :: ⟨33, .own 39, [.sl 32 j.length]⟩ :: ⟨32, .vec 35 1, famS List.length 40 (doneL j o i)⟩ :: ⟨0, .ro 1, slsC 1 j⟩ :: ⟨21, .ro 0, o.map C.i⟩ :: (famE rowE (List.map C.i) 40 (doneL j o i) ++ entC 1 j)) 60 (fun i => o.length - i) 0 (R0 := nones 40 j.length) ?_ ?_ ?_
  · omega
  · have hdl0 := doneL_len (j := j) (o := o) (i := 0)
    have hR : ∀ l, l < 40 → renL (nones 40 j.length) l = some l := fun l hl => renL_nones_out (by omega)
    refine ⟨?_, ?_, inj_none (p := [_, _, _, _, _, _, _, _]) (tail_fam (by rw [doneL_len]; omega) hj20) rfl (by simp), fix_nones (Nat.le_of_ble_eq_true rfl), by first | exact Nat.le_of_ble_eq_true rfl | omega⟩
    · repeat (first | exact trivial | refine And.intro (covS_syn (by first | rfl | exact (rsl (hR _ (Nat.le_of_ble_eq_true rfl))).symm | exact (rptr (hR _ (Nat.le_of_ble_eq_true rfl))).symm) rfl (by first | exact trivial | exact Nat.le_of_ble_eq_true rfl | exact hy)) ?_)
    · repeat (first | (exact covL_app (cov_nones rfl (by omega)) (cov_ent (fun k hk => hR _ (by omega)) (by omega) (fun k hk => by ((try (conv => lhs; arg 1; whnf)); (repeat (first | rw [find_skip (by omega)] | rw [find_hi (by omega) (by rfl)])); exact entC_find hk)))) | refine And.intro (covE_some (hR _ (Nat.le_of_ble_eq_true rfl)) (Nat.le_of_ble_eq_true rfl) (by first | exact wf_ints _ _ | exact wf_bools _ _ | first | first | exact wf_sls _ _ _ (by omega) | exact wf_jobs _ _ | exact wf_famS _ _ _ (by omega) | simp [C.wf]) rfl (by first | exact ren_ints _ _ | exact ren_sls_of (fun l hl => hR l (by omega)) (by omega) | exact ren_sl1 (hR _ (Nat.le_of_ble_eq_true rfl)) | (exact famS_nones rfl) | (exact (ren_ints _ _).trans (congrArg some nextO_zero.symm)) | rfl)) ?_)
  · intro i hii
    by_cases hlt : i < o.length
    · obtain ⟨hz, hb⟩ := hoo.beach i hlt
      have hpl := hoo.place i hlt
      have hdl := doneL_len (j := j) (o := o) (i := i)
      have hdc := doneL_cnt hoo hb hii
      obtain ⟨b, hbe⟩ : ∃ b, b = beachO o i := ⟨_, rfl⟩
      rw [← hbe] at hz hb hpl hdc
      refine Tri.enter (R := [(39, some (b + 40))]) (nx' := 60) (s' := [(0, V.c (.v y)), (1, V.c (.ptr 34 0)), (2, V.c (.ptr 35 0)), (4, V.c (.sl 37 j.length)), (5, V.i (hourO j o i)), (12, V.c (.sl 21 o.length)), (13, V.i o.length), (14, V.i (i : Nat))])
        (L' := ⟨39, rowE, ((doneL j o i).getD b []).map C.i⟩ :: ⟨37, .vec 3 1, (nextO j o i).map C.i⟩ :: ⟨36, .obj oo, []⟩ :: ⟨35, .own 35, [.sl 21 o.length]⟩ :: ⟨34, .own 57, [.sl 0 j.length]⟩ :: ⟨33, .own 39, [.sl 32 j.length]⟩ :: ⟨32, .vec 35 1, (famS List.length 40 (doneL j o i)).set b (.sl 39 ((doneL j o i).getD b []).length)⟩ :: ⟨0, .ro 1, slsC 1 j⟩ :: ⟨21, .ro 0, o.map C.i⟩ :: (rmL (famE rowE (List.map C.i) 40 (doneL j o i)) (b + 40) ++ entC 1 j)) ?_ ?_
      case refine_2 =>
        have hR : ∀ l, l < 39 → renL [(39, some (b + 40))] l = some l := fun l hl => renL_ne (by omega)
        have hwv : ∀ c ∈ (famS List.length 40 (doneL j o i)).set b (.sl 39 ((doneL j o i).getD b []).length), c.wf 60 := by
          intro c hc
          rcases List.mem_or_eq_of_mem_set hc with hc | rfl
          · exact wf_famS _ _ _ (by omega) c hc
          · show 39 < 60; omega
        refine ⟨?_, ?_, inj_view (p := [_, _, _, _, _, _, _, _, _]) (by omega) hj20 (by omega) rfl (by simp), rfl, by first | exact Nat.le_of_ble_eq_true rfl | omega⟩
        · repeat (first | exact trivial | refine And.intro (covS_syn (by first | rfl | exact (rsl (hR _ (Nat.le_of_ble_eq_true rfl))).symm | exact (rptr (hR _ (Nat.le_of_ble_eq_true rfl))).symm) rfl (by first | exact trivial | exact Nat.le_of_ble_eq_true rfl | exact hy)) ?_)
        · repeat (first | (exact covL_app (cov_rm (d := []) plain_ints (by omega) (fun i hi _ => renL_ne (by omega)) (fun i hi => by (repeat rw [find_skip (by omega)]); exact tail_row hi)) (cov_ent (fun k hk => renL_ne (by omega)) (by omega) (fun k hk => by (repeat rw [find_skip (by omega)]); exact tail_be hk hj20))) | (refine And.intro (covE_some (l := b + 40) rfl (Nat.le_of_ble_eq_true rfl) (wf_ints _ _) (by (repeat rw [find_skip (by omega)]); exact tail_row (by omega)) (ren_ints _ _)) ?_) | (refine And.intro (covE_some (hR _ (Nat.le_of_ble_eq_true rfl)) (Nat.le_of_ble_eq_true rfl) hwv rfl (famS_view (fun i => by omega) (by omega))) ?_) | refine And.intro (covE_some (hR _ (Nat.le_of_ble_eq_true rfl)) (Nat.le_of_ble_eq_true rfl) (by first | exact wf_ints _ _ | exact wf_bools _ _ | first | first | exact wf_sls _ _ _ (by omega) | exact wf_jobs _ _ | exact wf_famS _ _ _ (by omega) | simp [C.wf]) rfl (by first | exact ren_ints _ _ | exact ren_sls_of (fun l hl => hR l (by omega)) (by omega) | exact ren_sl1 (hR _ (Nat.le_of_ble_eq_true rfl)) | (fail) | rfl)) ?_)
      refine vc_ok tok ?_
      have hT := tail_rm (kd := rowE) (cs := List.map C.i) (l := doneL j o i) (j := j) (x := b + 40) (by omega) hj20
      have hom : (o.map C.i).length = o.length := by simp
      have hnl := nextO_len (j := j) (o := o) (i := i)
      have hnm : ((nextO j o i).map C.i).length = j.length := by simp [hnl]
      have hfl : ((famS List.length 40 (doneL j o i)).set b (.sl 39 ((doneL j o i).getD b []).length)).length = j.length := by simp [hdl]
      have hjl := jobC_len (j.getD b [])
      have hhb := hourO_bd hc hoo i hii
      have hcnt : cntO o i b ≤ 100 := by have := (hc.jobs _ hb).2; omega
      have hrl : (((doneL j o i).getD b []).map C.i).length = cntO o i b := by rw [List.length_map, hdc]
      have hjo : jobO j o i = (j.getD b []).getD (cntO o i b) (0, 0) := by unfold jobO; rw [← hbe]
      have hjb := jobO_bd hc hoo hlt
      rw [hjo] at hjb
      repeat ((conv => whnf); first
          | (refine And.intro (by first | omega | exact Nat.le_of_ble_eq_true rfl | (dsimp only [inK]; omega) | (simp only [mulS_eq]; omega) | (simp only [mulS_eq, setL_length]; omega) | (simp only [setL_length, List.length_map]; omega) | exact ⟨by omega, by omega, by first | exact Nat.le_of_ble_eq_true rfl | (dsimp only; omega) | (simp only [setL_length]; omega) | (simp only [setL_length, List.length_map]; omega)⟩ | exact ⟨by omega, by first | rfl | omega, by omega, Nat.le_of_ble_eq_true rfl, Nat.le_of_ble_eq_true rfl⟩ | exact ⟨rfl, rfl, rfl, Nat.le_of_ble_eq_true rfl, by first | rfl | omega | exact Nat.le_of_ble_eq_true rfl | (dsimp only; omega) | (simp; done) | (simp; omega), by first | rfl | omega | exact Nat.le_of_ble_eq_true rfl | (dsimp only; omega) | (simp; done) | (simp; omega), by omega, Nat.le_of_ble_eq_true rfl⟩ | exact Eq.refl true) ?_)
          | (with_reducible refine ld (intL hlt) ?_)
          | (with_reducible refine ld (slLz hz hb) ?_)
          | (with_reducible refine ld (nextL hz hb) ?_)
          | (with_reducible refine ld (jobT rfl hpl) ?_)
          | (refine Exists.intro _ (And.intro rfl ?_))
          | (refine And.intro (And.intro rfl (chk_rowI _ _ _ _)) ?_)
          | (refine br_t (by omega) ?_)
          | (refine br_f (by omega) ?_)
          | (refine bs_t (by omega) ?_)
          | (refine bs_f (by omega) ?_)
          | (refine fun (K' : K3) hK' => ?_)
          | (refine hK' _ _ _ ?_; clear hK' K')
          | (refine draw_auto tok mixed (by kernel_rfl) ?_)
          | (with_reducible refine updK_tail hT rfl ?_)
          | (refine onV_ld (c := ⟨1 + b, .ro 2, jobC (j.getD b [])⟩) (by (try (conv => lhs; arg 1; whnf)); (repeat (first | rw [find_skip (by omega)] | rw [find_hi (by omega) (by rfl)])); exact tail_rm_be hb hj20) ?_)
          | (refine bs_bt (Eq.refl true) ?_)
          | (refine bs_bf (Eq.refl false) ?_)
          | (refine br_bt (Eq.refl true) ?_)
          | (refine br_bf (Eq.refl false) ?_)
          | (refine CallK.m ?_)
          | (refine And.intro (And.intro rfl rfl) ?_))
      refine hY _ _ _ _ (Nat.le_of_ble_eq_true rfl) rfl ⟨rfl, trivial⟩ ?_
      intro cxb hcx
      refine vc_ok tok ?_
      repeat ((conv => whnf); first
          | (refine And.intro (by first | omega | exact Nat.le_of_ble_eq_true rfl | (dsimp only [inK]; omega) | (simp only [mulS_eq]; omega) | (simp only [mulS_eq, setL_length]; omega) | (simp only [setL_length, List.length_map]; omega) | exact ⟨by omega, by omega, by first | exact Nat.le_of_ble_eq_true rfl | (dsimp only; omega) | (simp only [setL_length]; omega) | (simp only [setL_length, List.length_map]; omega)⟩ | exact ⟨by omega, by first | rfl | omega, by omega, Nat.le_of_ble_eq_true rfl, Nat.le_of_ble_eq_true rfl⟩ | exact ⟨rfl, rfl, rfl, Nat.le_of_ble_eq_true rfl, by first | rfl | omega | exact Nat.le_of_ble_eq_true rfl | (dsimp only; omega) | (simp; done) | (simp; omega), by first | rfl | omega | exact Nat.le_of_ble_eq_true rfl | (dsimp only; omega) | (simp; done) | (simp; omega), by omega, Nat.le_of_ble_eq_true rfl⟩ | exact Eq.refl true) ?_)
          | (refine Exists.intro _ (And.intro rfl ?_))
          | (refine And.intro (And.intro rfl (chk_rowI _ _ _ _)) ?_)
          | (refine br_t (by omega) ?_)
          | (refine br_f (by omega) ?_)
          | (refine bs_t (by omega) ?_)
          | (refine bs_f (by omega) ?_)
          | (refine fun (K' : K3) hK' => ?_)
          | (refine hK' _ _ _ ?_; clear hK' K')
          | (refine draw_auto tok mixed (by kernel_rfl) ?_)
          | (with_reducible refine updK_tail hT rfl ?_)
          | (with_reducible refine updO_tail hT rfl ?_)
          | (refine And.intro (Eq.refl oo) ?_)
          | (refine bs_bt (Eq.refl true) ?_)
          | (refine bs_bf (Eq.refl false) ?_)
          | (refine br_bt (Eq.refl true) ?_)
          | (refine br_bf (Eq.refl false) ?_)
          | (refine CallK.m ?_)
          | (refine And.intro (And.intro rfl rfl) ?_))
      refine vc_ok tok ?_
      repeat ((conv => whnf); first
          | (refine And.intro (by first | omega | exact Nat.le_of_ble_eq_true rfl | (dsimp only [inK]; omega) | (simp only [mulS_eq]; omega) | (simp only [mulS_eq, setL_length]; omega) | (simp only [setL_length, List.length_map]; omega) | exact ⟨by omega, by omega, by first | exact Nat.le_of_ble_eq_true rfl | (dsimp only; omega) | (simp only [setL_length]; omega) | (simp only [setL_length, List.length_map]; omega)⟩ | exact ⟨by omega, by first | rfl | omega, by omega, Nat.le_of_ble_eq_true rfl, Nat.le_of_ble_eq_true rfl⟩ | exact ⟨rfl, rfl, rfl, Nat.le_of_ble_eq_true rfl, by first | rfl | omega | exact Nat.le_of_ble_eq_true rfl | (dsimp only; omega) | (simp; done) | (simp; omega), by first | rfl | omega | exact Nat.le_of_ble_eq_true rfl | (dsimp only; omega) | (simp; done) | (simp; omega), by omega, Nat.le_of_ble_eq_true rfl⟩ | exact Eq.refl true) ?_)
          | (with_reducible refine ld (famV hz (by omega)) ?_)
          | (refine Exists.intro _ (And.intro rfl ?_))
          | (refine And.intro (And.intro rfl (chk_rowI _ _ _ _)) ?_)
          | (refine br_t (by omega) ?_)
          | (refine br_f (by omega) ?_)
          | (refine bs_t (by omega) ?_)
          | (refine bs_f (by omega) ?_)
          | (refine fun (K' : K3) hK' => ?_)
          | (refine hK' _ _ _ ?_; clear hK' K')
          | (refine draw_kill [39] tok mixed (by decide +kernel) ?_)
          | (refine draw_auto tok mixed (by kernel_rfl) ?_)
          | (with_reducible refine updK_tail hT rfl ?_)
          | (with_reducible refine rmK_tail hT rfl ?_)
          | (with_reducible refine visC_tail hT rfl ?_)
          | (with_reducible refine relC_tail hT rfl ?_)
          | (with_reducible refine updO_tail hT rfl ?_)
          | (refine And.intro (Eq.refl ob) ?_)
          | (refine And.intro (And.intro rfl (chk_rowA _ _ _ _ _)) ?_)
          | (refine bs_bt (Eq.refl true) ?_)
          | (refine bs_bf (Eq.refl false) ?_)
          | (refine br_bt (Eq.refl true) ?_)
          | (refine br_bf (Eq.refl false) ?_)
          | (refine CallK.m ?_)
          | (refine And.intro (And.intro rfl rfl) ?_))
      have hh : hourO j o (i + 1) = hourO j o i + ((j.getD b []).getD (cntO o i b) (0, 0)).1 := by simp only [hourO]; rw [hjo]
      have hD : doneL j o (i + 1) = (doneL j o i).set b ((doneL j o i).getD b [] ++ [hourO j o (i + 1)]) := by rw [hbe]; rfl
      have hrow : ((doneL j o i).getD b []).map C.i ++ [C.i (hourO j o i + ((j.getD b []).getD (cntO o i b) (0, 0)).1)] = ((doneL j o i).getD b [] ++ [hourO j o (i + 1)]).map C.i := by rw [List.map_append, hh]; rfl
      have hln : ((doneL j o i).getD b [] ++ [hourO j o (i + 1)]).length = ((doneL j o i).getD b []).length + 1 := by simp
      have hfe := famS_end (ln := List.length) (b := 40) (y := 63) (v := 0) (w := 0) (x := (doneL j o i).getD b [] ++ [hourO j o (i + 1)]) (l := doneL j o i) (c := .sl 39 ((doneL j o i).getD b []).length) (show b < _ by omega) hz
      rw [hln] at hfe
      have hdl2 : ((doneL j o i).set b ((doneL j o i).getD b [] ++ [hourO j o (i + 1)])).length = j.length := by rw [List.length_set]; exact hdl
      have hR : ∀ l, l < 40 → renL [(b + 40, some 63)] l = some l := fun l hl => renL_ne (by omega)
      refine ⟨i + 1, [(b + 40, some 63)], by omega, by omega, ?_⟩
      rw [hD]
      refine ⟨?_, ?_, inj_end (p := [_, _, _, _, _, _, _, _]) (tail_fam (by omega) hj20) rfl (by simp) rfl (by simp), (by first | rfl | (simp [fixB, Nat.ble_eq]; omega)), by first | exact Nat.le_of_ble_eq_true rfl | omega⟩
      · repeat (first | exact trivial | refine And.intro (covS_syn (by first | rfl | exact (rsl (hR _ (Nat.le_of_ble_eq_true rfl))).symm | exact (rptr (hR _ (Nat.le_of_ble_eq_true rfl))).symm | (refine congrArg some (congrArg V.i ?_); omega) | (refine congrArg some (congrArg V.i ?_); exact hh.symm)) rfl (by first | exact trivial | exact Nat.le_of_ble_eq_true rfl | exact hy)) ?_)
      · repeat (first | (exact covL_app (cov_set (d := []) plain_ints (by omega) (congrArg (fun m => some (E.mk 63 (.vec 3 1) m)) hrow) (fun i' hi' hne => by (repeat rw [find_skip (by omega)]); exact tail_rm_row hi' hne)) (cov_ent (fun k hk => hR _ (by omega)) (by omega) (fun k hk => by (repeat rw [find_skip (by omega)]); exact tail_rm_be hk hj20))) | refine And.intro (covE_some (hR _ (Nat.le_of_ble_eq_true rfl)) (Nat.le_of_ble_eq_true rfl) (by first | exact wf_ints _ _ | exact wf_bools _ _ | first | first | exact wf_sls _ _ _ (by omega) | exact wf_jobs _ _ | exact wf_famS _ _ _ (by omega) | simp [C.wf]) rfl (by first | exact ren_ints _ _ | exact ren_sls_of (fun l hl => hR l (by omega)) (by omega) | exact ren_sl1 (hR _ (Nat.le_of_ble_eq_true rfl)) | (exact hfe) | (exact (ren_ints _ _).trans (congrArg some (nextS hoo hlt (by rw [hz, hbe]) (by rw [← hbe])).symm)) | rfl)) ?_)
    · refine vc_ok tok ?_
      obtain rfl : i = o.length := by omega
      have hT := tail_fam (kd := rowE) (cs := List.map C.i) (l := doneL j o o.length) (j := j) (by rw [doneL_len]; omega) hj20
      repeat ((conv => whnf); first
          | (refine And.intro (by first | omega | exact Nat.le_of_ble_eq_true rfl | (dsimp only [inK]; omega) | (simp only [mulS_eq]; omega) | (simp only [mulS_eq, setL_length]; omega) | (simp only [setL_length, List.length_map]; omega) | exact ⟨by omega, by omega, by first | exact Nat.le_of_ble_eq_true rfl | (dsimp only; omega) | (simp only [setL_length]; omega) | (simp only [setL_length, List.length_map]; omega)⟩ | exact ⟨by omega, by first | rfl | omega, by omega, Nat.le_of_ble_eq_true rfl, Nat.le_of_ble_eq_true rfl⟩ | exact ⟨rfl, rfl, rfl, Nat.le_of_ble_eq_true rfl, by first | rfl | omega | exact Nat.le_of_ble_eq_true rfl | (dsimp only; omega) | (simp; done) | (simp; omega), by first | rfl | omega | exact Nat.le_of_ble_eq_true rfl | (dsimp only; omega) | (simp; done) | (simp; omega), by omega, Nat.le_of_ble_eq_true rfl⟩ | exact Eq.refl true) ?_)
          | (refine Exists.intro _ (And.intro rfl ?_))
          | (refine And.intro (And.intro rfl (chk_rowI _ _ _ _)) ?_)
          | (refine br_t (by omega) ?_)
          | (refine br_f (by omega) ?_)
          | (refine bs_t (by omega) ?_)
          | (refine bs_f (by omega) ?_)
          | (refine fun (K' : K3) hK' => ?_)
          | (refine hK' _ _ _ ?_; clear hK' K')
          | (refine draw_auto tok mixed (by kernel_rfl) ?_)
          | (refine bs_bt (Eq.refl true) ?_)
          | (refine bs_bf (Eq.refl false) ?_)
          | (refine br_bt (Eq.refl true) ?_)
          | (refine br_bf (Eq.refl false) ?_)
          | (refine CallK.m ?_)
          | (refine And.intro (And.intro rfl rfl) ?_))
      refine Or.inl ?_
      repeat ((conv => whnf); first
          | (refine And.intro (by first | omega | exact Nat.le_of_ble_eq_true rfl | (dsimp only [inK]; omega) | (simp only [mulS_eq]; omega) | (simp only [mulS_eq, setL_length]; omega) | (simp only [setL_length, List.length_map]; omega) | exact ⟨by omega, by omega, by first | exact Nat.le_of_ble_eq_true rfl | (dsimp only; omega) | (simp only [setL_length]; omega) | (simp only [setL_length, List.length_map]; omega)⟩ | exact ⟨by omega, by first | rfl | omega, by omega, Nat.le_of_ble_eq_true rfl, Nat.le_of_ble_eq_true rfl⟩ | exact ⟨rfl, rfl, rfl, Nat.le_of_ble_eq_true rfl, by first | rfl | omega | exact Nat.le_of_ble_eq_true rfl | (dsimp only; omega) | (simp; done) | (simp; omega), by first | rfl | omega | exact Nat.le_of_ble_eq_true rfl | (dsimp only; omega) | (simp; done) | (simp; omega), by omega, Nat.le_of_ble_eq_true rfl⟩ | exact Eq.refl true) ?_)
          | (refine Exists.intro _ (And.intro rfl ?_))
          | (refine And.intro (And.intro rfl (chk_rowI _ _ _ _)) ?_)
          | (refine br_t (by omega) ?_)
          | (refine br_f (by omega) ?_)
          | (refine bs_t (by omega) ?_)
          | (refine bs_f (by omega) ?_)
          | (refine fun (K' : K3) hK' => ?_)
          | (refine hK' _ _ _ ?_; clear hK' K')
          | (refine draw_auto tok mixed (by kernel_rfl) ?_)
          | (refine And.intro (Eq.refl oo) ?_)
          | (with_reducible refine rmK_tail hT rfl ?_)
          | (refine bs_bt (Eq.refl true) ?_)
          | (refine bs_bf (Eq.refl false) ?_)
          | (refine br_bt (Eq.refl true) ?_)
          | (refine br_bf (Eq.refl false) ?_)
          | (refine CallK.m ?_)
          | (refine And.intro (And.intro rfl rfl) ?_))
      exact .inr ⟨32, by rw [doneL_len], rfl, fun k hk => by (repeat rw [find_skip (by omega)]); exact tail_row hk⟩
end Go.Proofs.Ytjijjncddjkdlaa

/- Shore: Done with its errors; the reference's harm and Harm. -/
namespace Go.Proofs.Ytjijjncddjkdlaa
open Go.RowKit
set_option linter.unusedVariables false
set_option linter.unusedSimpArgs false
def ordE (j : Coast) (o : List Int) : Int := if validL j then (if isOrdB j o then 0 else 61) else 60
def doneR (j : Coast) (o : List Int) : List (List Int) := if ordE j o = 0 then doneL j o o.length else []
theorem ordE_zero {j : Coast} {o : List Int} (h : ordE j o = 0) : validL j = true ∧ isOrdB j o = true := by
  unfold ordE at h
  split at h
  · next hv =>
    split at h
    · next hi => exact ⟨hv, hi⟩
    · omega
  · omega
theorem DoneE_spec (j : Coast) (o : List Int) (hj : Sized j) (ho : o.length ≤ 200) : Spec Try.prog 28 [V.c (.sl 0 j.length), V.c (.sl 21 o.length)] (⟨0, .ro 1, slsC 1 j⟩ :: ⟨21, .ro 0, o.map C.i⟩ :: entC 1 j) 32 (fun v L' _ => rowsR 35 rowE (List.map C.i) List.length [] (doneR j o) (ordE j o) v L') := by
  by_cases h : ordE j o = 0
  · obtain ⟨hv, hi⟩ := ordE_zero h
    simp only [doneR, h, if_true]
    exact Done_spec j o hj ho hv hi
  · have hj20 := hj.len
    have hO := hasO0 (o := o) hj
    simp only [doneR, if_neg h]
    cases hv : validL j with
    | true =>
      cases hi : isOrdB j o with
      | true => exact absurd (by simp [ordE, hv, hi]) h
      | false =>
        simp only [ordE, hv, hi, if_true, Bool.false_eq_true, if_false]
        refine Spec.of tok Try.func28 rfl rfl rfl fun n0 cx => vc_ok tok ?_
        repeat ((conv => whnf); first
            | (refine And.intro (by first | omega | exact Nat.le_of_ble_eq_true rfl | (dsimp only [inK]; omega) | (simp only [mulS_eq]; omega) | (simp only [mulS_eq, setL_length]; omega) | (simp only [setL_length, List.length_map]; omega) | exact ⟨by omega, by omega, by first | exact Nat.le_of_ble_eq_true rfl | (dsimp only; omega) | (simp only [setL_length]; omega) | (simp only [setL_length, List.length_map]; omega)⟩ | exact ⟨by omega, by first | rfl | omega, by omega, Nat.le_of_ble_eq_true rfl, Nat.le_of_ble_eq_true rfl⟩ | exact ⟨rfl, rfl, rfl, Nat.le_of_ble_eq_true rfl, by first | rfl | omega | exact Nat.le_of_ble_eq_true rfl | (dsimp only; omega) | (simp; done) | (simp; omega), by first | rfl | omega | exact Nat.le_of_ble_eq_true rfl | (dsimp only; omega) | (simp; done) | (simp; omega), by omega, Nat.le_of_ble_eq_true rfl⟩ | exact Eq.refl true) ?_)
            | (refine Exists.intro _ (And.intro rfl ?_))
            | (refine And.intro (And.intro rfl (chk_rowI _ _ _ _)) ?_)
            | (refine br_t (by omega) ?_)
            | (refine br_f (by omega) ?_)
            | (refine bs_t (by omega) ?_)
            | (refine bs_f (by omega) ?_)
            | (refine fun (K' : K3) hK' => ?_)
            | (refine hK' _ _ _ ?_; clear hK' K')
            | (refine CallM.eq (by kernel_rfl) (ordered_spec j o hj ho _ _ hO) ?_)
            | (refine draw_auto tok mixed (by kernel_rfl) ?_)
            | (rw [hv])
            | (rw [hi])
            | (refine bs_bt (Eq.refl true) ?_)
            | (refine bs_bf (Eq.refl false) ?_)
            | (refine br_bt (Eq.refl true) ?_)
            | (refine br_bf (Eq.refl false) ?_)
            | (refine CallK.m ?_)
            | (refine And.intro (And.intro rfl rfl) ?_))
        exact .inl ⟨rfl, rfl⟩
    | false =>
      simp only [ordE, hv, Bool.false_eq_true, if_false]
      refine Spec.of tok Try.func28 rfl rfl rfl fun n0 cx => vc_ok tok ?_
      repeat ((conv => whnf); first
          | (refine And.intro (by first | omega | exact Nat.le_of_ble_eq_true rfl | (dsimp only [inK]; omega) | (simp only [mulS_eq]; omega) | (simp only [mulS_eq, setL_length]; omega) | (simp only [setL_length, List.length_map]; omega) | exact ⟨by omega, by omega, by first | exact Nat.le_of_ble_eq_true rfl | (dsimp only; omega) | (simp only [setL_length]; omega) | (simp only [setL_length, List.length_map]; omega)⟩ | exact ⟨by omega, by first | rfl | omega, by omega, Nat.le_of_ble_eq_true rfl, Nat.le_of_ble_eq_true rfl⟩ | exact ⟨rfl, rfl, rfl, Nat.le_of_ble_eq_true rfl, by first | rfl | omega | exact Nat.le_of_ble_eq_true rfl | (dsimp only; omega) | (simp; done) | (simp; omega), by first | rfl | omega | exact Nat.le_of_ble_eq_true rfl | (dsimp only; omega) | (simp; done) | (simp; omega), by omega, Nat.le_of_ble_eq_true rfl⟩ | exact Eq.refl true) ?_)
          | (refine Exists.intro _ (And.intro rfl ?_))
          | (refine And.intro (And.intro rfl (chk_rowI _ _ _ _)) ?_)
          | (refine br_t (by omega) ?_)
          | (refine br_f (by omega) ?_)
          | (refine bs_t (by omega) ?_)
          | (refine bs_f (by omega) ?_)
          | (refine fun (K' : K3) hK' => ?_)
          | (refine hK' _ _ _ ?_; clear hK' K')
          | (refine CallM.eq (by kernel_rfl) (ordered_spec j o hj ho _ _ hO) ?_)
          | (refine draw_auto tok mixed (by kernel_rfl) ?_)
          | (rw [hv])
          | (refine bs_bt (Eq.refl true) ?_)
          | (refine bs_bf (Eq.refl false) ?_)
          | (refine br_bt (Eq.refl true) ?_)
          | (refine br_bf (Eq.refl false) ?_)
          | (refine CallK.m ?_)
          | (refine And.intro (And.intro rfl rfl) ?_))
      exact .inl ⟨rfl, rfl⟩
theorem asked_val {j : Coast} {o : List Int} : (if validL j then (if risOrdB j o then (0 : Int) else 61) else 60) = ordE j o := by
  unfold ordE
  cases hv : validL j with
  | true => rw [ris_eq (by have := validL_many hv; omega)]
  | false => rfl
theorem rDoneE_spec (j : Coast) (o : List Int) (hj : Sized j) (ho : o.length ≤ 200) : Spec Try.prog 29 [V.c (.sl 0 j.length), V.c (.sl 21 o.length)] (⟨0, .ro 1, slsC 1 j⟩ :: ⟨21, .ro 0, o.map C.i⟩ :: entC 1 j) 32 (fun v L' _ => rowsR 35 rowE (List.map C.i) List.length [] (doneR j o) (ordE j o) v L') := by
  by_cases h : ordE j o = 0
  · obtain ⟨hv, hi⟩ := ordE_zero h
    simp only [doneR, h, if_true]
    exact rDone_spec j o hj ho hv hi
  · have hj20 := hj.len
    have hA := asked_spec j o hj ho
    rw [asked_val] at hA
    simp only [doneR, if_neg h]
    refine Spec.of tok Try.func29 rfl rfl rfl fun n0 cx => vc_ok tok ?_
    repeat ((conv => whnf); first
        | (refine And.intro (by first | omega | exact Nat.le_of_ble_eq_true rfl | (dsimp only [inK]; omega) | (simp only [mulS_eq]; omega) | (simp only [mulS_eq, setL_length]; omega) | (simp only [setL_length, List.length_map]; omega) | exact ⟨by omega, by omega, by first | exact Nat.le_of_ble_eq_true rfl | (dsimp only; omega) | (simp only [setL_length]; omega) | (simp only [setL_length, List.length_map]; omega)⟩ | exact ⟨by omega, by first | rfl | omega, by omega, Nat.le_of_ble_eq_true rfl, Nat.le_of_ble_eq_true rfl⟩ | exact ⟨rfl, rfl, rfl, Nat.le_of_ble_eq_true rfl, by first | rfl | omega | exact Nat.le_of_ble_eq_true rfl | (dsimp only; omega) | (simp; done) | (simp; omega), by first | rfl | omega | exact Nat.le_of_ble_eq_true rfl | (dsimp only; omega) | (simp; done) | (simp; omega), by omega, Nat.le_of_ble_eq_true rfl⟩ | exact Eq.refl true) ?_)
        | (refine Exists.intro _ (And.intro rfl ?_))
        | (refine And.intro (And.intro rfl (chk_rowI _ _ _ _)) ?_)
        | (refine br_t (by omega) ?_)
        | (refine br_f (by omega) ?_)
        | (refine bs_t (by omega) ?_)
        | (refine bs_f (by omega) ?_)
        | (refine fun (K' : K3) hK' => ?_)
        | (refine hK' _ _ _ ?_; clear hK' K')
        | (refine draw_auto tok mixed (by kernel_rfl) ?_)
        | (refine CallK.val (R := []) hA (by kernel_rfl) rfl (by simp [V.wf, A.wf, C.wf]) (HasO.ro ⟨⟨rfl, fun k hk => by (repeat (first | rw [find_skip (by omega)] | rw [find_hi (by omega) (by rfl)])); exact entC_find hk⟩, rfl⟩ hj) (injO hj) rfl trivial ?_)
        | (refine br_t h ?_)
        | (refine bs_bt (Eq.refl true) ?_)
        | (refine bs_bf (Eq.refl false) ?_)
        | (refine br_bt (Eq.refl true) ?_)
        | (refine br_bf (Eq.refl false) ?_)
        | (refine CallK.m ?_)
        | (refine And.intro (And.intro rfl rfl) ?_))
    exact .inl ⟨rfl, rfl⟩
theorem doneL_bd {j : Coast} {o : List Int} (hc : CoastOk j) (ho : OrdOk j o) : ∀ {i : Nat}, i ≤ o.length → ∀ r ∈ doneL j o i, ∀ x ∈ r, 0 ≤ x ∧ x ≤ 10000
  | 0, _, r, hr, x, hx => by
    simp only [doneL, List.mem_replicate] at hr
    rw [hr.2] at hx; cases hx
  | i + 1, hi, r, hr, x, hx => by
    have ih := doneL_bd (i := i) hc ho (by omega)
    simp only [doneL] at hr
    rcases List.mem_or_eq_of_mem_set hr with hr | rfl
    · exact ih r hr x hx
    · rcases List.mem_append.1 hx with hx | hx
      · obtain ⟨_, hb⟩ := ho.beach i (by omega)
        rw [getD_lt (by rw [doneL_len]; exact hb)] at hx
        exact ih _ (List.getElem_mem _) x hx
      · simp only [List.mem_singleton] at hx
        have := hourO_bd hc ho (i + 1) hi
        have := ho.len
        omega
theorem doneL_get {j : Coast} {o : List Int} {i b : Nat} (hb : beachO o i < j.length) : (doneL j o (i + 1)).getD b [] = if b = beachO o i then (doneL j o i).getD b [] ++ [hourO j o (i + 1)] else (doneL j o i).getD b [] := by
  simp only [doneL, List.getD_eq_getElem?_getD, List.getElem?_set]
  by_cases h : b = beachO o i
  · subst h; simp [doneL_len, hb]
  · rw [if_neg (fun e => h e.symm), if_neg h]
theorem find_fam {α : Type} {kd : Kd} {cs : α → List C} {b l : Nat} {D : List α} {B : List E} (h : l < b) : find (famE kd cs b D ++ B) l = find B l :=
  find_app fun e he => by
    have hm : e.lab ∈ (famE kd cs b D).map E.lab := List.mem_map.2 ⟨e, he, rfl⟩
    rw [famE_labs] at hm
    have := List.mem_range'_1.1 hm; omega
theorem getD_appL {α : Type} {l m : List α} {k : Nat} {d : α} (h : k < l.length) : (l ++ m).getD k d = l.getD k d := by
  simp only [List.getD_eq_getElem?_getD]
  rw [List.getElem?_append_left h]
/-- The harm of a beach's jobs, by when they are done. -/
def hrmF (j : Coast) (rows : List (List Int)) (b : Nat) : Nat → Int := fun k => (rows.getD b []).getD k 0 * (jobA j b k).2
theorem done_harm {j : Coast} {o : List Int} (ho : OrdOk j o) : ∀ {i : Nat}, i ≤ o.length → sumZ j.length (fun b => sumZ (cntO o i b) (hrmF j (doneL j o i) b)) = harmO j o i
  | 0, _ => by
    have : sumZ j.length (fun b => sumZ (cntO o 0 b) (hrmF j (doneL j o 0) b)) = sumZ j.length (fun _ => 0) := sumZ_congr fun b _ => by simp [cntO, sumZ]
    rw [this, sumZ_zero]; rfl
  | i + 1, hi => by
    have ih := done_harm (i := i) ho (by omega)
    obtain ⟨h1, h2⟩ := ho.beach i (by omega)
    simp only [harmO]
    rw [← ih]
    refine sumZ_upd (c := beachO o i) h2 ?_ (fun b hb hne => ?_)
    · have hc := cntO_succ (o := o) (i := i) (b := beachO o i) (by omega)
      rw [if_pos h1] at hc
      have hl := doneL_cnt (i := i) ho h2 (by omega)
      rw [hc]
      simp only [sumZ]
      congr 1
      · refine sumZ_congr fun k hk => ?_
        unfold hrmF
        rw [doneL_get h2, if_pos rfl]
        congr 1
        exact getD_appL (by omega)
      · unfold hrmF
        rw [doneL_get h2, if_pos rfl]
        have e : ((doneL j o i).getD (beachO o i) [] ++ [hourO j o (i + 1)]).getD (cntO o i (beachO o i)) 0 = hourO j o (i + 1) := by
          rw [← hl]; simp [List.getD_eq_getElem?_getD]
        rw [e, Int.mul_comm]
        rfl
    · have hc := cntO_succ (o := o) (i := i) (b := b) (by omega)
      rw [if_neg (by omega), Nat.add_zero] at hc
      rw [hc]
      refine sumZ_congr fun k _ => ?_
      unfold hrmF
      rw [doneL_get h2, if_neg hne]
theorem isOrd_cnt {j : Coast} (hm : manyN j j.length ≤ 100) {o : List Int} (hi : isOrdB j o = true) {b : Nat} (hb : b < j.length) : cntO o o.length b = (j.getD b []).length := by
  obtain ⟨o', rfl, h1⟩ := (isOrd_iff hm).1 hi
  have := h1.cnt b hb
  rw [natsC_cnt, natsC_len, List.take_length]; omega
set_option maxHeartbeats 1000000 in
set_option maxRecDepth 100000 in
theorem rharm_spec (j : Coast) (o : List Int) (hj : Sized j) (ho : o.length ≤ 200) (hv : validL j = true) (hi : isOrdB j o = true) : Spec Try.prog 65 [V.c (.sl 0 j.length), V.c (.sl 21 o.length)] (⟨0, .ro 1, slsC 1 j⟩ :: ⟨21, .ro 0, o.map C.i⟩ :: entC 1 j) 32 (Is (V.i (harmO j o o.length))) := by
  have hj20 := hj.len
  have hlen := slsC_len (b := 1) (j := j)
  have hm := validL_many hv
  have hc := validL_coast hj hv
  have hoo := isOrd_ok hi
  have h6 := (validL_len hv).2
  have h12 : ∀ b, b < j.length → (j.getD b []).length ≤ 12 := fun b hb => by have := beach_many hb; omega
  have hD := rDone_spec j o hj ho hv hi
  have hsum := done_harm hoo (Nat.le_refl o.length)
  have hcn : ∀ b, b < j.length → ((doneL j o o.length).getD b []).length = (j.getD b []).length := fun b hb => by rw [doneL_cnt hoo hb (Nat.le_refl _), isOrd_cnt (by omega) hi hb]
  have hdl := doneL_len (j := j) (o := o) (i := o.length)
  have hdb := doneL_bd hc hoo (Nat.le_refl o.length)
  have hsum2 : sumZ j.length (fun b => sumZ (j.getD b []).length (hrmF j (doneL j o o.length) b)) = harmO j o o.length := by
    rw [← hsum]
    exact sumZ_congr fun b hb => by rw [isOrd_cnt (by omega) hi hb]
  rw [← hsum2]
  generalize doneL j o o.length = D at *
  have hbd : ∀ {b k : Nat}, b < j.length → k < (j.getD b []).length → 0 ≤ hrmF j D b k ∧ hrmF j D b k ≤ 1000000 := by
    intro b k hb hk
    have h1 := jobA_bd hc hb hk
    have h2 : 0 ≤ (D.getD b []).getD k 0 ∧ (D.getD b []).getD k 0 ≤ 10000 := by
      have hk' : k < (D.getD b []).length := by rw [hcn b hb]; exact hk
      have hb' : b < D.length := by omega
      have e1 : D.getD b [] = D[b] := getD_lt hb'
      have e2 : (D.getD b []).getD k 0 = (D.getD b [])[k] := getD_lt hk'
      rw [e2]
      refine hdb (D.getD b []) (by rw [e1]; exact List.getElem_mem hb') _ (List.getElem_mem hk')
    exact mul_bd (A := 10000) (B := 100) h2.1 h2.2 h1.2.2.1 h1.2.2.2
  have hbb : ∀ {b : Nat}, b < j.length → 0 ≤ sumZ (j.getD b []).length (hrmF j D b) ∧ sumZ (j.getD b []).length (hrmF j D b) ≤ 12000000 := by
    intro b hb
    have h1 := sumZ_bd (n := (j.getD b []).length) (F := hrmF j D b) (M := 1000000) (fun k hk => hbd hb hk)
    have h2 := small_mul (n := (j.getD b []).length) (N := 12) (M := 1000000) (by have := h12 b hb; omega) (by omega)
    omega
  refine Spec.of tok Try.func65 rfl rfl rfl fun n0 cx => vc_ok tok ?_
  repeat ((conv => whnf); first
      | (refine And.intro (by first | omega | exact Nat.le_of_ble_eq_true rfl | (dsimp only [inK]; omega) | (simp only [mulS_eq]; omega) | (simp only [mulS_eq, setL_length]; omega) | (simp only [setL_length, List.length_map]; omega) | exact ⟨by omega, by omega, by first | exact Nat.le_of_ble_eq_true rfl | (dsimp only; omega) | (simp only [setL_length]; omega) | (simp only [setL_length, List.length_map]; omega)⟩ | exact ⟨by omega, by first | rfl | omega, by omega, Nat.le_of_ble_eq_true rfl, Nat.le_of_ble_eq_true rfl⟩ | exact ⟨rfl, rfl, rfl, Nat.le_of_ble_eq_true rfl, by first | rfl | omega | exact Nat.le_of_ble_eq_true rfl | (dsimp only; omega) | (simp; done) | (simp; omega), by first | rfl | omega | exact Nat.le_of_ble_eq_true rfl | (dsimp only; omega) | (simp; done) | (simp; omega), by omega, Nat.le_of_ble_eq_true rfl⟩ | exact Eq.refl true) ?_)
      | (refine Exists.intro _ (And.intro rfl ?_))
      | (refine And.intro (And.intro rfl (chk_rowI _ _ _ _)) ?_)
      | (refine br_t (by omega) ?_)
      | (refine br_f (by omega) ?_)
      | (refine bs_t (by omega) ?_)
      | (refine bs_f (by omega) ?_)
      | (refine fun (K' : K3) hK' => ?_)
      | (refine hK' _ _ _ ?_; clear hK' K')
      | (refine CallM.rows (d := []) (R := []) 40 (by omega) plain_ints (fun p x => chk_ints p x) rfl (fun e => by cases e) (by omega) hD (by kernel_rfl) rfl (by simp [V.wf, A.wf, C.wf]) (HasO.ro ⟨⟨rfl, fun k hk => by (repeat (first | rw [find_skip (by omega)] | rw [find_hi (by omega) (by rfl)])); exact entC_find hk⟩, rfl⟩ hj) (injO hj) ?_)
      | (refine draw_auto tok mixed (by kernel_rfl) ?_)
      | (refine bs_bt (Eq.refl true) ?_)
      | (refine bs_bf (Eq.refl false) ?_)
      | (refine br_bt (Eq.refl true) ?_)
      | (refine br_bf (Eq.refl false) ?_)
      | (refine CallK.m ?_)
      | (refine And.intro (And.intro rfl rfl) ?_))
  refine Tri.loop (γ := Nat) (fun b => b ≤ j.length) (fun b => [(0, V.c (.sl 0 j.length)), (5, V.c (.sl 32 D.length)), (7, V.i (sumZ b fun b => sumZ (j.getD b []).length (hrmF j D b))), (8, V.i (b : Nat))])
    (fun b => ⟨32, .vec 35 1, famS List.length 40 D⟩ :: ⟨0, .ro 1, slsC 1 j⟩ :: ⟨21, .ro 0, o.map C.i⟩ :: (famE rowE (List.map C.i) 40 D ++ entC 1 j)) 60 (fun b => j.length - b) 0 (R0 := []) ?_ ?_ ?_
  · omega
  · have hR : ∀ l, l < 40 → renL [] l = some l := fun l hl => rfl
    refine ⟨?_, ?_, inj_nil (p := [_, _, _]) (tail_fam (by omega) hj20) rfl (by simp), rfl, by first | exact Nat.le_of_ble_eq_true rfl | omega⟩
    · repeat (first | exact trivial | refine And.intro (covS_syn (by first | rfl | exact (rsl (hR _ (Nat.le_of_ble_eq_true rfl))).symm | exact (rptr (hR _ (Nat.le_of_ble_eq_true rfl))).symm) rfl (by first | exact trivial | exact Nat.le_of_ble_eq_true rfl | exact hy)) ?_)
    · repeat (first | (exact covL_app (cov_all (d := []) plain_ints (by omega) (fun i hi => rfl) (fun i hi => by rw [find_skip (by omega)]; exact find_app_some (famE_find hi))) (cov_ent (fun k hk => rfl) (by omega) (fun k hk => by rw [find_skip (by omega), find_fam (by omega), find_skip (by omega), find_skip (by omega)]; exact entC_find hk))) | (refine And.intro (covE_some rfl (Nat.le_of_ble_eq_true rfl) (wf_sls _ _ _ (by omega)) (by rw [find_skip (by simp only; omega), find_fam (by simp only; omega)]; rfl) (ren_sls_of (fun l hl => hR l (by omega)) (by omega))) ?_) | (refine And.intro (covE_some rfl (Nat.le_of_ble_eq_true rfl) (wf_ints _ _) (by rw [find_skip (by simp only; omega), find_fam (by simp only; omega)]; rfl) (ren_ints _ _)) ?_) | refine And.intro (covE_some (hR _ (Nat.le_of_ble_eq_true rfl)) (Nat.le_of_ble_eq_true rfl) (by first | exact wf_ints _ _ | exact wf_bools _ _ | first | first | exact wf_sls _ _ _ (by omega) | exact wf_jobs _ _ | exact wf_famS _ _ _ (by omega) | simp [C.wf]) rfl (by first | exact ren_ints _ _ | exact ren_sls_of (fun l hl => hR l (by omega)) (by omega) | exact ren_sl1 (hR _ (Nat.le_of_ble_eq_true rfl)) | (exact seqO_id) | rfl)) ?_)
  · intro b hb
    refine vc_ok tok ?_
    have hR : ∀ l, l < 40 → renL [] l = some l := fun l hl => rfl
    have hT := tail_fam (kd := rowE) (cs := List.map C.i) (l := D) (j := j) (by omega) hj20
    have hfl : (famS List.length 40 D).length = j.length := by simp [hdl]
    by_cases hlt : b < j.length
    · have hjl := jobC_len (j.getD b [])
      have hcb := hcn b hlt
      have hb12 := h12 b hlt
      have b1 := sumZ_bd (n := b) (F := fun b => sumZ (j.getD b []).length (hrmF j D b)) (M := 12000000) (fun c hcb => hbb (by omega))
      have b1' := small_mul (n := b) (N := 6) (M := 12000000) (by omega) (by omega)
      repeat ((conv => whnf); first
          | (refine And.intro (by first | omega | exact Nat.le_of_ble_eq_true rfl | (dsimp only [inK]; omega) | (simp only [mulS_eq]; omega) | (simp only [mulS_eq, setL_length]; omega) | (simp only [setL_length, List.length_map]; omega) | exact ⟨by omega, by omega, by first | exact Nat.le_of_ble_eq_true rfl | (dsimp only; omega) | (simp only [setL_length]; omega) | (simp only [setL_length, List.length_map]; omega)⟩ | exact ⟨by omega, by first | rfl | omega, by omega, Nat.le_of_ble_eq_true rfl, Nat.le_of_ble_eq_true rfl⟩ | exact ⟨rfl, rfl, rfl, Nat.le_of_ble_eq_true rfl, by first | rfl | omega | exact Nat.le_of_ble_eq_true rfl | (dsimp only; omega) | (simp; done) | (simp; omega), by first | rfl | omega | exact Nat.le_of_ble_eq_true rfl | (dsimp only; omega) | (simp; done) | (simp; omega), by omega, Nat.le_of_ble_eq_true rfl⟩ | exact Eq.refl true) ?_)
          | (refine Exists.intro _ (And.intro rfl ?_))
          | (refine And.intro (And.intro rfl (chk_rowI _ _ _ _)) ?_)
          | (refine br_t (by omega) ?_)
          | (refine br_f (by omega) ?_)
          | (refine bs_t (by omega) ?_)
          | (refine bs_f (by omega) ?_)
          | (refine fun (K' : K3) hK' => ?_)
          | (refine hK' _ _ _ ?_; clear hK' K')
          | (refine draw_auto tok mixed (by kernel_rfl) ?_)
          | (refine bs_bt (Eq.refl true) ?_)
          | (refine bs_bf (Eq.refl false) ?_)
          | (refine br_bt (Eq.refl true) ?_)
          | (refine br_bf (Eq.refl false) ?_)
          | (refine CallK.m ?_)
          | (refine And.intro (And.intro rfl rfl) ?_))
      refine Tri.loop (γ := Nat) (fun i => i ≤ (j.getD b []).length) (fun i => [(0, V.c (.sl 0 j.length)), (5, V.c (.sl 32 D.length)), (7, V.i (sumZ b (fun b => sumZ (j.getD b []).length (hrmF j D b)) + sumZ i (hrmF j D b))), (8, V.i (b : Nat)), (9, V.i (i : Nat))])
        (fun i => ⟨32, .vec 35 1, famS List.length 40 D⟩ :: ⟨0, .ro 1, slsC 1 j⟩ :: ⟨21, .ro 0, o.map C.i⟩ :: (famE rowE (List.map C.i) 40 D ++ entC 1 j)) 60 (fun i => (j.getD b []).length - i) 0 (R0 := []) ?_ ?_ ?_
      · omega
      · skip
        refine ⟨?_, ?_, inj_nil (p := [_, _, _]) hT rfl (by simp), rfl, by first | exact Nat.le_of_ble_eq_true rfl | omega⟩
        · repeat (first | exact trivial | refine And.intro (covS_syn (by first | rfl | exact (rsl (hR _ (Nat.le_of_ble_eq_true rfl))).symm | exact (rptr (hR _ (Nat.le_of_ble_eq_true rfl))).symm | (refine congrArg some (congrArg V.i ?_); exact (Int.add_zero _).symm)) rfl (by first | exact trivial | exact Nat.le_of_ble_eq_true rfl | exact hy)) ?_)
        · repeat (first | (exact covL_app (cov_all (d := []) plain_ints (by omega) (fun i hi => rfl) (fun i hi => by (try simp only [flatN]); (repeat rw [find_skip (by omega)]); exact tail_row hi)) (cov_ent (fun k hk => rfl) (by omega) (fun k hk => by (try simp only [flatN]); (repeat rw [find_skip (by omega)]); exact tail_be hk hj20))) | refine And.intro (covE_some (hR _ (Nat.le_of_ble_eq_true rfl)) (Nat.le_of_ble_eq_true rfl) (by first | exact wf_ints _ _ | exact wf_bools _ _ | first | first | exact wf_sls _ _ _ (by omega) | exact wf_jobs _ _ | exact wf_famS _ _ _ (by omega) | simp [C.wf]) rfl (by first | exact ren_ints _ _ | exact ren_sls_of (fun l hl => hR l (by omega)) (by omega) | exact ren_sl1 (hR _ (Nat.le_of_ble_eq_true rfl)) | (exact seqO_id) | rfl)) ?_)
      · intro i hi
        refine vc_ok tok ?_
        by_cases hil : i < (j.getD b []).length
        · have b2 := sumZ_bd (n := i) (F := hrmF j D b) (M := 1000000) (fun c hcb => hbd hlt (by omega))
          have b2' := small_mul (n := i) (N := 12) (M := 1000000) (by omega) (by omega)
          have b3 : 0 ≤ (D.getD b []).getD i 0 * ((j.getD b []).getD i (0, 0)).2 ∧ (D.getD b []).getD i 0 * ((j.getD b []).getD i (0, 0)).2 ≤ 1000000 := hbd hlt hil
          have hDl : ((D.getD b []).map C.i).length = (j.getD b []).length := by rw [List.length_map, hcb]
          repeat ((conv => whnf); first
              | (refine And.intro (by first | omega | exact Nat.le_of_ble_eq_true rfl | (dsimp only [inK]; omega) | (simp only [mulS_eq]; omega) | (simp only [mulS_eq, setL_length]; omega) | (simp only [setL_length, List.length_map]; omega) | exact ⟨by omega, by omega, by first | exact Nat.le_of_ble_eq_true rfl | (dsimp only; omega) | (simp only [setL_length]; omega) | (simp only [setL_length, List.length_map]; omega)⟩ | exact ⟨by omega, by first | rfl | omega, by omega, Nat.le_of_ble_eq_true rfl, Nat.le_of_ble_eq_true rfl⟩ | exact ⟨rfl, rfl, rfl, Nat.le_of_ble_eq_true rfl, by first | rfl | omega | exact Nat.le_of_ble_eq_true rfl | (dsimp only; omega) | (simp; done) | (simp; omega), by first | rfl | omega | exact Nat.le_of_ble_eq_true rfl | (dsimp only; omega) | (simp; done) | (simp; omega), by omega, Nat.le_of_ble_eq_true rfl⟩ | exact Eq.refl true) ?_)
              | (with_reducible refine ld (slL hlt) ?_)
              | (with_reducible refine ld (famL (d := []) rfl (show b < D.length by omega)) ?_)
              | (with_reducible refine ld (intL (show i < (D.getD b []).length by omega)) ?_)
              | (with_reducible refine ld (jobL1 hil) ?_)
              | (refine Exists.intro _ (And.intro rfl ?_))
              | (refine And.intro (And.intro rfl (chk_rowI _ _ _ _)) ?_)
              | (refine br_t (by omega) ?_)
              | (refine br_f (by omega) ?_)
              | (refine bs_t (by omega) ?_)
              | (refine bs_f (by omega) ?_)
              | (refine fun (K' : K3) hK' => ?_)
              | (refine hK' _ _ _ ?_; clear hK' K')
              | (refine draw_auto tok mixed (by kernel_rfl) ?_)
              | (refine onV_ld (c := ⟨b + 40, rowE, (D.getD b []).map C.i⟩) (by (try (conv => lhs; arg 1; whnf)); (repeat rw [find_skip (by omega)]); exact tail_row (by omega)) ?_)
              | (refine onV_ld (c := ⟨1 + b, .ro 2, jobC (j.getD b [])⟩) (by (try (conv => lhs; arg 1; whnf)); (repeat rw [find_skip (by omega)]); exact tail_be hlt hj20) ?_)
              | (refine bs_bt (Eq.refl true) ?_)
              | (refine bs_bf (Eq.refl false) ?_)
              | (refine br_bt (Eq.refl true) ?_)
              | (refine br_bf (Eq.refl false) ?_)
              | (refine CallK.m ?_)
              | (refine And.intro (And.intro rfl rfl) ?_))
          refine ⟨i + 1, [], by omega, by omega, ?_⟩
          refine ⟨?_, ?_, inj_nil (p := [_, _, _]) hT rfl (by simp), rfl, by first | exact Nat.le_of_ble_eq_true rfl | omega⟩
          · repeat (first | exact trivial | refine And.intro (covS_syn (by first | rfl | exact (rsl (hR _ (Nat.le_of_ble_eq_true rfl))).symm | exact (rptr (hR _ (Nat.le_of_ble_eq_true rfl))).symm | (refine congrArg some (congrArg V.i ?_); omega) | (refine congrArg some (congrArg V.i ?_); (rw [sumZ, hrmF, ← Int.add_assoc]; rfl))) rfl (by first | exact trivial | exact Nat.le_of_ble_eq_true rfl | exact hy)) ?_)
          · repeat (first | (exact covL_app (cov_all (d := []) plain_ints (by omega) (fun i hi => rfl) (fun i hi => by (try simp only [flatN]); (repeat rw [find_skip (by omega)]); exact tail_row hi)) (cov_ent (fun k hk => rfl) (by omega) (fun k hk => by (try simp only [flatN]); (repeat rw [find_skip (by omega)]); exact tail_be hk hj20))) | refine And.intro (covE_some (hR _ (Nat.le_of_ble_eq_true rfl)) (Nat.le_of_ble_eq_true rfl) (by first | exact wf_ints _ _ | exact wf_bools _ _ | first | first | exact wf_sls _ _ _ (by omega) | exact wf_jobs _ _ | exact wf_famS _ _ _ (by omega) | simp [C.wf]) rfl (by first | exact ren_ints _ _ | exact ren_sls_of (fun l hl => hR l (by omega)) (by omega) | exact ren_sl1 (hR _ (Nat.le_of_ble_eq_true rfl)) | (exact seqO_id) | rfl)) ?_)
        · obtain rfl : i = (j.getD b []).length := by omega
          repeat ((conv => whnf); first
              | (refine And.intro (by first | omega | exact Nat.le_of_ble_eq_true rfl | (dsimp only [inK]; omega) | (simp only [mulS_eq]; omega) | (simp only [mulS_eq, setL_length]; omega) | (simp only [setL_length, List.length_map]; omega) | exact ⟨by omega, by omega, by first | exact Nat.le_of_ble_eq_true rfl | (dsimp only; omega) | (simp only [setL_length]; omega) | (simp only [setL_length, List.length_map]; omega)⟩ | exact ⟨by omega, by first | rfl | omega, by omega, Nat.le_of_ble_eq_true rfl, Nat.le_of_ble_eq_true rfl⟩ | exact ⟨rfl, rfl, rfl, Nat.le_of_ble_eq_true rfl, by first | rfl | omega | exact Nat.le_of_ble_eq_true rfl | (dsimp only; omega) | (simp; done) | (simp; omega), by first | rfl | omega | exact Nat.le_of_ble_eq_true rfl | (dsimp only; omega) | (simp; done) | (simp; omega), by omega, Nat.le_of_ble_eq_true rfl⟩ | exact Eq.refl true) ?_)
              | (with_reducible refine ld (slL hlt) ?_)
              | (refine Exists.intro _ (And.intro rfl ?_))
              | (refine And.intro (And.intro rfl (chk_rowI _ _ _ _)) ?_)
              | (refine br_t (by omega) ?_)
              | (refine br_f (by omega) ?_)
              | (refine bs_t (by omega) ?_)
              | (refine bs_f (by omega) ?_)
              | (refine fun (K' : K3) hK' => ?_)
              | (refine hK' _ _ _ ?_; clear hK' K')
              | (refine draw_auto tok mixed (by kernel_rfl) ?_)
              | (refine bs_bt (Eq.refl true) ?_)
              | (refine bs_bf (Eq.refl false) ?_)
              | (refine br_bt (Eq.refl true) ?_)
              | (refine br_bf (Eq.refl false) ?_)
              | (refine CallK.m ?_)
              | (refine And.intro (And.intro rfl rfl) ?_))
          refine ⟨b + 1, [], by omega, by omega, ?_⟩
          refine ⟨?_, ?_, inj_nil (p := [_, _, _]) hT rfl (by simp), rfl, by first | exact Nat.le_of_ble_eq_true rfl | omega⟩
          · repeat (first | exact trivial | refine And.intro (covS_syn (by first | rfl | exact (rsl (hR _ (Nat.le_of_ble_eq_true rfl))).symm | exact (rptr (hR _ (Nat.le_of_ble_eq_true rfl))).symm | (refine congrArg some (congrArg V.i ?_); omega) | (refine congrArg some (congrArg V.i ?_); rfl)) rfl (by first | exact trivial | exact Nat.le_of_ble_eq_true rfl | exact hy)) ?_)
          · repeat (first | (exact covL_app (cov_all (d := []) plain_ints (by omega) (fun i hi => rfl) (fun i hi => by (try simp only [flatN]); (repeat rw [find_skip (by omega)]); exact tail_row hi)) (cov_ent (fun k hk => rfl) (by omega) (fun k hk => by (try simp only [flatN]); (repeat rw [find_skip (by omega)]); exact tail_be hk hj20))) | refine And.intro (covE_some (hR _ (Nat.le_of_ble_eq_true rfl)) (Nat.le_of_ble_eq_true rfl) (by first | exact wf_ints _ _ | exact wf_bools _ _ | first | first | exact wf_sls _ _ _ (by omega) | exact wf_jobs _ _ | exact wf_famS _ _ _ (by omega) | simp [C.wf]) rfl (by first | exact ren_ints _ _ | exact ren_sls_of (fun l hl => hR l (by omega)) (by omega) | exact ren_sl1 (hR _ (Nat.le_of_ble_eq_true rfl)) | (exact seqO_id) | rfl)) ?_)
    · obtain rfl : b = j.length := by omega
      repeat ((conv => whnf); first
          | (refine And.intro (by first | omega | exact Nat.le_of_ble_eq_true rfl | (dsimp only [inK]; omega) | (simp only [mulS_eq]; omega) | (simp only [mulS_eq, setL_length]; omega) | (simp only [setL_length, List.length_map]; omega) | exact ⟨by omega, by omega, by first | exact Nat.le_of_ble_eq_true rfl | (dsimp only; omega) | (simp only [setL_length]; omega) | (simp only [setL_length, List.length_map]; omega)⟩ | exact ⟨by omega, by first | rfl | omega, by omega, Nat.le_of_ble_eq_true rfl, Nat.le_of_ble_eq_true rfl⟩ | exact ⟨rfl, rfl, rfl, Nat.le_of_ble_eq_true rfl, by first | rfl | omega | exact Nat.le_of_ble_eq_true rfl | (dsimp only; omega) | (simp; done) | (simp; omega), by first | rfl | omega | exact Nat.le_of_ble_eq_true rfl | (dsimp only; omega) | (simp; done) | (simp; omega), by omega, Nat.le_of_ble_eq_true rfl⟩ | exact Eq.refl true) ?_)
          | (refine Exists.intro _ (And.intro rfl ?_))
          | (refine And.intro (And.intro rfl (chk_rowI _ _ _ _)) ?_)
          | (refine br_t (by omega) ?_)
          | (refine br_f (by omega) ?_)
          | (refine bs_t (by omega) ?_)
          | (refine bs_f (by omega) ?_)
          | (refine fun (K' : K3) hK' => ?_)
          | (refine hK' _ _ _ ?_; clear hK' K')
          | (refine draw_auto tok mixed (by kernel_rfl) ?_)
          | (refine bs_bt (Eq.refl true) ?_)
          | (refine bs_bf (Eq.refl false) ?_)
          | (refine br_bt (Eq.refl true) ?_)
          | (refine br_bf (Eq.refl false) ?_)
          | (refine CallK.m ?_)
          | (refine And.intro (And.intro rfl rfl) ?_))
      intro ρ; rfl
theorem rHarmE_spec (j : Coast) (o : List Int) (hj : Sized j) (ho : o.length ≤ 200) : Spec Try.prog 25 [V.c (.sl 0 j.length), V.c (.sl 21 o.length)] (⟨0, .ro 1, slsC 1 j⟩ :: ⟨21, .ro 0, o.map C.i⟩ :: entC 1 j) 32 (Is (numO (validL j) (isOrdB j o) (harmO j o o.length))) := by
  have hj20 := hj.len
  have hA := asked_spec j o hj ho
  rw [asked_val] at hA
  cases hv : validL j with
  | true =>
    cases hi : isOrdB j o with
    | true =>
      have e : ordE j o = 0 := by simp [ordE, hv, hi]
      rw [e] at hA
      refine Spec.of tok Try.func25 rfl rfl rfl fun n0 cx => vc_ok tok ?_
      repeat ((conv => whnf); first
          | (refine And.intro (by first | omega | exact Nat.le_of_ble_eq_true rfl | (dsimp only [inK]; omega) | (simp only [mulS_eq]; omega) | (simp only [mulS_eq, setL_length]; omega) | (simp only [setL_length, List.length_map]; omega) | exact ⟨by omega, by omega, by first | exact Nat.le_of_ble_eq_true rfl | (dsimp only; omega) | (simp only [setL_length]; omega) | (simp only [setL_length, List.length_map]; omega)⟩ | exact ⟨by omega, by first | rfl | omega, by omega, Nat.le_of_ble_eq_true rfl, Nat.le_of_ble_eq_true rfl⟩ | exact ⟨rfl, rfl, rfl, Nat.le_of_ble_eq_true rfl, by first | rfl | omega | exact Nat.le_of_ble_eq_true rfl | (dsimp only; omega) | (simp; done) | (simp; omega), by first | rfl | omega | exact Nat.le_of_ble_eq_true rfl | (dsimp only; omega) | (simp; done) | (simp; omega), by omega, Nat.le_of_ble_eq_true rfl⟩ | exact Eq.refl true) ?_)
          | (refine Exists.intro _ (And.intro rfl ?_))
          | (refine And.intro (And.intro rfl (chk_rowI _ _ _ _)) ?_)
          | (refine br_t (by omega) ?_)
          | (refine br_f (by omega) ?_)
          | (refine bs_t (by omega) ?_)
          | (refine bs_f (by omega) ?_)
          | (refine fun (K' : K3) hK' => ?_)
          | (refine hK' _ _ _ ?_; clear hK' K')
          | (refine draw_auto tok mixed (by kernel_rfl) ?_)
          | (refine CallK.val (R := []) hA (by kernel_rfl) rfl (by simp [V.wf, A.wf, C.wf]) (HasO.ro ⟨⟨rfl, fun k hk => by (repeat (first | rw [find_skip (by omega)] | rw [find_hi (by omega) (by rfl)])); exact entC_find hk⟩, rfl⟩ hj) (injO hj) rfl trivial ?_)
          | (refine CallK.val (R := []) (rharm_spec j o hj ho hv hi) (by kernel_rfl) rfl (by simp [V.wf, A.wf, C.wf]) (HasO.ro ⟨⟨rfl, fun k hk => by (repeat (first | rw [find_skip (by omega)] | rw [find_hi (by omega) (by rfl)])); exact entC_find hk⟩, rfl⟩ hj) (injO hj) rfl trivial ?_)
          | (refine bs_bt (Eq.refl true) ?_)
          | (refine bs_bf (Eq.refl false) ?_)
          | (refine br_bt (Eq.refl true) ?_)
          | (refine br_bf (Eq.refl false) ?_)
          | (refine CallK.m ?_)
          | (refine And.intro (And.intro rfl rfl) ?_))
      intro ρ; rfl
    | false =>
      have e : ordE j o = 61 := by simp [ordE, hv, hi]
      rw [e] at hA
      refine Spec.of tok Try.func25 rfl rfl rfl fun n0 cx => vc_ok tok ?_
      repeat ((conv => whnf); first
          | (refine And.intro (by first | omega | exact Nat.le_of_ble_eq_true rfl | (dsimp only [inK]; omega) | (simp only [mulS_eq]; omega) | (simp only [mulS_eq, setL_length]; omega) | (simp only [setL_length, List.length_map]; omega) | exact ⟨by omega, by omega, by first | exact Nat.le_of_ble_eq_true rfl | (dsimp only; omega) | (simp only [setL_length]; omega) | (simp only [setL_length, List.length_map]; omega)⟩ | exact ⟨by omega, by first | rfl | omega, by omega, Nat.le_of_ble_eq_true rfl, Nat.le_of_ble_eq_true rfl⟩ | exact ⟨rfl, rfl, rfl, Nat.le_of_ble_eq_true rfl, by first | rfl | omega | exact Nat.le_of_ble_eq_true rfl | (dsimp only; omega) | (simp; done) | (simp; omega), by first | rfl | omega | exact Nat.le_of_ble_eq_true rfl | (dsimp only; omega) | (simp; done) | (simp; omega), by omega, Nat.le_of_ble_eq_true rfl⟩ | exact Eq.refl true) ?_)
          | (refine Exists.intro _ (And.intro rfl ?_))
          | (refine And.intro (And.intro rfl (chk_rowI _ _ _ _)) ?_)
          | (refine br_t (by omega) ?_)
          | (refine br_f (by omega) ?_)
          | (refine bs_t (by omega) ?_)
          | (refine bs_f (by omega) ?_)
          | (refine fun (K' : K3) hK' => ?_)
          | (refine hK' _ _ _ ?_; clear hK' K')
          | (refine draw_auto tok mixed (by kernel_rfl) ?_)
          | (refine CallK.val (R := []) hA (by kernel_rfl) rfl (by simp [V.wf, A.wf, C.wf]) (HasO.ro ⟨⟨rfl, fun k hk => by (repeat (first | rw [find_skip (by omega)] | rw [find_hi (by omega) (by rfl)])); exact entC_find hk⟩, rfl⟩ hj) (injO hj) rfl trivial ?_)
          | (refine bs_bt (Eq.refl true) ?_)
          | (refine bs_bf (Eq.refl false) ?_)
          | (refine br_bt (Eq.refl true) ?_)
          | (refine br_bf (Eq.refl false) ?_)
          | (refine CallK.m ?_)
          | (refine And.intro (And.intro rfl rfl) ?_))
      intro ρ; rfl
  | false =>
    have e : ordE j o = 60 := by simp [ordE, hv]
    rw [e] at hA
    refine Spec.of tok Try.func25 rfl rfl rfl fun n0 cx => vc_ok tok ?_
    repeat ((conv => whnf); first
        | (refine And.intro (by first | omega | exact Nat.le_of_ble_eq_true rfl | (dsimp only [inK]; omega) | (simp only [mulS_eq]; omega) | (simp only [mulS_eq, setL_length]; omega) | (simp only [setL_length, List.length_map]; omega) | exact ⟨by omega, by omega, by first | exact Nat.le_of_ble_eq_true rfl | (dsimp only; omega) | (simp only [setL_length]; omega) | (simp only [setL_length, List.length_map]; omega)⟩ | exact ⟨by omega, by first | rfl | omega, by omega, Nat.le_of_ble_eq_true rfl, Nat.le_of_ble_eq_true rfl⟩ | exact ⟨rfl, rfl, rfl, Nat.le_of_ble_eq_true rfl, by first | rfl | omega | exact Nat.le_of_ble_eq_true rfl | (dsimp only; omega) | (simp; done) | (simp; omega), by first | rfl | omega | exact Nat.le_of_ble_eq_true rfl | (dsimp only; omega) | (simp; done) | (simp; omega), by omega, Nat.le_of_ble_eq_true rfl⟩ | exact Eq.refl true) ?_)
        | (refine Exists.intro _ (And.intro rfl ?_))
        | (refine And.intro (And.intro rfl (chk_rowI _ _ _ _)) ?_)
        | (refine br_t (by omega) ?_)
        | (refine br_f (by omega) ?_)
        | (refine bs_t (by omega) ?_)
        | (refine bs_f (by omega) ?_)
        | (refine fun (K' : K3) hK' => ?_)
        | (refine hK' _ _ _ ?_; clear hK' K')
        | (refine draw_auto tok mixed (by kernel_rfl) ?_)
        | (refine CallK.val (R := []) hA (by kernel_rfl) rfl (by simp [V.wf, A.wf, C.wf]) (HasO.ro ⟨⟨rfl, fun k hk => by (repeat (first | rw [find_skip (by omega)] | rw [find_hi (by omega) (by rfl)])); exact entC_find hk⟩, rfl⟩ hj) (injO hj) rfl trivial ?_)
        | (refine bs_bt (Eq.refl true) ?_)
        | (refine bs_bf (Eq.refl false) ?_)
        | (refine br_bt (Eq.refl true) ?_)
        | (refine br_bf (Eq.refl false) ?_)
        | (refine CallK.m ?_)
        | (refine And.intro (And.intro rfl rfl) ?_))
    intro ρ; rfl
end Go.Proofs.Ytjijjncddjkdlaa

/- Shore: Turned. -/
namespace Go.Proofs.Ytjijjncddjkdlaa
open Go.RowKit
set_option linter.unusedVariables false
set_option linter.unusedSimpArgs false
theorem find_nodup : ∀ {L : List E}, (L.map E.lab).Nodup → ∀ {e : E}, e ∈ L → find L e.lab = some e
  | ⟨lab, kd, cs⟩ :: r, hn, e, he => by
    simp only [List.map_cons, List.nodup_cons] at hn
    rcases List.mem_cons.1 he with rfl | he
    · simp [find]
    · rw [find_skip (fun h => hn.1 (by rw [h]; exact List.mem_map.2 ⟨e, he, rfl⟩))]
      exact find_nodup hn.2 he
/-- A tail whose cells name nothing. -/
def TailPl (T : List E) : Prop := ∀ e ∈ T, (∀ n, ∀ c ∈ e.cs, c.wf n) ∧ ∀ R, seqO (e.cs.map (C.ren R)) = some e.cs
theorem covL_tail {R : Rn} {nx : Nat} {L T : List E} (h : TailOk T) (hp : TailPl T) (hR : ∀ l, l < 60 → renL R l = some l) (hnx : 60 ≤ nx) (hL : ∀ e ∈ T, find L e.lab = find T e.lab) : covL R nx L T := by
  refine covL_all fun e he => ?_
  have hlab := h.lab e he
  exact covE_some (hR _ (by omega)) (by omega) ((hp e he).1 nx) ((hL e he).trans (find_nodup h.nd he)) ((hp e he).2 R)
theorem pl_rm {α : Type} {kd : Kd} {cs : α → List C} {l : List α} {j : Coast} {x : Nat} (d : α) (hp : Plain cs) : TailPl (rmL (famE kd cs 40 l) x ++ entC 1 j) := by
  intro e he
  rcases List.mem_append.1 he with he | he
  · obtain ⟨i, hi, rfl⟩ := famE_mem (d := d) (rm_mem he).1
    exact ⟨fun n => hp.wf n _, fun R => hp.ren R _⟩
  · obtain ⟨i, hi, rfl⟩ := entC_mem he
    exact ⟨fun n => wf_jobs n _, fun R => ren_jobs R _⟩
theorem pl_fam {α : Type} {kd : Kd} {cs : α → List C} {l : List α} {j : Coast} (d : α) (hp : Plain cs) : TailPl (famE kd cs 40 l ++ entC 1 j) := by
  intro e he
  rcases List.mem_append.1 he with he | he
  · obtain ⟨i, hi, rfl⟩ := famE_mem (d := d) he
    exact ⟨fun n => hp.wf n _, fun R => hp.ren R _⟩
  · obtain ⟨i, hi, rfl⟩ := entC_mem he
    exact ⟨fun n => wf_jobs n _, fun R => ren_jobs R _⟩
/-- A slice of the row under another name. -/
theorem famS_re {α : Type} {ln : α → Nat} {x y n : Nat} : ∀ {b k : Nat} {l : List α}, (x < b ∨ b + l.length ≤ x) → k < l.length → seqO (((famS ln b l).set k (.sl x n)).map (C.ren [(x, some y)])) = some ((famS ln b l).set k (.sl y n))
  | b, k, [], _, h => by simp at h
  | b, k, a :: l, hx, h => by
    simp only [List.length_cons] at hx h
    have hrest : ∀ {b : Nat} {l : List α}, (x < b ∨ b + l.length ≤ x) → seqO ((famS ln b l).map (C.ren [(x, some y)])) = some (famS ln b l) := by
      intro b l
      induction l generalizing b with
      | nil => intro _; rfl
      | cons a l ih =>
        intro hx
        simp only [List.length_cons] at hx
        simp only [famS, List.map_cons, C.ren, renL_ne (show x ≠ b by omega), seqO, ih (b := b + 1) (by omega)]
    cases k with
    | zero =>
      simp only [famS, List.set_cons_zero, List.map_cons, C.ren, renL_eq, seqO, hrest (b := b + 1) (l := l) (by omega)]
    | succ k =>
      simp only [famS, List.set_cons_succ, List.map_cons, C.ren, renL_ne (show x ≠ b by omega), seqO, famS_re (b := b + 1) (k := k) (l := l) (x := x) (y := y) (n := n) (by omega) (by omega)]
theorem backJ_spec (lc n nx : Nat) (L : List E) : SpecM Try.prog 75 [V.c (.sl lc n)] L nx (fun v L' nx' => v = V.c (.fn 84 [(nx, 0)]) ∧ L' = ⟨nx, .own 31, [.sl lc n]⟩ :: L ∧ nx' = nx + 1) := by
  refine SpecM.of tok Try.func75 rfl rfl rfl fun n0 cx => vc_ok tok ?_
  repeat ((conv => whnf); first
      | (refine And.intro (by first | omega | exact Nat.le_of_ble_eq_true rfl | (dsimp only [inK]; omega) | (simp only [mulS_eq]; omega) | (simp only [mulS_eq, setL_length]; omega) | (simp only [setL_length, List.length_map]; omega) | exact ⟨by omega, by omega, by first | exact Nat.le_of_ble_eq_true rfl | (dsimp only; omega) | (simp only [setL_length]; omega) | (simp only [setL_length, List.length_map]; omega)⟩ | exact ⟨by omega, by first | rfl | omega, by omega, Nat.le_of_ble_eq_true rfl, Nat.le_of_ble_eq_true rfl⟩ | exact ⟨rfl, rfl, rfl, Nat.le_of_ble_eq_true rfl, by first | rfl | omega | exact Nat.le_of_ble_eq_true rfl | (dsimp only; omega) | (simp; done) | (simp; omega), by first | rfl | omega | exact Nat.le_of_ble_eq_true rfl | (dsimp only; omega) | (simp; done) | (simp; omega), by omega, Nat.le_of_ble_eq_true rfl⟩ | exact Eq.refl true) ?_)
      | (refine Exists.intro _ (And.intro rfl ?_))
      | (refine And.intro (And.intro rfl (chk_rowI _ _ _ _)) ?_)
      | (refine br_t (by omega) ?_)
      | (refine br_f (by omega) ?_)
      | (refine bs_t (by omega) ?_)
      | (refine bs_f (by omega) ?_)
      | (refine fun (K' : K3) hK' => ?_)
      | (refine hK' _ _ _ ?_; clear hK' K')
      | (refine draw_auto tok mixed (by kernel_rfl) ?_)
      | (refine bs_bt (Eq.refl true) ?_)
      | (refine bs_bf (Eq.refl false) ?_)
      | (refine br_bt (Eq.refl true) ?_)
      | (refine br_bf (Eq.refl false) ?_)
      | (refine CallK.m ?_)
      | (refine And.intro (And.intro rfl rfl) ?_))
  exact ⟨rfl, rfl, rfl⟩
def swapJ (x : Job) : Job := (x.2, x.1)
/-- The first m jobs of a beach from behind, with hours and harm exchanged. -/
def tpart (l : List Job) (m : Nat) : List Job := (l.reverse.take m).map swapJ
theorem tpart_len {l : List Job} {m : Nat} (h : m ≤ l.length) : (tpart l m).length = m := by simp [tpart]; omega
theorem tpart_succ {l : List Job} {m : Nat} (h : m < l.length) : tpart l (m + 1) = tpart l m ++ [swapJ (l.getD (l.length - 1 - m) (0, 0))] := by
  unfold tpart
  rw [take_succ_getD (d := (0, 0)) (by rw [List.length_reverse]; exact h), List.map_append]
  congr 2
  rw [getD_lt (by rw [List.length_reverse]; exact h), List.getElem_reverse, getD_lt (by omega)]; rfl
/-- The turned beaches, of the first k. -/
def turnL (j : Coast) (k : Nat) : List (List Job) := (List.range j.length).map fun i => if i < k then tpart (j.getD i []) (j.getD i []).length else []
theorem turnL_len {j : Coast} {k : Nat} : (turnL j k).length = j.length := by simp [turnL]
theorem turnL_get {j : Coast} {k i : Nat} (hi : i < j.length) : (turnL j k).getD i [] = if i < k then tpart (j.getD i []) (j.getD i []).length else [] := by
  simp [turnL, List.getD_eq_getElem?_getD, hi]
theorem turnL_zero {j : Coast} : turnL j 0 = List.replicate j.length [] := by
  apply List.ext_getElem (by simp [turnL])
  intro i h1 h2
  simp [turnL]
theorem turnL_set {j : Coast} {k : Nat} (hk : k < j.length) : (turnL j k).set k (tpart (j.getD k []) (j.getD k []).length) = turnL j (k + 1) := by
  apply List.ext_getElem (by simp [turnL])
  intro i h1 h2
  rw [List.getElem_set]
  simp only [turnL, List.length_map, List.length_range] at h2
  by_cases h : k = i
  · subst h; simp [turnL]
  · rw [if_neg h]
    simp only [turnL, List.getElem_map, List.getElem_range]
    by_cases h2 : i < k
    · rw [if_pos h2, if_pos (by omega)]
    · rw [if_neg h2, if_neg (by omega)]
/-- The jobs turned round. -/
def turnJ (j : Coast) : Coast := turnL j j.length
def harmful (j : Coast) : Bool := j.all fun l => l.all fun x => decide (x.2 ≠ 0)
def turnE (j : Coast) : Int := if validL j then (if harmful j then 0 else 5) else 60
def turnR (j : Coast) : Coast := if turnE j = 0 then turnJ j else []
theorem jobC_app (a b : List Job) : jobC (a ++ b) = jobC a ++ jobC b := by simp [jobC]
theorem harmful_of {j : Coast} (h : ∀ b, b < j.length → ∀ i, i < (j.getD b []).length → (jobA j b i).2 ≠ 0) : harmful j = true := by
  refine List.all_eq_true.2 fun l hl => List.all_eq_true.2 fun x hx => ?_
  obtain ⟨b, hb, rfl⟩ := List.mem_iff_getElem.1 hl
  obtain ⟨i, hi, rfl⟩ := List.mem_iff_getElem.1 hx
  have e : j.getD b [] = j[b] := getD_lt hb
  have := h b hb i (by rw [e]; exact hi)
  unfold jobA at this
  rw [e, getD_lt hi] at this
  simpa using this
theorem harmful_no {j : Coast} {b i : Nat} (hb : b < j.length) (hi : i < (j.getD b []).length) (h : (jobA j b i).2 = 0) : harmful j = false := by
  refine Bool.eq_false_iff.2 fun hh => ?_
  have e : j.getD b [] = j[b] := getD_lt hb
  unfold jobA at h
  rw [e] at hi h
  rw [getD_lt hi] at h
  have h1 := List.all_eq_true.1 hh _ (List.getElem_mem hb)
  have h2 := List.all_eq_true.1 h1 _ (List.getElem_mem hi)
  simp only [decide_eq_true_eq] at h2
  exact h2 h
abbrev rowJ : Kd := .vec 47 2
theorem chk_jobs (p : Nat → Bool) (l : List Job) : (jobC l).all (C.chk p) = true := List.all_eq_true.2 fun c hc => by
  simp only [jobC, List.mem_flatMap] at hc
  obtain ⟨j, _, hc⟩ := hc
  simp at hc
  rcases hc with rfl | rfl <;> rfl
theorem chk_rowJ (p : Nat → Bool) (l : List Job) (x y : Int) (lab : Nat) (kd : Kd) : (([⟨lab, kd, jobC l ++ [C.i x, C.i y]⟩] : List E).all fun e => e.cs.all (C.chk p)) = true := by
  simp only [List.all_cons, List.all_nil, Bool.and_true, List.all_append, chk_jobs, Bool.true_and]
  rfl
set_option maxHeartbeats 2000000 in
set_option maxRecDepth 100000 in
theorem Turned_spec (j : Coast) (hj : Sized j) : Spec Try.prog 42 [V.c (.sl 0 j.length)] (⟨0, .ro 1, slsC 1 j⟩ :: entC 1 j) 32 (fun v L' _ => rowsR 31 rowJ jobC List.length [] (turnR j) (turnE j) v L') := by
  have hj20 := hj.len
  have hlen := slsC_len (b := 1) (j := j)
  have hC : HasC (⟨33, .own 27, [C.i 0]⟩ :: ⟨32, .own 22, [C.nil]⟩ :: ⟨0, .ro 1, slsC 1 j⟩ :: entC 1 j) j := ⟨rfl, fun k hk => by (repeat rw [find_skip (by omega)]); exact entC_find hk⟩
  cases hv : validL j with
  | false =>
    have e : turnE j = 60 := by simp [turnE, hv]
    simp only [turnR, e]
    refine Spec.of tok Try.func42 rfl rfl rfl fun n0 cx => vc_ok tok ?_
    repeat ((conv => whnf); first
        | (refine And.intro (by first | omega | exact Nat.le_of_ble_eq_true rfl | (dsimp only [inK]; omega) | (simp only [mulS_eq]; omega) | (simp only [mulS_eq, setL_length]; omega) | (simp only [setL_length, List.length_map]; omega) | exact ⟨by omega, by omega, by first | exact Nat.le_of_ble_eq_true rfl | (dsimp only; omega) | (simp only [setL_length]; omega) | (simp only [setL_length, List.length_map]; omega)⟩ | exact ⟨by omega, by first | rfl | omega, by omega, Nat.le_of_ble_eq_true rfl, Nat.le_of_ble_eq_true rfl⟩ | exact ⟨rfl, rfl, rfl, Nat.le_of_ble_eq_true rfl, by first | rfl | omega | exact Nat.le_of_ble_eq_true rfl | (dsimp only; omega) | (simp; done) | (simp; omega), by first | rfl | omega | exact Nat.le_of_ble_eq_true rfl | (dsimp only; omega) | (simp; done) | (simp; omega), by omega, Nat.le_of_ble_eq_true rfl⟩ | exact Eq.refl true) ?_)
        | (refine Exists.intro _ (And.intro rfl ?_))
        | (refine And.intro (And.intro rfl (chk_rowI _ _ _ _)) ?_)
        | (refine br_t (by omega) ?_)
        | (refine br_f (by omega) ?_)
        | (refine bs_t (by omega) ?_)
        | (refine bs_f (by omega) ?_)
        | (refine fun (K' : K3) hK' => ?_)
        | (refine hK' _ _ _ ?_; clear hK' K')
        | (refine CallM.eq (by kernel_rfl) (open_spec j hj _ _ hC) ?_)
        | (refine draw_auto tok mixed (by kernel_rfl) ?_)
        | (rw [hv])
        | (with_reducible refine updK_ent (by omega) ?_)
        | (refine bs_bt (Eq.refl true) ?_)
        | (refine bs_bf (Eq.refl false) ?_)
        | (refine br_bt (Eq.refl true) ?_)
        | (refine br_bf (Eq.refl false) ?_)
        | (refine CallK.m ?_)
        | (refine And.intro (And.intro rfl rfl) ?_))
    exact .inl ⟨rfl, rfl⟩
  | true =>
    have hc := validL_coast hj hv
    refine Spec.of tok Try.func42 rfl rfl rfl fun n0 cx => vc_ok tok ?_
    repeat ((conv => whnf); first
        | (refine And.intro (by first | omega | exact Nat.le_of_ble_eq_true rfl | (dsimp only [inK]; omega) | (simp only [mulS_eq]; omega) | (simp only [mulS_eq, setL_length]; omega) | (simp only [setL_length, List.length_map]; omega) | exact ⟨by omega, by omega, by first | exact Nat.le_of_ble_eq_true rfl | (dsimp only; omega) | (simp only [setL_length]; omega) | (simp only [setL_length, List.length_map]; omega)⟩ | exact ⟨by omega, by first | rfl | omega, by omega, Nat.le_of_ble_eq_true rfl, Nat.le_of_ble_eq_true rfl⟩ | exact ⟨rfl, rfl, rfl, Nat.le_of_ble_eq_true rfl, by first | rfl | omega | exact Nat.le_of_ble_eq_true rfl | (dsimp only; omega) | (simp; done) | (simp; omega), by first | rfl | omega | exact Nat.le_of_ble_eq_true rfl | (dsimp only; omega) | (simp; done) | (simp; omega), by omega, Nat.le_of_ble_eq_true rfl⟩ | exact Eq.refl true) ?_)
        | (refine Exists.intro _ (And.intro rfl ?_))
        | (refine And.intro (And.intro rfl (chk_rowI _ _ _ _)) ?_)
        | (refine br_t (by omega) ?_)
        | (refine br_f (by omega) ?_)
        | (refine bs_t (by omega) ?_)
        | (refine bs_f (by omega) ?_)
        | (refine fun (K' : K3) hK' => ?_)
        | (refine hK' _ _ _ ?_; clear hK' K')
        | (refine CallM.eq (by kernel_rfl) (open_spec j hj _ _ hC) ?_)
        | (refine draw_auto tok mixed (by kernel_rfl) ?_)
        | (rw [hv])
        | (with_reducible refine updK_ent (by omega) ?_)
        | (refine bs_bt (Eq.refl true) ?_)
        | (refine bs_bf (Eq.refl false) ?_)
        | (refine br_bt (Eq.refl true) ?_)
        | (refine br_bf (Eq.refl false) ?_)
        | (refine CallK.m ?_)
        | (refine And.intro (And.intro rfl rfl) ?_))
    refine Tri.loop (γ := Nat) (fun b => b ≤ j.length ∧ ∀ c, c < b → ∀ i, i < (j.getD c []).length → (jobA j c i).2 ≠ 0) (fun b => [(2, V.c (.ptr 32 0)), (3, V.c (.ptr 33 0)), (4, V.c (.sl 0 j.length)), (6, V.c (.ptr 35 0)), (22, V.c (.sl 0 j.length)), (23, V.i j.length), (24, V.i (b : Nat))])
      (fun b => ⟨35, .own 22, [.sl 34 j.length]⟩ :: ⟨34, .vec 31 1, famS List.length 40 (turnL j b)⟩ :: ⟨33, .own 27, [C.i 0]⟩ :: ⟨32, .own 22, [C.nil]⟩ :: ⟨0, .ro 1, slsC 1 j⟩ :: (famE rowJ jobC 40 (turnL j b) ++ entC 1 j)) 60 (fun b => j.length - b) 0 (R0 := nones 40 j.length) ?_ ?_ ?_
    · exact ⟨by omega, by omega⟩
    · have hR : ∀ l, l < 40 → renL (nones 40 j.length) l = some l := fun l hl => renL_nones_out (by omega)
      rw [turnL_zero]
      have hrl : (List.replicate j.length ([] : List Job)).length = j.length := List.length_replicate
      refine ⟨?_, ?_, inj_none (p := [_, _, _, _, _]) (tail_fam (by omega) hj20) rfl (by simp), fix_nones (Nat.le_of_ble_eq_true rfl), by first | exact Nat.le_of_ble_eq_true rfl | omega⟩
      · repeat (first | exact trivial | refine And.intro (covS_syn (by first | rfl | exact (rsl (hR _ (Nat.le_of_ble_eq_true rfl))).symm | exact (rptr (hR _ (Nat.le_of_ble_eq_true rfl))).symm) rfl (by first | exact trivial | exact Nat.le_of_ble_eq_true rfl | exact hy)) ?_)
      · repeat (first | (exact covL_app (cov_nones rfl (by omega)) (cov_ent (fun k hk => hR _ (by omega)) (by omega) (fun k hk => by ((try (conv => lhs; arg 1; whnf)); (repeat (first | rw [find_skip (by omega)] | rw [find_hi (by omega) (by rfl)])); exact entC_find hk)))) | refine And.intro (covE_some (hR _ (Nat.le_of_ble_eq_true rfl)) (Nat.le_of_ble_eq_true rfl) (by first | exact wf_ints _ _ | exact wf_bools _ _ | first | first | exact wf_sls _ _ _ (by omega) | exact wf_jobs _ _ | exact wf_famS _ _ _ (by omega) | simp [C.wf]) rfl (by first | exact ren_ints _ _ | exact ren_sls_of (fun l hl => hR l (by omega)) (by omega) | exact ren_sl1 (hR _ (Nat.le_of_ble_eq_true rfl)) | (exact famS_nones rfl) | rfl)) ?_)
    · rintro b ⟨hb, hall⟩
      by_cases hlt : b < j.length
      · have hdl := turnL_len (j := j) (k := b)
        have hrow : (turnL j b).getD b [] = [] := by rw [turnL_get hlt, if_neg (by omega)]
        refine Tri.enter (R := [(39, some (b + 40))]) (nx' := 60) (s' := [(2, V.c (.ptr 32 0)), (3, V.c (.ptr 33 0)), (4, V.c (.sl 0 j.length)), (6, V.c (.ptr 35 0)), (22, V.c (.sl 0 j.length)), (23, V.i j.length), (24, V.i (b : Nat))])
          (L' := ⟨39, rowJ, jobC []⟩ :: ⟨35, .own 22, [.sl 34 j.length]⟩ :: ⟨34, .vec 31 1, (famS List.length 40 (turnL j b)).set b (.sl 39 0)⟩ :: ⟨33, .own 27, [C.i 0]⟩ :: ⟨32, .own 22, [C.nil]⟩ :: ⟨0, .ro 1, slsC 1 j⟩ :: (rmL (famE rowJ jobC 40 (turnL j b)) (b + 40) ++ entC 1 j)) ?_ ?_
        case refine_2 =>
          have hR : ∀ l, l < 39 → renL [(39, some (b + 40))] l = some l := fun l hl => renL_ne (by omega)
          have hwv : ∀ c ∈ (famS List.length 40 (turnL j b)).set b (.sl 39 0), c.wf 60 := by
            intro c hc
            rcases List.mem_or_eq_of_mem_set hc with hc | rfl
            · exact wf_famS _ _ _ (by omega) c hc
            · show 39 < 60; omega
          have hfv := famS_view (ln := List.length) (b := 40) (v := 39) (k := b) (d := []) (fun i => by omega) (show b < (turnL j b).length by omega)
          rw [hrow] at hfv
          have htr := tail_row (kd := rowJ) (cs := jobC) (l := turnL j b) (d := []) (j := j) (i := b) (by omega)
          rw [hrow] at htr
          refine ⟨?_, ?_, inj_view (p := [_, _, _, _, _, _]) (by omega) hj20 (by omega) rfl (by simp), rfl, by first | exact Nat.le_of_ble_eq_true rfl | omega⟩
          · repeat (first | exact trivial | refine And.intro (covS_syn (by first | rfl | exact (rsl (hR _ (Nat.le_of_ble_eq_true rfl))).symm | exact (rptr (hR _ (Nat.le_of_ble_eq_true rfl))).symm) rfl (by first | exact trivial | exact Nat.le_of_ble_eq_true rfl | exact hy)) ?_)
          · repeat (first | (exact covL_app (cov_rm (d := []) plain_jobs (by omega) (fun i hi _ => renL_ne (by omega)) (fun i hi => by (repeat rw [find_skip (by omega)]); exact tail_row hi)) (cov_ent (fun k hk => renL_ne (by omega)) (by omega) (fun k hk => by (repeat rw [find_skip (by omega)]); exact tail_be hk hj20))) | (refine And.intro (covE_some (l := b + 40) rfl (Nat.le_of_ble_eq_true rfl) (wf_jobs _ _) (by (repeat rw [find_skip (by omega)]); exact htr) (ren_jobs _ _)) ?_) | (refine And.intro (covE_some (hR _ (Nat.le_of_ble_eq_true rfl)) (Nat.le_of_ble_eq_true rfl) hwv rfl hfv) ?_) | refine And.intro (covE_some (hR _ (Nat.le_of_ble_eq_true rfl)) (Nat.le_of_ble_eq_true rfl) (by first | exact wf_ints _ _ | exact wf_bools _ _ | first | first | exact wf_sls _ _ _ (by omega) | exact wf_jobs _ _ | exact wf_famS _ _ _ (by omega) | simp [C.wf]) rfl (by first | exact ren_ints _ _ | exact ren_sls_of (fun l hl => hR l (by omega)) (by omega) | exact ren_sl1 (hR _ (Nat.le_of_ble_eq_true rfl)) | (fail) | rfl)) ?_)
        refine vc_ok tok ?_
        have hT := tail_rm (kd := rowJ) (cs := jobC) (l := turnL j b) (j := j) (x := b + 40) (by omega) hj20
        have hjl := jobC_len (j.getD b [])
        have hjb := hc.jobs b hlt
        repeat ((conv => whnf); first
            | (refine And.intro (by first | omega | exact Nat.le_of_ble_eq_true rfl | (dsimp only [inK]; omega) | (simp only [mulS_eq]; omega) | (simp only [mulS_eq, setL_length]; omega) | (simp only [setL_length, List.length_map]; omega) | exact ⟨by omega, by omega, by first | exact Nat.le_of_ble_eq_true rfl | (dsimp only; omega) | (simp only [setL_length]; omega) | (simp only [setL_length, List.length_map]; omega)⟩ | exact ⟨by omega, by first | rfl | omega, by omega, Nat.le_of_ble_eq_true rfl, Nat.le_of_ble_eq_true rfl⟩ | exact ⟨rfl, rfl, rfl, Nat.le_of_ble_eq_true rfl, by first | rfl | omega | exact Nat.le_of_ble_eq_true rfl | (dsimp only; omega) | (simp; done) | (simp; omega), by first | rfl | omega | exact Nat.le_of_ble_eq_true rfl | (dsimp only; omega) | (simp; done) | (simp; omega), by omega, Nat.le_of_ble_eq_true rfl⟩ | exact Eq.refl true) ?_)
            | (with_reducible refine ld (slL hlt) ?_)
            | (refine Exists.intro _ (And.intro rfl ?_))
            | (refine And.intro (And.intro rfl (chk_rowI _ _ _ _)) ?_)
            | (refine br_t (by omega) ?_)
            | (refine br_f (by omega) ?_)
            | (refine bs_t (by omega) ?_)
            | (refine bs_f (by omega) ?_)
            | (refine fun (K' : K3) hK' => ?_)
            | (refine hK' _ _ _ ?_; clear hK' K')
            | (refine CallM.eq (by kernel_rfl) (backJ_spec _ _ _ _) ?_)
            | (refine draw_auto tok mixed (by kernel_rfl) ?_)
            | (with_reducible refine updK_tail hT rfl ?_)
            | (refine bs_bt (Eq.refl true) ?_)
            | (refine bs_bf (Eq.refl false) ?_)
            | (refine br_bt (Eq.refl true) ?_)
            | (refine br_bf (Eq.refl false) ?_)
            | (refine CallK.m ?_)
            | (refine And.intro (And.intro rfl rfl) ?_))
        refine Tri.rangeFunc tok (by exact rfl) (by kernel_rfl) (by exact rfl) (by exact rfl) (by exact rfl) (by exact rfl) (by exact rfl) (by exact rfl) ?_
        intro y cxi oo ob od hy hY
        refine vc_ok tok ?_
        repeat ((conv => whnf); first
            | (refine And.intro (by first | omega | exact Nat.le_of_ble_eq_true rfl | (dsimp only [inK]; omega) | (simp only [mulS_eq]; omega) | (simp only [mulS_eq, setL_length]; omega) | (simp only [setL_length, List.length_map]; omega) | exact ⟨by omega, by omega, by first | exact Nat.le_of_ble_eq_true rfl | (dsimp only; omega) | (simp only [setL_length]; omega) | (simp only [setL_length, List.length_map]; omega)⟩ | exact ⟨by omega, by first | rfl | omega, by omega, Nat.le_of_ble_eq_true rfl, Nat.le_of_ble_eq_true rfl⟩ | exact ⟨rfl, rfl, rfl, Nat.le_of_ble_eq_true rfl, by first | rfl | omega | exact Nat.le_of_ble_eq_true rfl | (dsimp only; omega) | (simp; done) | (simp; omega), by first | rfl | omega | exact Nat.le_of_ble_eq_true rfl | (dsimp only; omega) | (simp; done) | (simp; omega), by omega, Nat.le_of_ble_eq_true rfl⟩ | exact Eq.refl true) ?_)
            | (refine Exists.intro _ (And.intro rfl ?_))
            | (refine And.intro (And.intro rfl (chk_rowI _ _ _ _)) ?_)
            | (refine br_t (by omega) ?_)
            | (refine br_f (by omega) ?_)
            | (refine bs_t (by omega) ?_)
            | (refine bs_f (by omega) ?_)
            | (refine fun (K' : K3) hK' => ?_)
            | (refine hK' _ _ _ ?_; clear hK' K')
            | (refine draw_auto tok mixed (by kernel_rfl) ?_)
            | (with_reducible refine updK_tail hT rfl ?_)
            | (refine bs_bt (Eq.refl true) ?_)
            | (refine bs_bf (Eq.refl false) ?_)
            | (refine br_bt (Eq.refl true) ?_)
            | (refine br_bf (Eq.refl false) ?_)
            | (refine CallK.m ?_)
            | (refine And.intro (And.intro rfl rfl) ?_))
        have hPl := pl_rm (kd := rowJ) (l := turnL j b) (j := j) (x := b + 40) ([] : List Job) plain_jobs
        have hfl : ∀ q, ((famS List.length 40 (turnL j b)).set b (.sl q 0)).length = j.length := fun q => by simp [hdl]
        refine Tri.loop (γ := Nat) (fun m => m ≤ (j.getD b []).length ∧ ∀ i, i < m → (jobA j b ((j.getD b []).length - 1 - i)).2 ≠ 0) (fun m => [(0, V.c (.v y)), (1, V.c (.ptr 61 0)), (3, V.i (((j.getD b []).length : Int) - 1 - m))])
          (fun m => ⟨63, rowJ, jobC (tpart (j.getD b []) m)⟩ :: ⟨62, .obj oo, []⟩ :: ⟨61, .own 31, [.sl (1 + b) (j.getD b []).length]⟩ :: ⟨60, .own 3, [C.i (b : Nat)]⟩ :: ⟨35, .own 22, [.sl 34 j.length]⟩ :: ⟨34, .vec 31 1, (famS List.length 40 (turnL j b)).set b (.sl 63 m)⟩ :: ⟨33, .own 27, [C.i 0]⟩ :: ⟨32, .own 22, [C.nil]⟩ :: ⟨0, .ro 1, slsC 1 j⟩ :: (rmL (famE rowJ jobC 40 (turnL j b)) (b + 40) ++ entC 1 j)) 64 (fun m => (j.getD b []).length - m) 0 (R0 := [(63, some 39)]) ?_ ?_ ?_
        · exact ⟨by omega, by omega⟩
        · have hR : ∀ l, l < 63 → renL [(63, some 39)] l = some l := fun l hl => renL_ne (by omega)
          have hwv : ∀ c ∈ (famS List.length 40 (turnL j b)).set b (.sl 63 0), c.wf 64 := by
            intro c hc
            rcases List.mem_or_eq_of_mem_set hc with hc | rfl
            · exact wf_famS _ _ _ (by omega) c hc
            · show 63 < 64; omega
          refine ⟨?_, ?_, inj_end (p := [_, _, _, _, _, _, _, _, _]) hT rfl (by simp) rfl (by simp), rfl, by first | exact Nat.le_of_ble_eq_true rfl | omega⟩
          · repeat (first | exact trivial | refine And.intro (covS_syn (by first | rfl | exact (rsl (hR _ (Nat.le_of_ble_eq_true rfl))).symm | exact (rptr (hR _ (Nat.le_of_ble_eq_true rfl))).symm | (refine congrArg some (congrArg V.i ?_); omega)) rfl (by first | exact trivial | exact Nat.le_of_ble_eq_true rfl | exact hy)) ?_)
          · repeat (first | (exact covL_tail hT hPl (fun l hl => hR l (by omega)) (by omega) (fun e he => by have := hT.lab e he; (repeat rw [find_skip (by omega)]))) | (refine And.intro (covE_some (l := 39) rfl (Nat.le_of_ble_eq_true rfl) (wf_jobs _ _) rfl (ren_jobs _ _)) ?_) | (refine And.intro (covE_some (hR _ (Nat.le_of_ble_eq_true rfl)) (Nat.le_of_ble_eq_true rfl) hwv rfl (famS_re (by omega) (by omega))) ?_) | (refine And.intro (covE_some (hR _ (Nat.le_of_ble_eq_true rfl)) (Nat.le_of_ble_eq_true rfl) (by intro c hc; simp only [List.mem_singleton] at hc; subst hc; show 1 + b < 64; omega) rfl (ren_sl1 (hR _ (by omega)))) ?_) | refine And.intro (covE_some (hR _ (Nat.le_of_ble_eq_true rfl)) (Nat.le_of_ble_eq_true rfl) (by first | exact wf_ints _ _ | exact wf_bools _ _ | first | first | exact wf_sls _ _ _ (by omega) | exact wf_jobs _ _ | exact wf_famS _ _ _ (by omega) | simp [C.wf]) rfl (by first | exact ren_ints _ _ | exact ren_sls_of (fun l hl => hR l (by omega)) (by omega) | exact ren_sl1 (hR _ (Nat.le_of_ble_eq_true rfl)) | (exact ren_sl1 (hR _ (by omega))) | rfl)) ?_)
        · rintro m ⟨hm, hnz⟩
          refine vc_ok tok ?_
          have hpm := tpart_len hm
          have hplen : (jobC (tpart (j.getD b []) m)).length = 2 * m := by rw [jobC_len, hpm]
          have hfm : ((famS List.length 40 (turnL j b)).set b (.sl 63 m)).length = j.length := by simp [hdl]
          by_cases hmt : m < (j.getD b []).length
          · have hk : (j.getD b []).length - 1 - m < (j.getD b []).length := by omega
            by_cases hz0 : ((j.getD b []).getD ((j.getD b []).length - 1 - m) (0, 0)).2 = 0
            · repeat ((conv => whnf); first
                  | (refine And.intro (by first | omega | exact Nat.le_of_ble_eq_true rfl | (dsimp only [inK]; omega) | (simp only [mulS_eq]; omega) | (simp only [mulS_eq, setL_length]; omega) | (simp only [setL_length, List.length_map]; omega) | exact ⟨by omega, by omega, by first | exact Nat.le_of_ble_eq_true rfl | (dsimp only; omega) | (simp only [setL_length]; omega) | (simp only [setL_length, List.length_map]; omega)⟩ | exact ⟨by omega, by first | rfl | omega, by omega, Nat.le_of_ble_eq_true rfl, Nat.le_of_ble_eq_true rfl⟩ | exact ⟨rfl, rfl, rfl, Nat.le_of_ble_eq_true rfl, by first | rfl | omega | exact Nat.le_of_ble_eq_true rfl | (dsimp only; omega) | (simp; done) | (simp; omega), by first | rfl | omega | exact Nat.le_of_ble_eq_true rfl | (dsimp only; omega) | (simp; done) | (simp; omega), by omega, Nat.le_of_ble_eq_true rfl⟩ | exact Eq.refl true) ?_)
                  | (with_reducible refine ld (jobT (k := (j.getD b []).length - 1 - m) (by omega) hk) ?_)
                  | (refine Exists.intro _ (And.intro rfl ?_))
                  | (refine And.intro (And.intro rfl (chk_rowI _ _ _ _)) ?_)
                  | (refine br_t (by omega) ?_)
                  | (refine br_f (by omega) ?_)
                  | (refine bs_t (by omega) ?_)
                  | (refine bs_f (by omega) ?_)
                  | (refine fun (K' : K3) hK' => ?_)
                  | (refine hK' _ _ _ ?_; clear hK' K')
                  | (refine draw_auto tok mixed (by kernel_rfl) ?_)
                  | (refine onV_ld (c := ⟨1 + b, .ro 2, jobC (j.getD b [])⟩) (by (try (conv => lhs; arg 1; whnf)); (repeat (first | rw [find_skip (by omega)] | rw [find_hi (by omega) (by rfl)])); exact tail_rm_be hlt hj20) ?_)
                  | (with_reducible refine updK_tail hT rfl ?_)
                  | (with_reducible refine rmK_tail hT rfl ?_)
                  | (with_reducible refine visC_tail hT rfl ?_)
                  | (with_reducible refine relC_tail hT rfl ?_)
                  | (with_reducible refine updO_tail hT rfl ?_)
                  | (refine bs_bt (Eq.refl true) ?_)
                  | (refine bs_bf (Eq.refl false) ?_)
                  | (refine br_bt (Eq.refl true) ?_)
                  | (refine br_bf (Eq.refl false) ?_)
                  | (refine CallK.m ?_)
                  | (refine And.intro (And.intro rfl rfl) ?_))
              refine hY _ _ _ _ (Nat.le_of_ble_eq_true rfl) rfl ⟨rfl, trivial⟩ ?_
              intro cxb hcx
              refine vc_ok tok ?_
              repeat ((conv => whnf); first
                  | (refine And.intro (by first | omega | exact Nat.le_of_ble_eq_true rfl | (dsimp only [inK]; omega) | (simp only [mulS_eq]; omega) | (simp only [mulS_eq, setL_length]; omega) | (simp only [setL_length, List.length_map]; omega) | exact ⟨by omega, by omega, by first | exact Nat.le_of_ble_eq_true rfl | (dsimp only; omega) | (simp only [setL_length]; omega) | (simp only [setL_length, List.length_map]; omega)⟩ | exact ⟨by omega, by first | rfl | omega, by omega, Nat.le_of_ble_eq_true rfl, Nat.le_of_ble_eq_true rfl⟩ | exact ⟨rfl, rfl, rfl, Nat.le_of_ble_eq_true rfl, by first | rfl | omega | exact Nat.le_of_ble_eq_true rfl | (dsimp only; omega) | (simp; done) | (simp; omega), by first | rfl | omega | exact Nat.le_of_ble_eq_true rfl | (dsimp only; omega) | (simp; done) | (simp; omega), by omega, Nat.le_of_ble_eq_true rfl⟩ | exact Eq.refl true) ?_)
                  | (refine Exists.intro _ (And.intro rfl ?_))
                  | (refine And.intro (And.intro rfl (chk_rowI _ _ _ _)) ?_)
                  | (refine br_t (by omega) ?_)
                  | (refine br_f (by omega) ?_)
                  | (refine bs_t (by omega) ?_)
                  | (refine bs_f (by omega) ?_)
                  | (refine fun (K' : K3) hK' => ?_)
                  | (refine hK' _ _ _ ?_; clear hK' K')
                  | (refine draw_auto tok mixed (by kernel_rfl) ?_)
                  | (with_reducible refine updK_tail hT rfl ?_)
                  | (with_reducible refine rmK_tail hT rfl ?_)
                  | (with_reducible refine visC_tail hT rfl ?_)
                  | (with_reducible refine relC_tail hT rfl ?_)
                  | (with_reducible refine updO_tail hT rfl ?_)
                  | (refine And.intro (Eq.refl oo) ?_)
                  | (refine bs_bt (Eq.refl true) ?_)
                  | (refine bs_bf (Eq.refl false) ?_)
                  | (refine br_bt (Eq.refl true) ?_)
                  | (refine br_bf (Eq.refl false) ?_)
                  | (refine CallK.m ?_)
                  | (refine And.intro (And.intro rfl rfl) ?_))
              refine vc_ok tok ?_
              repeat ((conv => whnf); first
                  | (refine And.intro (by first | omega | exact Nat.le_of_ble_eq_true rfl | (dsimp only [inK]; omega) | (simp only [mulS_eq]; omega) | (simp only [mulS_eq, setL_length]; omega) | (simp only [setL_length, List.length_map]; omega) | exact ⟨by omega, by omega, by first | exact Nat.le_of_ble_eq_true rfl | (dsimp only; omega) | (simp only [setL_length]; omega) | (simp only [setL_length, List.length_map]; omega)⟩ | exact ⟨by omega, by first | rfl | omega, by omega, Nat.le_of_ble_eq_true rfl, Nat.le_of_ble_eq_true rfl⟩ | exact ⟨rfl, rfl, rfl, Nat.le_of_ble_eq_true rfl, by first | rfl | omega | exact Nat.le_of_ble_eq_true rfl | (dsimp only; omega) | (simp; done) | (simp; omega), by first | rfl | omega | exact Nat.le_of_ble_eq_true rfl | (dsimp only; omega) | (simp; done) | (simp; omega), by omega, Nat.le_of_ble_eq_true rfl⟩ | exact Eq.refl true) ?_)
                  | (refine Exists.intro _ (And.intro rfl ?_))
                  | (refine And.intro (And.intro rfl (chk_rowI _ _ _ _)) ?_)
                  | (refine br_t (by omega) ?_)
                  | (refine br_f (by omega) ?_)
                  | (refine bs_t (by omega) ?_)
                  | (refine bs_f (by omega) ?_)
                  | (refine fun (K' : K3) hK' => ?_)
                  | (refine hK' _ _ _ ?_; clear hK' K')
                  | (refine draw_auto tok mixed (by kernel_rfl) ?_)
                  | (refine br_t hz0 ?_)
                  | (with_reducible refine updK_tail hT rfl ?_)
                  | (with_reducible refine rmK_tail hT rfl ?_)
                  | (with_reducible refine visC_tail hT rfl ?_)
                  | (with_reducible refine relC_tail hT rfl ?_)
                  | (with_reducible refine updO_tail hT rfl ?_)
                  | (refine And.intro (Eq.refl ob) ?_)
                  | (refine bs_bt (Eq.refl true) ?_)
                  | (refine bs_bf (Eq.refl false) ?_)
                  | (refine br_bt (Eq.refl true) ?_)
                  | (refine br_bf (Eq.refl false) ?_)
                  | (refine CallK.m ?_)
                  | (refine And.intro (And.intro rfl rfl) ?_))
              refine Or.inr (Or.inl ?_)
              repeat ((conv => whnf); first
                  | (refine And.intro (by first | omega | exact Nat.le_of_ble_eq_true rfl | (dsimp only [inK]; omega) | (simp only [mulS_eq]; omega) | (simp only [mulS_eq, setL_length]; omega) | (simp only [setL_length, List.length_map]; omega) | exact ⟨by omega, by omega, by first | exact Nat.le_of_ble_eq_true rfl | (dsimp only; omega) | (simp only [setL_length]; omega) | (simp only [setL_length, List.length_map]; omega)⟩ | exact ⟨by omega, by first | rfl | omega, by omega, Nat.le_of_ble_eq_true rfl, Nat.le_of_ble_eq_true rfl⟩ | exact ⟨rfl, rfl, rfl, Nat.le_of_ble_eq_true rfl, by first | rfl | omega | exact Nat.le_of_ble_eq_true rfl | (dsimp only; omega) | (simp; done) | (simp; omega), by first | rfl | omega | exact Nat.le_of_ble_eq_true rfl | (dsimp only; omega) | (simp; done) | (simp; omega), by omega, Nat.le_of_ble_eq_true rfl⟩ | exact Eq.refl true) ?_)
                  | (refine Exists.intro _ (And.intro rfl ?_))
                  | (refine And.intro (And.intro rfl (chk_rowI _ _ _ _)) ?_)
                  | (refine br_t (by omega) ?_)
                  | (refine br_f (by omega) ?_)
                  | (refine bs_t (by omega) ?_)
                  | (refine bs_f (by omega) ?_)
                  | (refine fun (K' : K3) hK' => ?_)
                  | (refine hK' _ _ _ ?_; clear hK' K')
                  | (refine draw_auto tok mixed (by kernel_rfl) ?_)
                  | (refine And.intro (Eq.refl (od Code.ret)) ?_)
                  | (with_reducible refine rmK_tail hT rfl ?_)
                  | (refine bs_bt (Eq.refl true) ?_)
                  | (refine bs_bf (Eq.refl false) ?_)
                  | (refine br_bt (Eq.refl true) ?_)
                  | (refine br_bf (Eq.refl false) ?_)
                  | (refine CallK.m ?_)
                  | (refine And.intro (And.intro rfl rfl) ?_))
              have e5 : turnE j = 5 := by simp [turnE, hv, harmful_no hlt hk hz0]
              simp only [turnR, e5]
              exact ⟨_, rfl, .inl ⟨rfl, rfl⟩⟩
            · repeat ((conv => whnf); first
                  | (refine And.intro (by first | omega | exact Nat.le_of_ble_eq_true rfl | (dsimp only [inK]; omega) | (simp only [mulS_eq]; omega) | (simp only [mulS_eq, setL_length]; omega) | (simp only [setL_length, List.length_map]; omega) | exact ⟨by omega, by omega, by first | exact Nat.le_of_ble_eq_true rfl | (dsimp only; omega) | (simp only [setL_length]; omega) | (simp only [setL_length, List.length_map]; omega)⟩ | exact ⟨by omega, by first | rfl | omega, by omega, Nat.le_of_ble_eq_true rfl, Nat.le_of_ble_eq_true rfl⟩ | exact ⟨rfl, rfl, rfl, Nat.le_of_ble_eq_true rfl, by first | rfl | omega | exact Nat.le_of_ble_eq_true rfl | (dsimp only; omega) | (simp; done) | (simp; omega), by first | rfl | omega | exact Nat.le_of_ble_eq_true rfl | (dsimp only; omega) | (simp; done) | (simp; omega), by omega, Nat.le_of_ble_eq_true rfl⟩ | exact Eq.refl true) ?_)
                  | (with_reducible refine ld (jobT (k := (j.getD b []).length - 1 - m) (by omega) hk) ?_)
                  | (refine Exists.intro _ (And.intro rfl ?_))
                  | (refine And.intro (And.intro rfl (chk_rowI _ _ _ _)) ?_)
                  | (refine br_t (by omega) ?_)
                  | (refine br_f (by omega) ?_)
                  | (refine bs_t (by omega) ?_)
                  | (refine bs_f (by omega) ?_)
                  | (refine fun (K' : K3) hK' => ?_)
                  | (refine hK' _ _ _ ?_; clear hK' K')
                  | (refine draw_auto tok mixed (by kernel_rfl) ?_)
                  | (refine onV_ld (c := ⟨1 + b, .ro 2, jobC (j.getD b [])⟩) (by (try (conv => lhs; arg 1; whnf)); (repeat (first | rw [find_skip (by omega)] | rw [find_hi (by omega) (by rfl)])); exact tail_rm_be hlt hj20) ?_)
                  | (with_reducible refine updK_tail hT rfl ?_)
                  | (with_reducible refine rmK_tail hT rfl ?_)
                  | (with_reducible refine visC_tail hT rfl ?_)
                  | (with_reducible refine relC_tail hT rfl ?_)
                  | (with_reducible refine updO_tail hT rfl ?_)
                  | (refine bs_bt (Eq.refl true) ?_)
                  | (refine bs_bf (Eq.refl false) ?_)
                  | (refine br_bt (Eq.refl true) ?_)
                  | (refine br_bf (Eq.refl false) ?_)
                  | (refine CallK.m ?_)
                  | (refine And.intro (And.intro rfl rfl) ?_))
              refine hY _ _ _ _ (Nat.le_of_ble_eq_true rfl) rfl ⟨rfl, trivial⟩ ?_
              intro cxb hcx
              refine vc_ok tok ?_
              repeat ((conv => whnf); first
                  | (refine And.intro (by first | omega | exact Nat.le_of_ble_eq_true rfl | (dsimp only [inK]; omega) | (simp only [mulS_eq]; omega) | (simp only [mulS_eq, setL_length]; omega) | (simp only [setL_length, List.length_map]; omega) | exact ⟨by omega, by omega, by first | exact Nat.le_of_ble_eq_true rfl | (dsimp only; omega) | (simp only [setL_length]; omega) | (simp only [setL_length, List.length_map]; omega)⟩ | exact ⟨by omega, by first | rfl | omega, by omega, Nat.le_of_ble_eq_true rfl, Nat.le_of_ble_eq_true rfl⟩ | exact ⟨rfl, rfl, rfl, Nat.le_of_ble_eq_true rfl, by first | rfl | omega | exact Nat.le_of_ble_eq_true rfl | (dsimp only; omega) | (simp; done) | (simp; omega), by first | rfl | omega | exact Nat.le_of_ble_eq_true rfl | (dsimp only; omega) | (simp; done) | (simp; omega), by omega, Nat.le_of_ble_eq_true rfl⟩ | exact Eq.refl true) ?_)
                  | (refine Exists.intro _ (And.intro rfl ?_))
                  | (refine And.intro (And.intro rfl (chk_rowI _ _ _ _)) ?_)
                  | (refine br_t (by omega) ?_)
                  | (refine br_f (by omega) ?_)
                  | (refine bs_t (by omega) ?_)
                  | (refine bs_f (by omega) ?_)
                  | (refine fun (K' : K3) hK' => ?_)
                  | (refine hK' _ _ _ ?_; clear hK' K')
                  | (refine draw_auto tok mixed (by kernel_rfl) ?_)
                  | (with_reducible refine updK_tail hT rfl ?_)
                  | (with_reducible refine rmK_tail hT rfl ?_)
                  | (with_reducible refine visC_tail hT rfl ?_)
                  | (with_reducible refine relC_tail hT rfl ?_)
                  | (with_reducible refine updO_tail hT rfl ?_)
                  | (refine And.intro (Eq.refl oo) ?_)
                  | (refine bs_bt (Eq.refl true) ?_)
                  | (refine bs_bf (Eq.refl false) ?_)
                  | (refine br_bt (Eq.refl true) ?_)
                  | (refine br_bf (Eq.refl false) ?_)
                  | (refine CallK.m ?_)
                  | (refine And.intro (And.intro rfl rfl) ?_))
              refine vc_ok tok ?_
              repeat ((conv => whnf); first
                  | (refine And.intro (by first | omega | exact Nat.le_of_ble_eq_true rfl | (dsimp only [inK]; omega) | (simp only [mulS_eq]; omega) | (simp only [mulS_eq, setL_length]; omega) | (simp only [setL_length, List.length_map]; omega) | exact ⟨by omega, by omega, by first | exact Nat.le_of_ble_eq_true rfl | (dsimp only; omega) | (simp only [setL_length]; omega) | (simp only [setL_length, List.length_map]; omega)⟩ | exact ⟨by omega, by first | rfl | omega, by omega, Nat.le_of_ble_eq_true rfl, Nat.le_of_ble_eq_true rfl⟩ | exact ⟨rfl, rfl, rfl, Nat.le_of_ble_eq_true rfl, by first | rfl | omega | exact Nat.le_of_ble_eq_true rfl | (dsimp only; omega) | (simp; done) | (simp; omega), by first | rfl | omega | exact Nat.le_of_ble_eq_true rfl | (dsimp only; omega) | (simp; done) | (simp; omega), by omega, Nat.le_of_ble_eq_true rfl⟩ | exact Eq.refl true) ?_)
                  | (with_reducible refine ld (famV rfl (show b < (turnL j b).length by omega)) ?_)
                  | (refine Exists.intro _ (And.intro rfl ?_))
                  | (refine And.intro (And.intro rfl (chk_rowI _ _ _ _)) ?_)
                  | (refine br_t (by omega) ?_)
                  | (refine br_f (by omega) ?_)
                  | (refine bs_t (by omega) ?_)
                  | (refine bs_f (by omega) ?_)
                  | (refine fun (K' : K3) hK' => ?_)
                  | (refine hK' _ _ _ ?_; clear hK' K')
                  | (refine draw_kill [63] tok mixed (by decide +kernel) ?_)
                  | (refine draw_auto tok mixed (by kernel_rfl) ?_)
                  | (refine br_f hz0 ?_)
                  | (with_reducible refine updK_tail hT rfl ?_)
                  | (with_reducible refine rmK_tail hT rfl ?_)
                  | (with_reducible refine visC_tail hT rfl ?_)
                  | (with_reducible refine relC_tail hT rfl ?_)
                  | (with_reducible refine updO_tail hT rfl ?_)
                  | (refine And.intro (Eq.refl ob) ?_)
                  | (refine And.intro (And.intro rfl (chk_rowJ _ _ _ _ _ _)) ?_)
                  | (refine bs_bt (Eq.refl true) ?_)
                  | (refine bs_bf (Eq.refl false) ?_)
                  | (refine br_bt (Eq.refl true) ?_)
                  | (refine br_bf (Eq.refl false) ?_)
                  | (refine CallK.m ?_)
                  | (refine And.intro (And.intro rfl rfl) ?_))
              have hrw : jobC (tpart (j.getD b []) m) ++ [C.i ((j.getD b []).getD ((j.getD b []).length - 1 - m) (0, 0)).2, C.i ((j.getD b []).getD ((j.getD b []).length - 1 - m) (0, 0)).1] = jobC (tpart (j.getD b []) (m + 1)) := by rw [tpart_succ hmt, jobC_app]; rfl
              have hst : setL ((famS List.length 40 (turnL j b)).set b (.sl 63 m)) (mulS ((b : Nat) : Int).toNat 1) [.sl 66 (m + 1)] = (famS List.length 40 (turnL j b)).set b (.sl 66 (m + 1)) := by
                rw [mulS_eq]; simp only [setL, Int.toNat_natCast, Nat.mul_one, List.set_set]
              have hwv : ∀ c ∈ (famS List.length 40 (turnL j b)).set b (.sl 63 (m + 1)), c.wf 64 := by
                intro c hc
                rcases List.mem_or_eq_of_mem_set hc with hc | rfl
                · exact wf_famS _ _ _ (by omega) c hc
                · show 63 < 64; omega
              refine ⟨m + 1, [(63, some 66)], ⟨by omega, fun i hi => ?_⟩, by omega, ?_⟩
              · by_cases him : i = m
                · subst him; exact hz0
                · exact hnz i (by omega)
              have hR : ∀ l, l < 63 → renL [(63, some 66)] l = some l := fun l hl => renL_ne (by omega)
              refine ⟨?_, ?_, inj_end (p := [_, _, _, _, _, _, _, _, _]) hT rfl (by simp) rfl (by simp), rfl, by first | exact Nat.le_of_ble_eq_true rfl | omega⟩
              · repeat (first | exact trivial | refine And.intro (covS_syn (by first | rfl | exact (rsl (hR _ (Nat.le_of_ble_eq_true rfl))).symm | exact (rptr (hR _ (Nat.le_of_ble_eq_true rfl))).symm | (refine congrArg some (congrArg V.i ?_); omega)) rfl (by first | exact trivial | exact Nat.le_of_ble_eq_true rfl | exact hy)) ?_)
              · repeat (first | (exact covL_tail hT hPl (fun l hl => hR l (by omega)) (by omega) (fun e he => by have := hT.lab e he; (repeat rw [find_skip (by omega)]))) | (refine And.intro (covE_some (l := 66) rfl (Nat.le_of_ble_eq_true rfl) (wf_jobs _ _) (congrArg (fun c => some (E.mk 66 (.vec 47 2) c)) hrw) (ren_jobs _ _)) ?_) | (refine And.intro (covE_some (hR _ (Nat.le_of_ble_eq_true rfl)) (Nat.le_of_ble_eq_true rfl) hwv rfl ((famS_re (by omega) (by omega)).trans (congrArg some hst.symm))) ?_) | (refine And.intro (covE_some (hR _ (Nat.le_of_ble_eq_true rfl)) (Nat.le_of_ble_eq_true rfl) (by intro c hc; simp only [List.mem_singleton] at hc; subst hc; show 1 + b < 64; omega) rfl (ren_sl1 (hR _ (by omega)))) ?_) | refine And.intro (covE_some (hR _ (Nat.le_of_ble_eq_true rfl)) (Nat.le_of_ble_eq_true rfl) (by first | exact wf_ints _ _ | exact wf_bools _ _ | first | first | exact wf_sls _ _ _ (by omega) | exact wf_jobs _ _ | exact wf_famS _ _ _ (by omega) | simp [C.wf]) rfl (by first | exact ren_ints _ _ | exact ren_sls_of (fun l hl => hR l (by omega)) (by omega) | exact ren_sl1 (hR _ (Nat.le_of_ble_eq_true rfl)) | (exact ren_sl1 (hR _ (by omega))) | rfl)) ?_)
          · obtain rfl : m = (j.getD b []).length := by omega
            repeat ((conv => whnf); first
                | (refine And.intro (by first | omega | exact Nat.le_of_ble_eq_true rfl | (dsimp only [inK]; omega) | (simp only [mulS_eq]; omega) | (simp only [mulS_eq, setL_length]; omega) | (simp only [setL_length, List.length_map]; omega) | exact ⟨by omega, by omega, by first | exact Nat.le_of_ble_eq_true rfl | (dsimp only; omega) | (simp only [setL_length]; omega) | (simp only [setL_length, List.length_map]; omega)⟩ | exact ⟨by omega, by first | rfl | omega, by omega, Nat.le_of_ble_eq_true rfl, Nat.le_of_ble_eq_true rfl⟩ | exact ⟨rfl, rfl, rfl, Nat.le_of_ble_eq_true rfl, by first | rfl | omega | exact Nat.le_of_ble_eq_true rfl | (dsimp only; omega) | (simp; done) | (simp; omega), by first | rfl | omega | exact Nat.le_of_ble_eq_true rfl | (dsimp only; omega) | (simp; done) | (simp; omega), by omega, Nat.le_of_ble_eq_true rfl⟩ | exact Eq.refl true) ?_)
                | (refine Exists.intro _ (And.intro rfl ?_))
                | (refine And.intro (And.intro rfl (chk_rowI _ _ _ _)) ?_)
                | (refine br_t (by omega) ?_)
                | (refine br_f (by omega) ?_)
                | (refine bs_t (by omega) ?_)
                | (refine bs_f (by omega) ?_)
                | (refine fun (K' : K3) hK' => ?_)
                | (refine hK' _ _ _ ?_; clear hK' K')
                | (refine draw_auto tok mixed (by kernel_rfl) ?_)
                | (refine bs_bt (Eq.refl true) ?_)
                | (refine bs_bf (Eq.refl false) ?_)
                | (refine br_bt (Eq.refl true) ?_)
                | (refine br_bf (Eq.refl false) ?_)
                | (refine CallK.m ?_)
                | (refine And.intro (And.intro rfl rfl) ?_))
            refine Or.inl ?_
            repeat ((conv => whnf); first
                | (refine And.intro (by first | omega | exact Nat.le_of_ble_eq_true rfl | (dsimp only [inK]; omega) | (simp only [mulS_eq]; omega) | (simp only [mulS_eq, setL_length]; omega) | (simp only [setL_length, List.length_map]; omega) | exact ⟨by omega, by omega, by first | exact Nat.le_of_ble_eq_true rfl | (dsimp only; omega) | (simp only [setL_length]; omega) | (simp only [setL_length, List.length_map]; omega)⟩ | exact ⟨by omega, by first | rfl | omega, by omega, Nat.le_of_ble_eq_true rfl, Nat.le_of_ble_eq_true rfl⟩ | exact ⟨rfl, rfl, rfl, Nat.le_of_ble_eq_true rfl, by first | rfl | omega | exact Nat.le_of_ble_eq_true rfl | (dsimp only; omega) | (simp; done) | (simp; omega), by first | rfl | omega | exact Nat.le_of_ble_eq_true rfl | (dsimp only; omega) | (simp; done) | (simp; omega), by omega, Nat.le_of_ble_eq_true rfl⟩ | exact Eq.refl true) ?_)
                | (refine Exists.intro _ (And.intro rfl ?_))
                | (refine And.intro (And.intro rfl (chk_rowI _ _ _ _)) ?_)
                | (refine br_t (by omega) ?_)
                | (refine br_f (by omega) ?_)
                | (refine bs_t (by omega) ?_)
                | (refine bs_f (by omega) ?_)
                | (refine fun (K' : K3) hK' => ?_)
                | (refine hK' _ _ _ ?_; clear hK' K')
                | (refine draw_auto tok mixed (by kernel_rfl) ?_)
                | (refine And.intro (Eq.refl oo) ?_)
                | (with_reducible refine updK_tail hT rfl ?_)
                | (with_reducible refine rmK_tail hT rfl ?_)
                | (with_reducible refine visC_tail hT rfl ?_)
                | (with_reducible refine relC_tail hT rfl ?_)
                | (with_reducible refine updO_tail hT rfl ?_)
                | (refine bs_bt (Eq.refl true) ?_)
                | (refine bs_bf (Eq.refl false) ?_)
                | (refine br_bt (Eq.refl true) ?_)
                | (refine br_bf (Eq.refl false) ?_)
                | (refine CallK.m ?_)
                | (refine And.intro (And.intro rfl rfl) ?_))
            have hfs := famS_set (ln := List.length) (b := 40) (y := 63) (k := b) (x := tpart (j.getD b []) (j.getD b []).length) (l := turnL j b) (by omega)
            rw [turnL_set hlt, hpm] at hfs
            have hdl1 := turnL_len (j := j) (k := b + 1)
            refine ⟨b + 1, [(b + 40, some 63)], ⟨by omega, fun c hc i hi => ?_⟩, by omega, ?_⟩
            · by_cases hcb : c = b
              · subst hcb
                have := hnz ((j.getD c []).length - 1 - i) (by omega)
                rw [show (j.getD c []).length - 1 - ((j.getD c []).length - 1 - i) = i by omega] at this
                exact this
              · exact hall c (by omega) i hi
            have hR : ∀ l, l < 40 → renL [(b + 40, some 63)] l = some l := fun l hl => renL_ne (by omega)
            refine ⟨?_, ?_, inj_end (p := [_, _, _, _, _]) (tail_fam (by omega) hj20) rfl (by simp) rfl (by simp), (by first | rfl | (simp [fixB, Nat.ble_eq]; omega)), by first | exact Nat.le_of_ble_eq_true rfl | omega⟩
            · repeat (first | exact trivial | refine And.intro (covS_syn (by first | rfl | exact (rsl (hR _ (Nat.le_of_ble_eq_true rfl))).symm | exact (rptr (hR _ (Nat.le_of_ble_eq_true rfl))).symm | (refine congrArg some (congrArg V.i ?_); omega)) rfl (by first | exact trivial | exact Nat.le_of_ble_eq_true rfl | exact hy)) ?_)
            · repeat (first | ((rw [← turnL_set hlt]; exact covL_app (cov_set (d := []) plain_jobs (by omega) rfl (fun i' hi' hne => by (repeat rw [find_skip (by omega)]); exact tail_rm_row hi' hne)) (cov_ent (fun k hk => hR _ (by omega)) (by omega) (fun k hk => by (repeat rw [find_skip (by omega)]); exact tail_rm_be hk hj20)))) | refine And.intro (covE_some (hR _ (Nat.le_of_ble_eq_true rfl)) (Nat.le_of_ble_eq_true rfl) (by first | exact wf_ints _ _ | exact wf_bools _ _ | first | first | exact wf_sls _ _ _ (by omega) | exact wf_jobs _ _ | exact wf_famS _ _ _ (by omega) | simp [C.wf]) rfl (by first | exact ren_ints _ _ | exact ren_sls_of (fun l hl => hR l (by omega)) (by omega) | exact ren_sl1 (hR _ (Nat.le_of_ble_eq_true rfl)) | (exact hfs) | (exact ren_sl1 (hR _ (Nat.le_of_ble_eq_true rfl))) | rfl)) ?_)
      · refine vc_ok tok ?_
        obtain rfl : b = j.length := by omega
        have hT := tail_fam (kd := rowJ) (cs := jobC) (l := turnL j j.length) (j := j) (by rw [turnL_len]; omega) hj20
        have e0 : turnE j = 0 := by simp [turnE, hv, harmful_of hall]
        simp only [turnR, e0, if_true]
        repeat ((conv => whnf); first
            | (refine And.intro (by first | omega | exact Nat.le_of_ble_eq_true rfl | (dsimp only [inK]; omega) | (simp only [mulS_eq]; omega) | (simp only [mulS_eq, setL_length]; omega) | (simp only [setL_length, List.length_map]; omega) | exact ⟨by omega, by omega, by first | exact Nat.le_of_ble_eq_true rfl | (dsimp only; omega) | (simp only [setL_length]; omega) | (simp only [setL_length, List.length_map]; omega)⟩ | exact ⟨by omega, by first | rfl | omega, by omega, Nat.le_of_ble_eq_true rfl, Nat.le_of_ble_eq_true rfl⟩ | exact ⟨rfl, rfl, rfl, Nat.le_of_ble_eq_true rfl, by first | rfl | omega | exact Nat.le_of_ble_eq_true rfl | (dsimp only; omega) | (simp; done) | (simp; omega), by first | rfl | omega | exact Nat.le_of_ble_eq_true rfl | (dsimp only; omega) | (simp; done) | (simp; omega), by omega, Nat.le_of_ble_eq_true rfl⟩ | exact Eq.refl true) ?_)
            | (refine Exists.intro _ (And.intro rfl ?_))
            | (refine And.intro (And.intro rfl (chk_rowI _ _ _ _)) ?_)
            | (refine br_t (by omega) ?_)
            | (refine br_f (by omega) ?_)
            | (refine bs_t (by omega) ?_)
            | (refine bs_f (by omega) ?_)
            | (refine fun (K' : K3) hK' => ?_)
            | (refine hK' _ _ _ ?_; clear hK' K')
            | (refine draw_auto tok mixed (by kernel_rfl) ?_)
            | (with_reducible refine updK_tail hT rfl ?_)
            | (refine bs_bt (Eq.refl true) ?_)
            | (refine bs_bf (Eq.refl false) ?_)
            | (refine br_bt (Eq.refl true) ?_)
            | (refine br_bf (Eq.refl false) ?_)
            | (refine CallK.m ?_)
            | (refine And.intro (And.intro rfl rfl) ?_))
        exact .inr ⟨34, congrArg (C.sl 34) turnL_len.symm, rfl, fun k hk => by (repeat rw [find_skip (by omega)]); exact tail_row hk⟩
end Go.Proofs.Ytjijjncddjkdlaa

/- The pairs' bound is below the harm of each order; jobs turned round have the same harm backwards. Plain law. -/
namespace Go.Proofs.Ytjijjncddjkdlaa
open Go.RowKit
set_option linter.unusedVariables false
set_option linter.unusedSimpArgs false
theorem sum_getD {α : Type} {F : α → Int} {d : α} : ∀ {l : List α}, sumZ l.length (fun i => F (l.getD i d)) = (l.map F).sum := by
  intro l
  have key : ∀ n, n ≤ l.length → sumZ n (fun i => F (l.getD i d)) = ((l.take n).map F).sum := by
    intro n
    induction n with
    | zero => intro _; rfl
    | succ n ih =>
      intro h
      rw [take_succ_getD (d := d) (by omega), List.map_append, List.sum_append]
      simp only [sumZ, ih (by omega)]
      simp
  rw [key l.length (Nat.le_refl _), List.take_length]
theorem sumZ_add {n : Nat} {F G : Nat → Int} : sumZ n (fun i => F i + G i) = sumZ n F + sumZ n G := by
  induction n with
  | zero => rfl
  | succ n ih => simp only [sumZ, ih]; omega
theorem sumZ_comm {n m : Nat} {F : Nat → Nat → Int} : sumZ n (fun i => sumZ m (fun k => F i k)) = sumZ m (fun k => sumZ n (fun i => F i k)) := by
  induction n with
  | zero => simp only [sumZ]; exact sumZ_zero.symm
  | succ n ih => simp only [sumZ, ih, sumZ_add]
def minJ (x y : Job) : Int := if y.1 * x.2 < x.1 * y.2 then y.1 * x.2 else x.1 * y.2
theorem minJ_comm (x y : Job) : minJ x y = minJ y x := by
  unfold minJ
  split <;> split <;> omega
theorem minJ_le (x y : Job) : minJ x y ≤ x.1 * y.2 := by unfold minJ; split <;> omega
def P1 (x : Job) (m : List Job) : Int := (m.map (minJ x)).sum
def PP (l m : List Job) : Int := (l.map fun x => P1 x m).sum
theorem P1_le (x : Job) (m : List Job) : P1 x m ≤ x.1 * wS m := by
  induction m with
  | nil => simp [P1, wS]
  | cons y m ih =>
    have := minJ_le x y
    simp only [P1, List.map_cons, List.sum_cons, wS_cons] at *
    rw [Int.mul_add]; omega
theorem PP_cons (x : Job) (l m : List Job) : PP (x :: l) m = P1 x m + PP l m := by simp [PP]
theorem PP_cons' (l : List Job) (y : Job) (m : List Job) : PP l (y :: m) = P1 y l + PP l m := by
  induction l with
  | nil => simp [PP, P1]
  | cons x l ih =>
    rw [PP_cons, PP_cons, ih]
    simp only [P1, List.map_cons, List.sum_cons]
    rw [minJ_comm x y]; omega
/-- The bound of what is left. -/
def BR (j : Coast) (f : Nat → Nat) : Int := sumZ j.length fun b => costS 0 (remC j f b) + sumZ b fun c => PP (remC j f b) (remC j f c)
theorem tri_same {n c : Nat} {G G' : Nat → Nat → Int} (h : ∀ b d, d < b → b ≠ c → d ≠ c → G b d = G' b d) (hn : n ≤ c) : sumZ n (fun b => sumZ b (G b)) = sumZ n (fun b => sumZ b (G' b)) :=
  sumZ_congr fun b hb => sumZ_congr fun d hd => h b d hd (by omega) (by omega)
theorem tri_diff {c : Nat} {G G' : Nat → Nat → Int} {e : Nat → Int} (h : ∀ b d, d < b → b ≠ c → d ≠ c → G b d = G' b d) (h1 : ∀ d, d < c → G c d = G' c d + e d) (h2 : ∀ b, c < b → G b c = G' b c + e b) : ∀ {n : Nat}, c < n → sumZ n (fun b => sumZ b (G b)) = sumZ n (fun b => sumZ b (G' b)) + sumZ n (fun d => if d = c then 0 else e d)
  | n + 1, hn => by
    simp only [sumZ]
    by_cases hc : c = n
    · subst hc
      rw [tri_same h (Nat.le_refl _), if_pos rfl]
      have e1 : sumZ c (G c) = sumZ c (fun d => G' c d + e d) := sumZ_congr fun d hd => h1 d hd
      have e2 : sumZ c (fun d => if d = c then 0 else e d) = sumZ c e := sumZ_congr fun d hd => by rw [if_neg (by omega)]
      rw [e1, sumZ_add, e2]
      omega
    · have ih := tri_diff h h1 h2 (n := n) (by omega)
      have e1 : sumZ n (G n) = sumZ n (G' n) + e n := sumZ_upd (c := c) (by omega) (h2 n (by omega)) (fun d hd hne => h n d hd (fun e => hc e.symm) hne)
      rw [ih, e1, if_neg (fun e => hc e.symm)]
      omega
theorem wS_nonneg {l : List Job} (h : ∀ x ∈ l, 0 ≤ x.2) : 0 ≤ wS l := by
  induction l with
  | nil => simp [wS]
  | cons x l ih => rw [wS_cons]; have := h x (by simp); have := ih (fun y hy => h y (by simp [hy])); omega
theorem wS_jobsF {j : Coast} : ∀ {o : List Nat} {f : Nat → Nat}, OrdF j f o → wS (jobsF j f o) = sumZ j.length fun b => wS (remC j f b)
  | [], f, ho => by
    have : sumZ j.length (fun b => wS (remC j f b)) = sumZ j.length (fun _ => 0) := sumZ_congr fun b hb => by
      have := ho.remLen hb
      rw [List.count_nil] at this
      rw [List.length_eq_zero_iff.1 this]; rfl
    rw [this, sumZ_zero]; rfl
  | c :: o, f, ho => by
    have ih := wS_jobsF ho.tail
    have hcl := ho.lt c (by simp)
    simp only [jobsF, wS_cons, ih]
    rw [sumZ_upd (F := fun b => wS (remC j f b)) (G := fun b => wS (remC j (upd f c 1) b)) (c := c) (d := ((j.getD c []).getD (f c) (0, 0)).2) hcl]
    · omega
    · rw [ho.head, wS_cons]; omega
    · intro b _ hne
      rw [remC_upd_ne hne]
theorem bound_le {j : Coast} (hp : ∀ c, c < j.length → ∀ x ∈ j.getD c [], 0 ≤ x.1 ∧ 0 ≤ x.2) : ∀ {o : List Nat} {f : Nat → Nat}, OrdF j f o → BR j f ≤ costS 0 (jobsF j f o)
  | [], f, ho => by
    have hnil : ∀ b, b < j.length → remC j f b = [] := fun b hb => by
      have := ho.remLen hb
      rw [List.count_nil] at this
      exact List.length_eq_zero_iff.1 this
    have : BR j f = sumZ j.length (fun _ => 0) := by
      unfold BR
      refine sumZ_congr fun b hb => ?_
      rw [hnil b hb]
      have e : sumZ b (fun c => PP [] (remC j f c)) = sumZ b (fun _ => 0) := sumZ_congr fun c _ => rfl
      rw [e, sumZ_zero]; rfl
    rw [this, sumZ_zero]; simp [jobsF, costS]
  | c :: o, f, ho => by
    have ih := bound_le hp ho.tail
    have hcl := ho.lt c (by simp)
    have hhd := ho.head
    have hw := wS_jobsF ho.tail
    obtain ⟨x, hx⟩ : ∃ x, x = (j.getD c []).getD (f c) (0, 0) := ⟨_, rfl⟩
    rw [← hx] at hhd
    have hx0 : 0 ≤ x.1 ∧ 0 ≤ x.2 := by
      refine hp c hcl x ?_
      have : x ∈ remC j f c := by rw [hhd]; simp
      exact List.mem_of_mem_drop this
    simp only [jobsF, costS]
    rw [← hx]
    rw [show (0 : Int) + x.1 = 0 + x.1 from rfl, costS_shift 0 x.1]
    have hB : BR j f = BR j (upd f c 1) + (x.2 * (0 + x.1) + x.1 * wS (remC j (upd f c 1) c)) + sumZ j.length (fun d => if d = c then 0 else P1 x (remC j f d)) := by
      unfold BR
      rw [sumZ_add, sumZ_add]
      have e1 : sumZ j.length (fun b => costS 0 (remC j f b)) = sumZ j.length (fun b => costS 0 (remC j (upd f c 1) b)) + (x.2 * (0 + x.1) + x.1 * wS (remC j (upd f c 1) c)) := by
        refine sumZ_upd hcl ?_ (fun b _ hne => by rw [remC_upd_ne hne])
        rw [hhd]
        simp only [costS]
        rw [costS_shift 0 x.1]
        omega
      have e2 := tri_diff (n := j.length) (c := c) (G := fun b d => PP (remC j f b) (remC j f d)) (G' := fun b d => PP (remC j (upd f c 1) b) (remC j (upd f c 1) d)) (e := fun d => P1 x (remC j f d))
        (fun b d _ hb hd => by rw [remC_upd_ne hb, remC_upd_ne hd])
        (fun d hd => by rw [hhd, PP_cons, remC_upd_ne (show d ≠ c by omega)]; omega)
        (fun b hb => by rw [hhd, PP_cons', remC_upd_ne (show b ≠ c by omega)]; omega) hcl
      rw [e1, e2]
      omega
    have hP : sumZ j.length (fun d => if d = c then 0 else P1 x (remC j f d)) + x.1 * wS (remC j (upd f c 1) c) ≤ x.1 * sumZ j.length (fun b => wS (remC j (upd f c 1) b)) := by
      have e3 : x.1 * sumZ j.length (fun b => wS (remC j (upd f c 1) b)) = sumZ j.length (fun b => x.1 * wS (remC j (upd f c 1) b)) := by
        generalize j.length = n
        induction n with
        | zero => simp [sumZ]
        | succ n ih2 => simp only [sumZ, Int.mul_add, ih2]
      rw [e3]
      have e4 : sumZ j.length (fun b => if b = c then x.1 * wS (remC j (upd f c 1) c) else P1 x (remC j f b)) = sumZ j.length (fun d => if d = c then 0 else P1 x (remC j f d)) + x.1 * wS (remC j (upd f c 1) c) :=
        sumZ_upd hcl (by simp) (fun b _ hne => by rw [if_neg hne, if_neg hne])
      rw [← e4]
      refine sumZ_le fun b hb => ?_
      split
      · next h => rw [h]; exact Int.le_refl _
      · next h => rw [← remC_upd_ne (k := 1) h]; exact P1_le _ _
    rw [hB, hw]
    rw [hw] at *
    omega
theorem boundO_BR (j : Coast) : boundO j = BR j (fun _ => 0) := by
  unfold boundO BR
  refine sumZ_congr fun b hb => ?_
  have hr : ∀ c, remC j (fun _ => 0) c = j.getD c [] := fun c => by simp [remC]
  rw [hr b]
  simp only [hr]
  unfold beachF rowF
  rw [sumZ_add]
  congr 1
  · -- within a beach
    have key : ∀ (l : List Job), sumZ l.length (fun i => sumZ (l.length - i) (fun k => (l.getD i (0, 0)).1 * (l.getD (i + k) (0, 0)).2)) = costS 0 l := by
      intro l
      induction l with
      | nil => rfl
      | cons x l ih =>
        have shift : ∀ (n : Nat) (F : Nat → Int), sumZ (n + 1) F = F 0 + sumZ n (fun i => F (i + 1)) := by
          intro n F
          induction n with
          | zero => simp [sumZ]
          | succ n ih => rw [sumZ, ih]; simp only [sumZ]; omega
        rw [List.length_cons, shift]
        simp only [costS]
        rw [costS_shift 0 x.1, ← ih]
        have e1 : sumZ l.length (fun i => sumZ (l.length + 1 - (i + 1)) (fun k => ((x :: l).getD (i + 1) (0, 0)).1 * ((x :: l).getD (i + 1 + k) (0, 0)).2)) = sumZ l.length (fun i => sumZ (l.length - i) (fun k => (l.getD i (0, 0)).1 * (l.getD (i + k) (0, 0)).2)) := by
          refine sumZ_congr fun i hi => ?_
          rw [show l.length + 1 - (i + 1) = l.length - i by omega]
          refine sumZ_congr fun k hk => ?_
          rw [List.getD_cons_succ, show i + 1 + k = (i + k) + 1 by omega, List.getD_cons_succ]
        have e2 : sumZ (l.length + 1 - 0) (fun k => ((x :: l).getD 0 (0, 0)).1 * ((x :: l).getD (0 + k) (0, 0)).2) = x.2 * (0 + x.1) + x.1 * wS l := by
          rw [Nat.sub_zero, shift]
          have e3 : sumZ l.length (fun i => ((x :: l).getD 0 (0, 0)).1 * ((x :: l).getD (0 + (i + 1)) (0, 0)).2) = sumZ l.length (fun i => x.1 * (l.getD i (0, 0)).2) := sumZ_congr fun i hi => by
            rw [Nat.zero_add, List.getD_cons_succ]; rfl
          have e4 : sumZ l.length (fun i => x.1 * (l.getD i (0, 0)).2) = (l.map fun y => x.1 * y.2).sum := sum_getD (F := fun y : Job => x.1 * y.2)
          have e5 : (l.map fun y => x.1 * y.2).sum = x.1 * wS l := by
            clear ih e1 e3 e4
            induction l with
            | nil => simp [wS]
            | cons y l ih => simp only [List.map_cons, List.sum_cons, wS_cons, ih, Int.mul_add]
          rw [e3, e4, e5]
          show x.1 * x.2 + x.1 * wS l = x.2 * (0 + x.1) + x.1 * wS l
          rw [Int.zero_add, Int.mul_comm]
        rw [e1, e2]
        omega
    exact key (j.getD b [])
  · rw [sumZ_comm]
    refine sumZ_congr fun c hc => ?_
    have e1 : PP (j.getD b []) (j.getD c []) = sumZ (j.getD b []).length (fun i => P1 ((j.getD b []).getD i (0, 0)) (j.getD c [])) := (sum_getD (F := fun x => P1 x (j.getD c []))).symm
    rw [e1]
    refine sumZ_congr fun i hi => ?_
    exact sum_getD (F := minJ ((j.getD b []).getD i (0, 0)))
theorem CoastOk.pos {j : Coast} (hj : CoastOk j) : ∀ c, c < j.length → ∀ x ∈ j.getD c [], 0 ≤ x.1 ∧ 0 ≤ x.2 := fun c hc x hx => by
  have := (hj.jobs c hc).1.mem hx; omega
theorem bound_least {j : Coast} (hj : CoastOk j) : boundO j ≤ leastO j := by
  unfold leastO
  rw [harm_costS, boundO_BR]
  exact bound_le hj.pos (bestO_ord hj)
/-- Turned round. -/
theorem turnJ_len {j : Coast} : (turnJ j).length = j.length := turnL_len
theorem tpart_full (l : List Job) : tpart l l.length = l.reverse.map swapJ := by
  unfold tpart
  rw [List.take_of_length_le (by simp)]
theorem turnJ_get {j : Coast} {b : Nat} (hb : b < j.length) : (turnJ j).getD b [] = (j.getD b []).reverse.map swapJ := by
  unfold turnJ; rw [turnL_get hb, if_pos hb, tpart_full]
theorem swapJ_swapJ (l : List Job) : (l.map swapJ).map swapJ = l := by
  rw [List.map_map]
  have : swapJ ∘ swapJ = id := by funext x; rfl
  rw [this, List.map_id]
theorem turnJ_turnJ (j : Coast) : turnJ (turnJ j) = j := by
  apply List.ext_getElem (by rw [turnJ_len, turnJ_len])
  intro b h1 h2
  have e := turnJ_get (j := turnJ j) (b := b) (by rw [turnJ_len]; exact h2)
  rw [turnJ_get h2, getD_lt h1, getD_lt h2] at e
  rw [e, ← List.map_reverse, List.reverse_reverse, swapJ_swapJ]
theorem cost_turn (l : List Job) : costS 0 (l.reverse.map swapJ) = costS 0 l := by
  induction l with
  | nil => rfl
  | cons x l ih =>
    rw [List.reverse_cons, List.map_append, costS_app, ih]
    simp only [List.map_cons, List.map_nil, costS]
    rw [costS_shift 0 x.1]
    have e : hS (l.reverse.map swapJ) = wS l := by
      clear ih
      induction l with
      | nil => rfl
      | cons y l ih => rw [List.reverse_cons, List.map_append, hS_app, ih, wS_cons]; simp [hS, swapJ]; omega
    rw [e]
    simp only [swapJ]
    grind
theorem jobs_turn {j : Coast} : ∀ {o : List Nat} {f : Nat → Nat}, OrdF j f o → jobsF (turnJ j) (fun _ => 0) o.reverse = (jobsF j f o).reverse.map swapJ
  | [], f, _ => rfl
  | c :: o, f, ho => by
    have ih := jobs_turn ho.tail
    have hcl := ho.lt c (by simp)
    have hcn := ho.cnt c hcl
    rw [List.count_cons_self] at hcn
    rw [List.reverse_cons, jobsF_app, ih]
    simp only [jobsF, List.reverse_cons, List.map_append]
    congr 1
    simp only [List.map_cons, List.map_nil, List.cons.injEq, and_true]
    have hr : o.reverse.count c = o.count c := List.count_reverse
    rw [turnJ_get hcl, hr, Nat.zero_add]
    have hlt : f c < (j.getD c []).length := by omega
    rw [getD_lt (by rw [List.length_map, List.length_reverse]; omega), getD_lt hlt, List.getElem_map, List.getElem_reverse]
    congr 2
    omega
theorem ord_turn {j : Coast} {o : List Nat} (ho : OrdF j (fun _ => 0) o) : OrdF (turnJ j) (fun _ => 0) o.reverse := by
  refine ⟨fun x hx => by rw [turnJ_len]; exact ho.lt x (List.mem_reverse.1 hx), fun b hb => ?_⟩
  rw [turnJ_len] at hb
  rw [List.count_reverse, turnJ_get hb, List.length_map, List.length_reverse]
  exact ho.cnt b hb
theorem harm_turn {j : Coast} {o : List Nat} (ho : OrdF j (fun _ => 0) o) : costS 0 (jobsF (turnJ j) (fun _ => 0) o.reverse) = costS 0 (jobsF j (fun _ => 0) o) := by
  rw [jobs_turn ho, cost_turn]
theorem turn_valid {j : Coast} (hv : validL j = true) (hh : harmful j = true) : validL (turnJ j) = true := by
  have hc := hv
  simp only [validL, Bool.and_eq_true, decide_eq_true_eq] at hc
  obtain ⟨⟨h1, h2⟩, h3⟩ := hc
  have hlen : ∀ b, b < j.length → ((turnJ j).getD b []).length = (j.getD b []).length := fun b hb => by rw [turnJ_get hb]; simp
  refine validL_ok (fun b hb m hm => ?_) (by rw [turnJ_len]; omega) ?_
  · rw [turnJ_len] at hb
    rw [hlen b hb] at hm
    rw [turnJ_get hb, getD_lt (by rw [List.length_map, List.length_reverse]; exact hm), List.getElem_map, List.getElem_reverse]
    have e : j.getD b [] = j[b] := getD_lt hb
    have hg := List.all_eq_true.1 h1 _ (List.getElem_mem hb)
    have hh1 := List.all_eq_true.1 (List.all_eq_true.1 hh _ (List.getElem_mem hb))
    rw [← e] at hg hh1
    have hmem : (j.getD b [])[(j.getD b []).length - 1 - m]'(by omega) ∈ j.getD b [] := List.getElem_mem _
    generalize (j.getD b [])[(j.getD b []).length - 1 - m]'(by omega) = x at hmem
    have hx := hh1 x hmem
    simp only [decide_eq_true_eq] at hx
    have hb2 : jobBad x = false := Bool.eq_false_iff.2 fun h5 => by
      have : (j.getD b []).any jobBad = true := List.any_eq_true.2 ⟨_, hmem, h5⟩
      rw [this] at hg; cases hg
    simp only [jobBad, Bool.or_eq_false_iff, Bool.not_eq_false', decide_eq_true_eq] at hb2
    refine bad_false ?_
    simp only [swapJ]
    omega
  · have key : ∀ k, k ≤ j.length → manyN (turnJ j) k = manyN j k := by
      intro k
      induction k with
      | zero => intro _; simp [manyN]
      | succ k ih =>
        intro hk
        rw [manyN_succ (by rw [turnJ_len]; omega), manyN_succ (by omega), ih (by omega), hlen k (by omega)]
    rw [turnJ_len, key j.length (Nat.le_refl _)]
    omega
theorem turn_sized {j : Coast} (hj : Sized j) : Sized (turnJ j) :=
  ⟨by rw [turnJ_len]; exact hj.len, fun k hk => by rw [turnJ_len] at hk; rw [turnJ_get hk, List.length_map, List.length_reverse]; exact hj.be k hk⟩
theorem turn_least {j : Coast} (hc : CoastOk j) (ht : CoastOk (turnJ j)) : leastO (turnJ j) = leastO j := by
  unfold leastO
  rw [harm_costS, harm_costS]
  have h1 := bestO_least ht (ord_turn (bestO_ord hc))
  rw [harm_turn (bestO_ord hc)] at h1
  have h2o := ord_turn (bestO_ord ht)
  rw [turnJ_turnJ] at h2o
  have h2 := bestO_least hc h2o
  have h3 := harm_turn (bestO_ord ht)
  rw [turnJ_turnJ] at h3
  omega
end Go.Proofs.Ytjijjncddjkdlaa

/- Shore: lists backwards; calls on beaches turned round. -/
namespace Go.Proofs.Ytjijjncddjkdlaa
open Go.RowKit
set_option linter.unusedVariables false
set_option linter.unusedSimpArgs false
theorem rev_take {l : List Int} {m : Nat} (h : m < l.length) : (l.reverse.take (m + 1)).map C.i = (l.reverse.take m).map C.i ++ [C.i (l.getD (l.length - 1 - m) 0)] := by
  rw [take_succ_getD (d := 0) (by rw [List.length_reverse]; exact h), List.map_append]
  congr 1
  rw [getD_lt (by rw [List.length_reverse]; exact h), List.getElem_reverse, getD_lt (by omega)]
  rfl
set_option maxHeartbeats 1000000 in
theorem back_spec (o : List Int) (ho : o.length ≤ 1000) : Spec Try.prog 45 [V.c (.sl 0 o.length)] [⟨0, .ro 0, o.map C.i⟩] 1 (fun v L' _ => intsR o.reverse v L') := by
  have hom : (o.map C.i).length = o.length := by simp
  refine Spec.of tok Try.func45 rfl rfl rfl fun n0 cx => vc_ok tok ?_
  repeat ((conv => whnf); first
      | (refine And.intro (by first | omega | exact Nat.le_of_ble_eq_true rfl | (dsimp only [inK]; omega) | (simp only [mulS_eq]; omega) | (simp only [mulS_eq, setL_length]; omega) | (simp only [setL_length, List.length_map]; omega) | exact ⟨by omega, by omega, by first | exact Nat.le_of_ble_eq_true rfl | (dsimp only; omega) | (simp only [setL_length]; omega) | (simp only [setL_length, List.length_map]; omega)⟩ | exact ⟨by omega, by first | rfl | omega, by omega, Nat.le_of_ble_eq_true rfl, Nat.le_of_ble_eq_true rfl⟩ | exact ⟨rfl, rfl, rfl, Nat.le_of_ble_eq_true rfl, by first | rfl | omega | exact Nat.le_of_ble_eq_true rfl | (dsimp only; omega) | (simp; done) | (simp; omega), by first | rfl | omega | exact Nat.le_of_ble_eq_true rfl | (dsimp only; omega) | (simp; done) | (simp; omega), by omega, Nat.le_of_ble_eq_true rfl⟩ | exact Eq.refl true) ?_)
      | (refine Exists.intro _ (And.intro rfl ?_))
      | (refine And.intro (And.intro rfl (chk_rowI _ _ _ _)) ?_)
      | (refine br_t (by omega) ?_)
      | (refine br_f (by omega) ?_)
      | (refine bs_t (by omega) ?_)
      | (refine bs_f (by omega) ?_)
      | (refine fun (K' : K3) hK' => ?_)
      | (refine hK' _ _ _ ?_; clear hK' K')
      | (refine draw_auto tok mixed (by kernel_rfl) ?_)
      | (refine bs_bt (Eq.refl true) ?_)
      | (refine bs_bf (Eq.refl false) ?_)
      | (refine br_bt (Eq.refl true) ?_)
      | (refine br_bf (Eq.refl false) ?_)
      | (refine CallK.m ?_)
      | (refine And.intro (And.intro rfl rfl) ?_))
  refine Tri.loop (γ := Nat) (fun m => m ≤ o.length) (fun m => [(0, V.c (.sl 0 o.length)), (3, V.c (.sl 1 m)), (4, V.i ((o.length : Int) - 1 - m))])
    (fun m => [⟨1, .vec 3 1, (o.reverse.take m).map C.i⟩, ⟨0, .ro 0, o.map C.i⟩]) 2 (fun m => o.length - m) 0 (R0 := [(1, none)]) ?_ ?_ ?_
  · omega
  · skip
    refine ⟨?_, ?_, rfl, rfl, by first | exact Nat.le_of_ble_eq_true rfl | exact Nat.le_refl _ | omega⟩
    · repeat (first | exact trivial | refine And.intro (covS_syn (by first | rfl | (refine congrArg some (congrArg V.i ?_); omega)) rfl (by first | exact trivial | exact Nat.le_of_ble_eq_true rfl | exact hy | exact (fun p hp => nomatch hp) | (show (_ : Nat) < _; omega))) ?_ | refine And.intro (covS_bool rfl rfl (by first | rfl)) ?_)
    · repeat (first | exact trivial | refine And.intro (covE_nil rfl (Nat.le_of_ble_eq_true rfl) rfl rfl) ?_ | refine And.intro (covE_some rfl (Nat.le_of_ble_eq_true rfl) (by first | exact wf_ints _ _ | exact wf_bools _ _ | first | exact wf_sls _ _ _ (by omega) | exact wf_jobs _ _ | exact wf_famS _ _ _ (by omega) | simp [C.wf]) rfl (by first | exact ren_ints _ _ | exact ren_bools _ _ | exact ren_shares _ _ | (refine (ren_ints _ _).trans (congrArg some ?_); fail) | rfl)) ?_)
  · intro m hm
    refine vc_ok tok ?_
    have hml : ((o.reverse.take m).map C.i).length = m := by rw [List.length_map, List.length_take, List.length_reverse]; omega
    by_cases hlt : m < o.length
    · repeat ((conv => whnf); first
          | (refine And.intro (by first | omega | exact Nat.le_of_ble_eq_true rfl | (dsimp only [inK]; omega) | (simp only [mulS_eq]; omega) | (simp only [mulS_eq, setL_length]; omega) | (simp only [setL_length, List.length_map]; omega) | exact ⟨by omega, by omega, by first | exact Nat.le_of_ble_eq_true rfl | (dsimp only; omega) | (simp only [setL_length]; omega) | (simp only [setL_length, List.length_map]; omega)⟩ | exact ⟨by omega, by first | rfl | omega, by omega, Nat.le_of_ble_eq_true rfl, Nat.le_of_ble_eq_true rfl⟩ | exact ⟨rfl, rfl, rfl, Nat.le_of_ble_eq_true rfl, by first | rfl | omega | exact Nat.le_of_ble_eq_true rfl | (dsimp only; omega) | (simp; done) | (simp; omega), by first | rfl | omega | exact Nat.le_of_ble_eq_true rfl | (dsimp only; omega) | (simp; done) | (simp; omega), by omega, Nat.le_of_ble_eq_true rfl⟩ | exact Eq.refl true) ?_)
          | (with_reducible refine ld (intLz (show (o.length : Int) - 1 - m = ((o.length - 1 - m : Nat) : Int) by omega) (by omega)) ?_)
          | (refine Exists.intro _ (And.intro rfl ?_))
          | (refine And.intro (And.intro rfl (chk_rowI _ _ _ _)) ?_)
          | (refine br_t (by omega) ?_)
          | (refine br_f (by omega) ?_)
          | (refine bs_t (by omega) ?_)
          | (refine bs_f (by omega) ?_)
          | (refine fun (K' : K3) hK' => ?_)
          | (refine hK' _ _ _ ?_; clear hK' K')
          | (refine draw_auto tok mixed (by kernel_rfl) ?_)
          | (refine bs_bt (Eq.refl true) ?_)
          | (refine bs_bf (Eq.refl false) ?_)
          | (refine br_bt (Eq.refl true) ?_)
          | (refine br_bf (Eq.refl false) ?_)
          | (refine CallK.m ?_)
          | (refine And.intro (And.intro rfl rfl) ?_))
      refine ⟨m + 1, [(1, some 3)], by omega, by omega, ?_⟩
      refine ⟨?_, ?_, rfl, rfl, by first | exact Nat.le_of_ble_eq_true rfl | exact Nat.le_refl _ | omega⟩
      · repeat (first | exact trivial | refine And.intro (covS_syn (by first | rfl | (refine congrArg some (congrArg V.i ?_); omega)) rfl (by first | exact trivial | exact Nat.le_of_ble_eq_true rfl | exact hy | exact (fun p hp => nomatch hp) | (show (_ : Nat) < _; omega))) ?_ | refine And.intro (covS_bool rfl rfl (by first | rfl)) ?_)
      · repeat (first | exact trivial | refine And.intro (covE_nil rfl (Nat.le_of_ble_eq_true rfl) rfl rfl) ?_ | refine And.intro (covE_some rfl (Nat.le_of_ble_eq_true rfl) (by first | exact wf_ints _ _ | exact wf_bools _ _ | first | exact wf_sls _ _ _ (by omega) | exact wf_jobs _ _ | exact wf_famS _ _ _ (by omega) | simp [C.wf]) rfl (by first | exact ren_ints _ _ | exact ren_bools _ _ | exact ren_shares _ _ | (refine (ren_ints _ _).trans (congrArg some ?_); exact rev_take hlt) | rfl)) ?_)
    · obtain rfl : m = o.length := by omega
      repeat ((conv => whnf); first
          | (refine And.intro (by first | omega | exact Nat.le_of_ble_eq_true rfl | (dsimp only [inK]; omega) | (simp only [mulS_eq]; omega) | (simp only [mulS_eq, setL_length]; omega) | (simp only [setL_length, List.length_map]; omega) | exact ⟨by omega, by omega, by first | exact Nat.le_of_ble_eq_true rfl | (dsimp only; omega) | (simp only [setL_length]; omega) | (simp only [setL_length, List.length_map]; omega)⟩ | exact ⟨by omega, by first | rfl | omega, by omega, Nat.le_of_ble_eq_true rfl, Nat.le_of_ble_eq_true rfl⟩ | exact ⟨rfl, rfl, rfl, Nat.le_of_ble_eq_true rfl, by first | rfl | omega | exact Nat.le_of_ble_eq_true rfl | (dsimp only; omega) | (simp; done) | (simp; omega), by first | rfl | omega | exact Nat.le_of_ble_eq_true rfl | (dsimp only; omega) | (simp; done) | (simp; omega), by omega, Nat.le_of_ble_eq_true rfl⟩ | exact Eq.refl true) ?_)
          | (refine Exists.intro _ (And.intro rfl ?_))
          | (refine And.intro (And.intro rfl (chk_rowI _ _ _ _)) ?_)
          | (refine br_t (by omega) ?_)
          | (refine br_f (by omega) ?_)
          | (refine bs_t (by omega) ?_)
          | (refine bs_f (by omega) ?_)
          | (refine fun (K' : K3) hK' => ?_)
          | (refine hK' _ _ _ ?_; clear hK' K')
          | (refine draw_auto tok mixed (by kernel_rfl) ?_)
          | (refine bs_bt (Eq.refl true) ?_)
          | (refine bs_bf (Eq.refl false) ?_)
          | (refine br_bt (Eq.refl true) ?_)
          | (refine br_bf (Eq.refl false) ?_)
          | (refine CallK.m ?_)
          | (refine And.intro (And.intro rfl rfl) ?_))
      refine .inr ⟨1, by rw [List.length_reverse]; rfl, ?_⟩
      have e : o.reverse.take o.length = o.reverse := List.take_of_length_le (by simp)
      rw [e]; rfl
/-- Names of beaches that lie as rows of one's own. -/
def turR (lab oa n B : Nat) : Rn := (0, some lab) :: (21, some oa) :: shiftR 1 B n
theorem turR_be {lab oa n B i : Nat} (hi : i < n) (hn : n ≤ 20) : renL (turR lab oa n B) (1 + i) = some (i + B) := by
  simp only [turR, renL, beq_ne (show 0 ≠ 1 + i by omega), beq_ne (show 21 ≠ 1 + i by omega), cond_false]
  rw [renL_shift, if_pos (by omega)]
  congr 1; omega
theorem turR_sls {lab oa n B : Nat} (hn : n ≤ 20) : ∀ {m : Nat} {t : Coast}, m + t.length ≤ n → seqO ((slsC (1 + m) t).map (C.ren (turR lab oa n B))) = some (famS List.length (m + B) t)
  | m, [], _ => rfl
  | m, x :: r, h => by
    simp only [List.length_cons] at h
    have ih := turR_sls (lab := lab) (oa := oa) (B := B) hn (m := m + 1) (t := r) (by omega)
    simp only [slsC, List.map_cons, C.ren, turR_be (show m < n by omega) hn, seqO, famS]
    rw [show 1 + m + 1 = 1 + (m + 1) by omega, ih, show m + 1 + B = m + B + 1 by omega]
structure HasT (L : List E) (lab B : Nat) (t : Coast) : Prop where
  sl : find L lab = some ⟨lab, .vec 31 1, famS List.length B t⟩
  be : ∀ i, i < t.length → find L (i + B) = some ⟨i + B, rowJ, jobC (t.getD i [])⟩
theorem HasT.ro {L : List E} {lab B oa : Nat} {t : Coast} {o : List Int} {ko : Kd} (h : HasT L lab B t) (ht : Sized t) (ho : find L oa = some ⟨oa, ko, o.map C.i⟩) : roL (turR lab oa t.length B) 32 L (⟨0, .ro 1, slsC 1 t⟩ :: ⟨21, .ro 0, o.map C.i⟩ :: entC 1 t) := by
  have := ht.len
  have hs := turR_sls (lab := lab) (oa := oa) (B := B) ht.len (m := 0) (t := t) (by omega)
  rw [Nat.zero_add] at hs
  refine ⟨⟨Nat.le_of_ble_eq_true rfl, wf_sls _ _ _ (by omega), .vec 31 1, _, h.sl, .inr rfl, hs⟩, ⟨Nat.le_of_ble_eq_true rfl, wf_ints _ _, ko, _, ho, .inl rfl, ren_ints _ _⟩, roL_all fun e he => ?_⟩
  obtain ⟨i, hi, rfl⟩ := entC_mem he
  unfold roE
  simp only [turR_be hi ht.len]
  exact ⟨by omega, wf_jobs _ _, rowJ, _, h.be i hi, .inr rfl, ren_jobs _ _⟩
theorem HasT.ro0 {L : List E} {lab B : Nat} {t : Coast} (h : HasT L lab B t) (ht : Sized t) : roL (turR lab 0 t.length B) 32 L (⟨0, .ro 1, slsC 1 t⟩ :: entC 1 t) := by
  have := ht.len
  have hs := turR_sls (lab := lab) (oa := 0) (B := B) ht.len (m := 0) (t := t) (by omega)
  rw [Nat.zero_add] at hs
  refine ⟨⟨Nat.le_of_ble_eq_true rfl, wf_sls _ _ _ (by omega), .vec 31 1, _, h.sl, .inr rfl, hs⟩, roL_all fun e he => ?_⟩
  obtain ⟨i, hi, rfl⟩ := entC_mem he
  unfold roE
  simp only [turR_be hi ht.len]
  exact ⟨by omega, wf_jobs _ _, rowJ, _, h.be i hi, .inr rfl, ren_jobs _ _⟩
theorem natsC_rev (o : List Nat) : (natsC o).reverse = natsC o.reverse := by simp [natsC]
/-- The harm backwards, of beaches turned round. -/
theorem harm_rev {j : Coast} (hv : validL j = true) (hh : harmful j = true) {o : List Int} (hi : isOrdB j o = true) : isOrdB (turnJ j) o.reverse = true ∧ harmO (turnJ j) o.reverse o.length = harmO j o o.length := by
  obtain ⟨o', rfl, ho⟩ := (isOrd_iff (by have := validL_many hv; omega)).1 hi
  have hv2 := turn_valid hv hh
  have h1 := harm_costS (j := turnJ j) (o := o'.reverse)
  have h2 := harm_costS (j := j) (o := o')
  rw [natsC_rev]
  refine ⟨(isOrd_iff (by have := validL_many hv2; omega)).2 ⟨_, rfl, ord_turn ho⟩, ?_⟩
  rw [natsC_len, List.length_reverse] at h1
  rw [natsC_len] at h2 ⊢
  rw [h1, h2, harm_turn ho]
end Go.Proofs.Ytjijjncddjkdlaa

