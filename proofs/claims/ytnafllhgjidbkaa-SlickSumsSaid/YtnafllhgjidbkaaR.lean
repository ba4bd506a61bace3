import Derived.Test.YtnafllhgjidbkaaT7
import Derived.StillTailTactics
import Derived.OrdersIn
namespace Go.Proofs.Ytnafllhgjidbkaa
open Go.RowKit Go.Shelf
set_option linter.unusedVariables false

/-! ### A drawn region within a round of a loop over an iterator, out of the plain laws -/
theorem rows_in {n l : Nat} {P : Program} {row : String} {args : Array Value} {w : World} {R : Value → World → Prop} (h : Rows P row args w R) : RowsIn (Fence.wide.inRound l) n P row args w R := by
  intro c cs hr
  obtain ⟨v, w', hR, hs⟩ := h c cs
  exact ⟨v, w', hR, stepsIn_wide.2 hs⟩
theorem wpOp_in {P : Program} {ops : Array Oper} {Q : Exit → Act → World → Prop} {l n i : Nat} {K : Act → World → Prop} {a : Act} {w : World} (hQ : ¬ LetsOut Q)
    (hd : ∀ (j : Nat) (o : Oper), ops[j]? = some o → ∀ c, o.op ≠ .defer c) (h : wpOp P ops Q i K a w) : wpOpIn (Fence.wide.inRound l) n P ops Q i K a w := by
  unfold wpOp at h
  unfold wpOpIn
  split
  · rename_i ho; simpa [ho] using h
  · rename_i o ho
    simp only [ho] at h
    split
    · rename_i hw
      simp only [hw, if_true] at h
      rcases h with h | h
      · refine ⟨fun f _ => trivial, ?_⟩
        show o.uponIn (Fence.wide.inRound l) n P a K Q ((Oper.semAt (some l) a.eval o).run P w)
        rw [Oper.semAt_some l a.eval o (hd i o ho)]
        unfold Oper.wp at h
        generalize (execOp a.eval o).run P w = r at h
        cases r with
        | ok x w' =>
          cases x <;> simp only [Oper.upon] at h <;> simp only [Oper.uponIn] <;>
            first
              | exact h
              | exact ⟨fun hh => by simp [Fence.wide] at hh, callsIn_wide.2 (h.mono fun e w'' he => by cases e <;> exact he)⟩
              | exact ⟨fun hh => by simp [Fence.wide] at hh, rows_in h⟩
        | halt x w' => cases x <;> simp only [Oper.upon] at h <;> simp only [Oper.uponIn] <;> exact h
      · exact absurd h.2 hQ
    · rename_i hw
      simp only [hw] at h
      exact ⟨fun f _ => trivial, h⟩
theorem wpAny_in {P : Program} {md : Region.Mode} {ops : Array Oper} {Q : Exit → Act → World → Prop} {l n : Nat} (hQ : ¬ LetsOut Q) (hd : ∀ (j : Nat) (o : Oper), ops[j]? = some o → ∀ c, o.op ≠ .defer c) :
    ∀ (fuel : Nat) (listed : Array Bool) (a : Act) (w : World), wpAny P md ops Q fuel listed a w → wpAnyIn (Fence.wide.inRound l) n P md ops Q fuel listed a w
  | 0, _, _, _, h => h
  | fuel + 1, listed, a, w, h => ⟨h.1, fun i hi => wpOpIn_mono (fun a' w' h' => wpAny_in hQ hd fuel _ a' w' h') (wpOp_in hQ hd (h.2 i hi))⟩
def noDefer (l : List Oper) : Bool := l.all fun o => match o.op with | .defer _ => false | _ => true
theorem noDefer_spec {l : List Oper} (h : noDefer l = true) : ∀ (j : Nat) (o : Oper), l.toArray[j]? = some o → ∀ c, o.op ≠ .defer c := by
  intro j o ho c e
  have hm : o ∈ l := by
    have : l[j]? = some o := by simpa using ho
    exact List.mem_of_getElem? this
  have := List.all_eq_true.1 h o hm
  rw [e] at this; cases this

/-- Reads, and one chain of writes at the end. -/
theorem wpIn_region_tail {P : Program} {id ll nn : Nat} {Q : Exit → Act → World → Prop} {a : Act} {w : World} {l : List Oper} (n : Nat) (hm : P.follows .mixedOrders = true) (hB : Region.lexTailB .any l.toArray n = true) (hnd : noDefer l = true) (hQ : ¬ LetsOut Q)
    (h : wpStill P l.toArray w.drew (fun a' => wpList P l.toArray Q (l.drop n) a' w.drew) (l.take n) a) : (Code.region id l.toArray true).wpIn (Fence.wide.inRound ll) nn P Q a w := by
  simp only [Region.lexTailB, Bool.and_eq_true, decide_eq_true_eq] at hB
  obtain ⟨⟨⟨⟨hsel, hn⟩, hs⟩, hc⟩, hlex⟩ := hB
  have hn' : n < l.length := by simpa using hn
  have htl : (l.take n).length = n := by simp; omega
  have hdl : (l.drop n).length = l.toArray.size - n := by simp
  have inv0 : HeadInv .any l.toArray n (Array.replicate l.toArray.size false) :=
    ⟨by simp, fun j oj _ hl => (by rw [getD_replicate_false] at hl; cases hl), fun t _ ht => getD_in (by simpa using ht) (getD_replicate_false _ _)⟩
  have H := wpAnyL_lex (md := .any) (g := l.toArray.size - n) hsel hs hc hn (l.take n) 0 _ a (fun j hj => by
    have hj' : j < n := by rw [htl] at hj; exact hj
    simp [hj']) (by simpa using htl) inv0 (by rw [htl]; exact hlex) h
  refine wpIn_region_any hm (wpAny_in hQ (noDefer_spec hnd) _ _ _ _ ?_)
  have := wpAny_of_head (Q' := Q) (g := l.toArray.size - n) (fun listed a' hL => by
    have := wpAny_of_seq (md := .any) (Q' := Q) (l.drop n) n listed a' { w with drawn := w.drawn + 1 } (fun j => by simp [List.getElem?_drop]) (by rw [hdl]; exact hL.1) hL.2
    rwa [hdl] at this) _ _ _ H
  rw [htl, show n + (l.toArray.size - n) = l.toArray.size by omega] at this
  exact this
theorem wp_region_tail {P : Program} {id : Nat} {Q : Exit → Act → World → Prop} {a : Act} {w : World} {l : List Oper} (n : Nat) (hm : P.follows .mixedOrders = true) (hB : Region.lexTailB .any l.toArray n = true)
    (h : wpStill P l.toArray w.drew (fun a' => wpList P l.toArray Q (l.drop n) a' w.drew) (l.take n) a) : (Code.region id l.toArray true).wp P Q a w := wp_region_still_tail n hm hB h
/-- Reads, and calls that make memory of their own alone. -/
theorem wpIn_region_aft {P : Program} {id ll nn : Nat} {Q : Exit → Act → World → Prop} {a : Act} {w : World} {l : List Oper} (hm : P.follows .mixedOrders = true) (hB : Region.lexB .any l.toArray = true) (hnd : noDefer l = true) (hQ : ¬ LetsOut Q)
    (h : wpQuiet P l.toArray (fun w' => ∃ x : Aft w, w' = x.val) (fun a' => ∀ w', (∃ x : Aft w, w' = x.val) → Q .normal a' w') l a) : (Code.region id l.toArray true).wpIn (Fence.wide.inRound ll) nn P Q a w := by
  simp only [Region.lexB, Bool.and_eq_true] at hB
  refine wpIn_region_any hm (wpAny_in hQ (noDefer_spec hnd) _ _ _ _ ?_)
  have hC : ∃ x : Aft w, ({ w with drawn := w.drawn + 1 } : World) = x.val := ⟨⟨_, (Below.refl _ w).drew⟩, rfl⟩
  refine wpAny_of_quiet (C := fun w' => ∃ x : Aft w, w' = x.val) (Q := fun a' => ∀ w', (∃ x : Aft w, w' = x.val) → Q .normal a' w') (fun _ w' hw' h => h w' hw') _ _ _ _ hC ?_
  have := wpAnyQ_lex (C := fun w' => ∃ x : Aft w, w' = x.val) (md := .any) hB.1 l.toArray.toList 0 (Array.replicate l.toArray.size false) a (by simp) (by simpa using hB.2) (by simpa using h)
  simpa using this
end Go.Proofs.Ytnafllhgjidbkaa
