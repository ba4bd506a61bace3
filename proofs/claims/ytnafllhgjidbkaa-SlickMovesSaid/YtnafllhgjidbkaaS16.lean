/- Helpers: rows of integers and of booleans, memory that comes in, what goes out. -/
import Derived.Test.YtnafllhgjidbkaaS15
namespace Go.Proofs.Ytnafllhgjidbkaa
open Go.RowKit
set_option linter.unusedVariables false
set_option linter.unusedSimpArgs false
theorem br_bt {b : Bool} {A B : Prop} (h : b = true) (hA : A) : (b = true → A) ∧ (b = false → B) := ⟨fun _ => hA, fun h2 => by rw [h] at h2; cases h2⟩
theorem br_bf {b : Bool} {A B : Prop} (h : b = false) (hB : B) : (b = true → A) ∧ (b = false → B) := ⟨fun h2 => (by rw [h] at h2; cases h2), fun _ => hB⟩
theorem bs_bt {b : Bool} {A B : Prop} (h : b = true) (hB : B) : (b = false → A) ∧ (b = true → B) := ⟨fun h2 => (by rw [h] at h2; cases h2), fun _ => hB⟩
theorem bs_bf {b : Bool} {A B : Prop} (h : b = false) (hA : A) : (b = false → A) ∧ (b = true → B) := ⟨fun _ => hA, fun h2 => (by rw [h] at h2; cases h2)⟩
theorem intL {l : List Int} {k : Nat} (h : k < l.length) : (l.map C.i)[mulS ((k : Nat) : Int).toNat 1]? = some (C.i (l.getD k 0)) := by
  rw [mulS_eq]; simp [h, List.getD_eq_getElem?_getD]
theorem intLz {l : List Int} {k : Nat} {z : Int} (hz : z = k) (h : k < l.length) : (l.map C.i)[mulS z.toNat 1]? = some (C.i (l.getD k 0)) := by
  subst hz; exact intL h
theorem boolL {l : List Bool} {k : Nat} (h : k < l.length) : (l.map C.bool)[mulS ((k : Nat) : Int).toNat 1]? = some (C.bool (l.getD k false)) := by
  rw [mulS_eq]; simp [h, List.getD_eq_getElem?_getD]
theorem boolLz {l : List Bool} {k : Nat} {z : Int} (hz : z = k) (h : k < l.length) : (l.map C.bool)[mulS z.toNat 1]? = some (C.bool (l.getD k false)) := by
  subst hz; exact boolL h
theorem setL_same {cs : List C} {o : Nat} {v : C} (h : o < cs.length) : (setL cs o [v])[o]? = some v := by simp [setL, h]
theorem wf_ints (n : Nat) (l : List Int) : ∀ c ∈ l.map C.i, c.wf n := by
  intro c hc; obtain ⟨x, _, rfl⟩ := List.mem_map.1 hc; trivial
theorem wf_bools (n : Nat) (l : List Bool) : ∀ c ∈ l.map C.bool, c.wf n := by
  intro c hc; obtain ⟨x, _, rfl⟩ := List.mem_map.1 hc; trivial
theorem chk_ints (p : Nat → Bool) (l : List Int) : (l.map C.i).all (C.chk p) = true := List.all_eq_true.2 fun c hc => by
  obtain ⟨x, _, rfl⟩ := List.mem_map.1 hc; rfl
theorem ren_ints (R : Rn) (l : List Int) : seqO ((l.map C.i).map (C.ren R)) = some (l.map C.i) := by
  induction l with
  | nil => rfl
  | cons x r ih => simp only [List.map_cons, C.ren, C.i, seqO] at *; rw [ih]
theorem den_ints (ρ : Env) (l : List Int) : (l.map C.i).map (C.den ρ) = l.map (Value.int .i64) := by rw [List.map_map]; rfl
theorem den_bools (ρ : Env) (l : List Bool) : (l.map C.bool).map (C.den ρ) = l.map Value.bool := by rw [List.map_map]; rfl
/-- Memory that is read alone, as it comes in. -/
theorem Hp.ros {ρ : Env} {w : World} {L : List E} {nx : Nat} (h : ∀ e ∈ L, e.kd = .ro 0 ∧ e.lab < nx ∧ (∀ c ∈ e.cs, c.wf nx) ∧ RoAt w (ρ e.lab).1 (e.cs.map (C.den ρ))) (hd : injB [] L = true) : Hp w.heap.size ρ w L nx := by
  refine ⟨Nat.le_refl _, fun e he => ?_, fun e he => ⟨(h e he).2.1, (h e he).2.2.1⟩, fun e he e' he' hl => injB_spec hd e he e' he' (.inl hl), fun e he e' he' hro => ?_⟩
  · have h1 := h e he
    obtain ⟨lab, kd, cs⟩ := e
    simp only at h1
    obtain ⟨rfl, h2, h3, h4⟩ := h1
    exact ⟨h4, .inl rfl⟩
  · rw [(h e he).1] at hro; cases hro
/-- A row that the callee left. -/
theorem Hp.row {n0 : Nat} {ρ : Env} {w : World} {L : List E} {nx l : Nat} {k : Kd} {cs : List C} (h : Hp n0 ρ w L nx) (hf : find L l = some ⟨l, k, cs⟩) : RoAt w (ρ l).1 (cs.map (C.den ρ)) ∧ (k.isRo = false → ∀ a, (ρ l).1 = some a → n0 ≤ a.block) := by
  have hm := find_mem hf
  have hok := h.ok _ hm.1
  refine ⟨(hok.toRo (n0 := n0) (.inl rfl)).1, fun hk a ha => hok.blk_ge hk a.block (by simp [blk, ha])⟩
end Go.Proofs.Ytnafllhgjidbkaa
