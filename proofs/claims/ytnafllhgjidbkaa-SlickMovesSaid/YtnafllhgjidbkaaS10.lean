/- An operation of a region that draws has one outcome, told ahead. -/
import Derived.Test.YtnafllhgjidbkaaS9
namespace Go.Proofs.Ytnafllhgjidbkaa
open Go.RowKit
set_option linter.unusedVariables false
set_option linter.unusedSimpArgs false
def Det1 {α : Type} (F : (α → Prop) → Prop) : Prop := ∀ K, F K → ∃ v, F (fun u => u = v) ∧ K v
def Det3 (F : (V → List E → Nat → Prop) → Prop) : Prop := ∀ K, F K → ∃ v new nx', F (fun v' n' x' => v' = v ∧ n' = new ∧ x' = nx') ∧ K v new nx'
theorem onV_mk {α : Type} {o : Option α} {x : α} {k : α → Prop} (h : o = some x) (hk : k x) : onV o k := by rw [h]; exact hk
theorem Det1.on {α β : Type} {o : Option α} {F : α → (β → Prop) → Prop} (h : ∀ x, Det1 (F x)) : Det1 (fun K => onV o fun x => F x K) := by
  intro K hK
  obtain ⟨x, hx, h1⟩ := onV_iff hK
  obtain ⟨v, h2, h3⟩ := h x K h1
  exact ⟨v, onV_mk hx h2, h3⟩
theorem Det3.on {α : Type} {o : Option α} {F : α → (V → List E → Nat → Prop) → Prop} (h : ∀ x, Det3 (F x)) : Det3 (fun K => onV o fun x => F x K) := by
  intro K hK
  obtain ⟨x, hx, h1⟩ := onV_iff hK
  obtain ⟨v, n, m, h2, h3⟩ := h x K h1
  exact ⟨v, n, m, onV_mk hx h2, h3⟩
theorem Det1.ret {α : Type} (v : α) : Det1 (fun K => K v) := fun K h => ⟨v, rfl, h⟩
theorem Det3.ret (v : V) (n : List E) (m : Nat) : Det3 (fun K => K v n m) := fun K h => ⟨v, n, m, ⟨rfl, rfl, rfl⟩, h⟩
theorem Det1.and {α : Type} {p : Prop} {F : (α → Prop) → Prop} (h : Det1 F) : Det1 (fun K => p ∧ F K) := fun K hK => by
  obtain ⟨v, h1, h2⟩ := h K hK.2; exact ⟨v, ⟨hK.1, h1⟩, h2⟩
theorem Det3.and {p : Prop} {F : (V → List E → Nat → Prop) → Prop} (h : Det3 F) : Det3 (fun K => p ∧ F K) := fun K hK => by
  obtain ⟨v, n, m, h1, h2⟩ := h K hK.2; exact ⟨v, n, m, ⟨hK.1, h1⟩, h2⟩
theorem Det1.ex {α β : Type} {p : β → Prop} {F : β → (α → Prop) → Prop} (h : ∀ b, Det1 (F b)) : Det1 (fun K => ∃ b, p b ∧ F b K) := fun K ⟨b, hb, hK⟩ => by
  obtain ⟨v, h1, h2⟩ := h b K hK; exact ⟨v, ⟨b, hb, h1⟩, h2⟩
theorem Det1.no {α : Type} : Det1 (fun (_ : α → Prop) => False) := fun _ h => h.elim
theorem Det3.no : Det3 (fun _ => False) := fun _ h => h.elim
theorem Det1.to3 {α : Type} {F : (α → Prop) → Prop} (h : Det1 F) (f : α → V) (g : α → List E) (k : Nat) (hm : ∀ K K' : α → Prop, (∀ v, K v → K' v) → F K → F K') : Det3 (fun K => F fun v => K (f v) (g v) k) := fun K hK => by
  obtain ⟨v, h1, h2⟩ := h _ hK
  exact ⟨f v, g v, k, hm _ _ (fun u hu => by subst hu; exact ⟨rfl, rfl, rfl⟩) h1, h2⟩
section
variable {T : List (Nat × TD)} {L : List E} {s : S} {nx : Nat}
theorem det_load (d : TD) (x : Option V) : Det1 (rdLoad L d x) := by
  unfold rdLoad
  split
  · refine Det1.on fun e => ?_
    split
    · exact Det1.ex fun c => Det1.ret _
    · refine Det1.ex fun c => ?_
      cases Nat.blt 0 d.size
      · exact Det1.no
      · exact Det1.ret _
  · exact Det1.no
theorem det_idxA (t : Nat) (x i : Option V) : Det1 (rdIdxA T L t x i) := by
  unfold rdIdxA
  refine Det1.on fun d => ?_
  split
  · split
    · exact Det1.on fun _ => Det1.on fun _ => Det1.and (Det1.ret _)
    · exact Det1.on fun _ => Det1.on fun _ => Det1.and (Det1.ret _)
    · exact Det1.no
  · exact Det1.no
theorem det_fldA (t : Nat) (x : Option V) (f : Nat) : Det1 (rdFldA T L t x f) := by
  unfold rdFldA
  refine Det1.on fun d => ?_
  split
  · refine Det1.on fun _ => Det1.on fun _ => Det1.on fun _ => ?_
    split
    · exact Det1.no
    · exact Det1.and (Det1.ret _)
  · exact Det1.no
theorem det_part (t : Nat) (l : List C) (o : Nat) : Det1 (rdPart T t l o) := by
  unfold rdPart
  refine Det1.on fun d => ?_
  split
  · exact Det1.ex fun c => Det1.ret _
  · exact Det1.ex fun c => Det1.ret _
theorem det_fld (t : Nat) (x : Option V) (f : Nat) : Det1 (rdFld T t x f) := by
  unfold rdFld
  refine Det1.on fun d => ?_
  split
  · exact Det1.on fun p => det_part _ _ _
  · exact Det1.no
theorem det_idx (t : Nat) (x i : Option V) : Det1 (rdIdx T t x i) := by
  unfold rdIdx
  refine Det1.on fun d => ?_
  split
  · split
    · exact Det1.on fun _ => Det1.and (det_part _ _ _)
    · exact Det1.no
  · exact Det1.no
theorem det_un (op : UnOp) (x : Option V) : Det1 (rdUn op x) := by
  unfold rdUn
  split
  · exact Det1.ret _
  · exact Det1.ret _
  · exact Det1.ret _
  · exact Det1.and (Det1.ret _)
  · exact Det1.no
theorem det_conv (a b : Nat) (x : Option V) : Det1 (rdConv T a b x) := by
  unfold rdConv
  refine Det1.on fun d => Det1.on fun _ => ?_
  split
  · exact Det1.and (Det1.ret _)
  · exact Det1.no
theorem Det1.same {α : Type} {k k' : IntKind} {F : (α → Prop) → Prop} (h : Det1 F) : Det1 (fun K => sameK k k' (F K)) := by
  unfold sameK; split <;> first | exact h | exact Det1.no
theorem Mon'.same {α : Type} {k k' : IntKind} {F : (α → Prop) → Prop} (h : ∀ K K' : α → Prop, (∀ v, K v → K' v) → F K → F K') : ∀ K K' : α → Prop, (∀ v, K v → K' v) → sameK k k' (F K) → sameK k k' (F K') := by
  intro K K' hk; unfold sameK; split <;> first | exact h K K' hk | exact id
theorem det_binI (op : BinOp) (k k' : IntKind) (x y : Int) : Det1 (binI op k k' x y) := by
  unfold binI
  split <;> first | exact Det1.same (Det1.ret _) | exact Det1.same (Det1.and (Det1.ret _)) | exact Det1.and (Det1.ret _) | exact Det1.no
theorem det_bin (t : Nat) (op : BinOp) (x y : Option V) : Det1 (rdBin T t op x y) := by
  unfold rdBin
  split
  · exact det_binI _ _ _ _ _
  · refine Det1.on fun p => Det1.on fun q => Det1.on fun d => ?_
    split
    · exact Det1.ret _
    · exact Det1.ret _
    · exact Det1.no
  · exact Det1.no
theorem det_build (t : Nat) (ps : List (Nat × Operand)) : Det1 (rdBuild T s t ps) := by
  unfold rdBuild
  refine Det1.on fun d => Det1.on fun p => ?_
  split
  · exact Det1.on fun _ => Det1.on fun _ => Det1.ret _
  · exact Det1.on fun _ => Det1.on fun _ => Det1.ret _
  · exact Det1.no
theorem det_buildS (t n : Nat) (ps : List (Nat × Operand)) : Det3 (rdBuildS T s nx t n ps) := by
  unfold rdBuildS
  refine Det3.on fun d => Det3.on fun p => ?_
  split
  · exact Det3.on fun _ => Det3.on fun _ => Det3.and (Det3.ret _ _ _)
  · exact Det3.no
theorem det_make (t : Nat) (n m : Option V) : Det3 (rdMake T nx t n m) := by
  unfold rdMake
  refine Det3.on fun d => ?_
  split
  · exact Det3.on fun _ => Det3.and (Det3.ret _ _ _)
  · exact Det3.no
theorem det_len (t : Nat) (x : Option V) : Det1 (lenC T t x) := by
  unfold lenC
  refine Det1.on fun d => ?_
  split
  · exact Det1.ret _
  · exact Det1.ret _
  · exact Det1.ret _
  · exact Det1.no
theorem det_slice (t : Nat) (x : Option V) (lo hi : Option Operand) : Det3 (rdSlice T L nx s t x lo hi) := by
  unfold rdSlice
  refine Det3.on fun d => ?_
  split
  · refine Det3.on fun _ => Det3.on fun en => ?_
    split
    · split
      · exact Det3.on fun _ => Det3.and (Det3.ret _ _ _)
      · split
        · exact Det3.on fun _ => Det3.and (Det3.ret _ _ _)
        · exact Det3.no
    · split
      · split
        · split
          · exact Det3.and (Det3.ret _ _ _)
          · split
            · exact Det3.and (Det3.ret _ _ _)
            · exact Det3.no
        · exact Det3.no
      · exact Det3.no
  · exact Det3.no
theorem to3 {F : (V → Prop) → Prop} (h : Det1 F) (hm : ∀ K K' : V → Prop, (∀ v, K v → K' v) → F K → F K') : Det3 (fun K => F fun v => K v [] nx) := Det1.to3 h id (fun _ => []) nx hm
theorem onV_mono {α : Type} {o : Option α} {k k' : α → Prop} (h : ∀ x, k x → k' x) (ho : onV o k) : onV o k' := by
  obtain ⟨x, hx, h1⟩ := onV_iff ho; exact onV_mk hx (h x h1)
/-- A functional that has one outcome is monotone at what it needs. -/
theorem Det1.mono' {α : Type} {F : (α → Prop) → Prop} (h : Det1 F) (hF : ∀ v, F (fun u => u = v) → ∀ K : α → Prop, K v → F K) : ∀ K K' : α → Prop, (∀ v, K v → K' v) → F K → F K' := fun K K' hk hK => by
  obtain ⟨v, h1, h2⟩ := h K hK; exact hF v h1 K' (hk v h2)
def Mon {α : Type} (F : (α → Prop) → Prop) : Prop := ∀ K K' : α → Prop, (∀ v, K v → K' v) → F K → F K'
theorem Mon.on {α β : Type} {o : Option α} {F : α → (β → Prop) → Prop} (h : ∀ x, Mon (F x)) : Mon (fun K => onV o fun x => F x K) := fun K K' hk => onV_mono fun x => h x K K' hk
theorem Mon.ret {α : Type} (v : α) : Mon (fun K => K v) := fun K K' h => h v
theorem Mon.and {α : Type} {p : Prop} {F : (α → Prop) → Prop} (h : Mon F) : Mon (fun K => p ∧ F K) := fun K K' hk hK => ⟨hK.1, h K K' hk hK.2⟩
theorem Mon.ex {α β : Type} {p : β → Prop} {F : β → (α → Prop) → Prop} (h : ∀ b, Mon (F b)) : Mon (fun K => ∃ b, p b ∧ F b K) := fun K K' hk ⟨b, hb, hK⟩ => ⟨b, hb, h b K K' hk hK⟩
theorem Mon.no {α : Type} : Mon (fun (_ : α → Prop) => False) := fun _ _ _ h => h
theorem mon_load (d : TD) (x : Option V) : Mon (rdLoad L d x) := by
  unfold rdLoad
  split
  · refine Mon.on fun e => ?_
    split
    · exact Mon.ex fun c => Mon.ret _
    · refine Mon.ex fun c => ?_
      cases Nat.blt 0 d.size
      · exact Mon.no
      · exact Mon.ret _
  · exact Mon.no
theorem mon_idxA (t : Nat) (x i : Option V) : Mon (rdIdxA T L t x i) := by
  unfold rdIdxA
  refine Mon.on fun d => ?_
  split
  · split
    · exact Mon.on fun _ => Mon.on fun _ => Mon.and (Mon.ret _)
    · exact Mon.on fun _ => Mon.on fun _ => Mon.and (Mon.ret _)
    · exact Mon.no
  · exact Mon.no
theorem mon_fldA (t : Nat) (x : Option V) (f : Nat) : Mon (rdFldA T L t x f) := by
  unfold rdFldA
  refine Mon.on fun d => ?_
  split
  · refine Mon.on fun _ => Mon.on fun _ => Mon.on fun _ => ?_
    split
    · exact Mon.no
    · exact Mon.and (Mon.ret _)
  · exact Mon.no
theorem mon_part (t : Nat) (l : List C) (o : Nat) : Mon (rdPart T t l o) := by
  unfold rdPart
  refine Mon.on fun d => ?_
  split
  · exact Mon.ex fun c => Mon.ret _
  · exact Mon.ex fun c => Mon.ret _
theorem mon_fld (t : Nat) (x : Option V) (f : Nat) : Mon (rdFld T t x f) := by
  unfold rdFld
  refine Mon.on fun d => ?_
  split
  · exact Mon.on fun p => mon_part _ _ _
  · exact Mon.no
theorem mon_idx (t : Nat) (x i : Option V) : Mon (rdIdx T t x i) := by
  unfold rdIdx
  refine Mon.on fun d => ?_
  split
  · split
    · exact Mon.on fun _ => Mon.and (mon_part _ _ _)
    · exact Mon.no
  · exact Mon.no
theorem mon_un (op : UnOp) (x : Option V) : Mon (rdUn op x) := by
  unfold rdUn
  split
  · exact Mon.ret _
  · exact Mon.ret _
  · exact Mon.ret _
  · exact Mon.and (Mon.ret _)
  · exact Mon.no
theorem mon_conv (a b : Nat) (x : Option V) : Mon (rdConv T a b x) := by
  unfold rdConv
  refine Mon.on fun d => Mon.on fun _ => ?_
  split
  · exact Mon.and (Mon.ret _)
  · exact Mon.no
theorem mon_bin (t : Nat) (op : BinOp) (x y : Option V) : Mon (rdBin T t op x y) := by
  unfold rdBin
  split
  · unfold binI
    split <;> first | exact Mon'.same (Mon.ret _) | exact Mon'.same (Mon.and (Mon.ret _)) | exact Mon.and (Mon.ret _) | exact Mon.no
  · refine Mon.on fun p => Mon.on fun q => Mon.on fun d => ?_
    split
    · exact Mon.ret _
    · exact Mon.ret _
    · exact Mon.no
  · exact Mon.no
theorem mon_build (t : Nat) (ps : List (Nat × Operand)) : Mon (rdBuild T s t ps) := by
  unfold rdBuild
  refine Mon.on fun d => Mon.on fun p => ?_
  split
  · exact Mon.on fun _ => Mon.on fun _ => Mon.ret _
  · exact Mon.on fun _ => Mon.on fun _ => Mon.ret _
  · exact Mon.no
theorem mon_len (t : Nat) (x : Option V) : Mon (lenC T t x) := by
  unfold lenC
  refine Mon.on fun d => ?_
  split
  · exact Mon.ret _
  · exact Mon.ret _
  · exact Mon.ret _
  · exact Mon.no
theorem rd_det (P : Program) (n0 : Nat) (op : Op) : Det3 (rd (HD P n0) T L nx s op) := by
  unfold rd
  split
  · exact Det3.on fun v => Det3.ret _ _ _
  · exact Det3.on fun v => Det3.ret _ _ _
  · split
    · exact Det3.on fun v => Det3.ret _ _ _
    · exact Det3.on fun v => Det3.ret _ _ _
    · rename_i a b p _
      intro K hK
      cases p with
      | true =>
        obtain ⟨x, hx, h1⟩ := onV_iff (hK.1 rfl)
        exact ⟨x, [], nx, ⟨(fun _ => onV_mk hx ⟨rfl, rfl, rfl⟩), (fun h => by cases h)⟩, h1⟩
      | false =>
        obtain ⟨x, hx, h1⟩ := onV_iff (hK.2 rfl)
        exact ⟨x, [], nx, ⟨(fun h => by cases h), fun _ => onV_mk hx ⟨rfl, rfl, rfl⟩⟩, h1⟩
    · exact Det3.no
  · exact Det3.on fun v => Det3.ret _ _ _
  · split
    · exact Det3.ret _ _ _
    · exact Det3.no
  · exact to3 (det_build _ _) (mon_build _ _)
  · exact det_buildS _ _ _
  · exact Det3.on fun d => to3 (det_load _ _) (mon_load _ _)
  · exact Det1.to3 (det_bin _ _ _ _) V.c (fun _ => []) nx (mon_bin _ _ _ _)
  · exact to3 (det_un _ _) (mon_un _ _)
  · exact to3 (det_conv _ _ _) (mon_conv _ _ _)
  · exact to3 (det_fldA _ _ _) (mon_fldA _ _ _)
  · exact to3 (det_fld _ _ _) (mon_fld _ _ _)
  · exact to3 (det_idxA _ _ _) (mon_idxA _ _ _)
  · exact to3 (det_idx _ _ _) (mon_idx _ _ _)
  · split
    · exact Det3.on fun c => Det3.ret _ _ _
    · exact Det3.no
  · exact det_make _ _ _
  · exact det_slice _ _ _ _
  · split
    · exact Det3.on fun vs => Det3.on fun cp => Det3.ret _ _ _
    · exact Det3.no
  · split
    · exact Det3.on fun e => Det3.and (Det3.ret _ _ _)
    · exact Det3.ret _ _ _
    · exact Det3.no
  · rename_i c
    unfold rdCall
    split
    · split
      · refine Det3.on fun vs K hK => ?_
        obtain ⟨v, new, nx', h1, h2⟩ := hK
        exact ⟨v, new, nx', ⟨v, new, nx', h1, rfl, rfl, rfl⟩, h2⟩
      · exact Det3.no
    · split
      · exact to3 (det_len _ _) (mon_len _ _)
      · exact Det3.no
    · split
      · split
        · exact Det3.ret _ _ _
        · exact Det3.no
      · exact Det3.no
    · split
      · split
        · exact Det3.ret _ _ _
        · exact Det3.no
      · exact Det3.no
    · exact Det3.no
  · exact Det3.no
end
end Go.Proofs.Ytnafllhgjidbkaa
