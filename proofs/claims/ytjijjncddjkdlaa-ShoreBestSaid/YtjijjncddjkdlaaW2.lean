/- Texts of the proof, part 2: SB. -/
import Derived.Test.YtjijjncddjkdlaaW1
import Derived.WalkKit
import Derived.Below
import Derived.Laws.OwnMore
import Derived.Maps.AppendAt
import Derived.Laws.IdiomCopy
import Derived.Laws.CopyRow
import Derived.IntWalk
import Derived.StillTail
import Derived.Scope
import Derived.ChangeKeysEq
import Derived.Laws.Small
import Derived.OrdersIn
import Derived.TacticsIn
import Derived.OwnWalkIn
import Derived.RangeFuncNested
import Derived.RangeFuncLeaves
import Derived.RangeFuncRecord
import Derived.Maps.Keyed
import Derived.Maps.RangeRun
import Derived.DeepKeys4
/- A calculus for walks, second half: regions in whatever order, loops, functions, calls. -/
namespace Go.Proofs.Ytjijjncddjkdlaa
open Go.RowKit
set_option linter.unusedVariables false
set_option linter.unusedSimpArgs false
/-! An append among operations that draw their order: what it leaves. -/

/-- Whether a label is in a list: as a machine reckons it. -/
def memN (l : Nat) : List Nat → Bool
  | [] => false
  | k :: r => Nat.beq k l || memN l r
theorem memN_iff {l : Nat} : ∀ {ks : List Nat}, memN l ks = true ↔ l ∈ ks
  | [] => by simp [memN]
  | k :: r => by simp only [memN, Bool.or_eq_true, memN_iff (ks := r), List.mem_cons]; exact ⟨fun h => h.imp (fun h => (Nat.eq_of_beq_eq_true h).symm) id, fun h => h.imp (fun h => by rw [h]; simp) id⟩
/-- The entries whose labels are not in a list. -/
def visL (ks : List Nat) : List E → List E
  | [] => []
  | ⟨lab, kd, cs⟩ :: r => bif memN lab ks then visL ks r else ⟨lab, kd, cs⟩ :: visL ks r
theorem visL_mem {ks : List Nat} {e : E} : ∀ {L : List E}, e ∈ visL ks L ↔ e ∈ L ∧ e.lab ∉ ks
  | [] => by simp [visL]
  | ⟨lab, kd, cs⟩ :: r => by
    simp only [visL]
    cases hb : memN lab ks with
    | true =>
      have hm := memN_iff.1 hb
      simp only [cond_true, visL_mem (L := r), List.mem_cons]
      exact ⟨fun h => ⟨.inr h.1, h.2⟩, fun h => ⟨h.1.resolve_left (fun he => h.2 (by rw [he]; exact hm)), h.2⟩⟩
    | false =>
      have hm : lab ∉ ks := fun h => by rw [memN_iff.2 h] at hb; cases hb
      simp only [cond_false, List.mem_cons, visL_mem (L := r)]
      exact ⟨fun h => h.elim (fun he => ⟨.inl he, by rw [he]; exact hm⟩) (fun h => ⟨.inr h.1, h.2⟩), fun h => h.1.imp id (fun h' => ⟨h', h.2⟩)⟩
def visK (ks : List Nat) (L : List E) : List E :=
  match ks with
  | [] => L
  | k :: r => visL (k :: r) L
theorem visK_mem {ks : List Nat} {e : E} {L : List E} : e ∈ visK ks L ↔ e ∈ L ∧ e.lab ∉ ks := by
  cases ks with
  | nil => simp [visK]
  | cons k r => exact visL_mem
/-- What an append leaves: a row of the call's own, that may lie where the row lay that was appended to. -/
def KillP (n0 lo hi : Nat) (Ai : List E) (kl : Option Nat) (ρ ρ' : Env) (w w' : World) (new : List E) : Prop :=
  ∃ (kd : Kd) (cs : List C) (ob : Option Nat) (ao : Option Addr) (cap : Nat), lo < hi ∧ ρ' = ρ.put lo ao cap ∧ new = [⟨lo, kd, cs⟩] ∧ (∀ c ∈ cs, c.wf lo) ∧
    (ob = none ∨ ∃ en ∈ Ai, kl = some en.lab ∧ en.kd.isRo = false ∧ ob = blk ρ en.lab) ∧ (∀ b, ob = some b → n0 ≤ b ∧ ∀ o, w.heap[b]? = some o → isStO o = false) ∧
    EOK n0 ρ' w' ⟨lo, kd, cs⟩ ∧ w.grownBy w' ob ∧ (∀ b, ao.map (·.block) = some b → ob = some b ∨ b = w.heap.size)
theorem KillP.keep {n0 lo hi : Nat} {Ai : List E} {kl : Option Nat} {ρ ρ' : Env} {w w' : World} {new : List E} (h : KillP n0 lo hi Ai kl ρ ρ' w w' new) (h0 : n0 ≤ w.heap.size) : Keep n0 Cx.top w w' := by
  obtain ⟨kd, cs, ob, ao, cap, _, _, _, _, _, hnb, _, hg, _⟩ := h
  exact Keep.row hg hnb h0
/-- Behind an append: the entries that stay, and the new row. -/
theorem Hp.killed {n0 lo hi ny : Nat} {Ai L L0 : List E} {kl : Option Nat} {ρ ρ' : Env} {w w' : World} {new : List E} (hp : Hp n0 ρ w L ny) (h : KillP n0 lo hi Ai kl ρ ρ' w w' new) (hAi : ∀ e ∈ Ai, e ∈ L) (hL0 : ∀ e ∈ L0, e ∈ L ∧ kl ≠ some e.lab)
    (hlab : ∀ e ∈ L0, e.lab ≠ lo ∧ ∀ c ∈ e.cs, c.den ρ' = c.den ρ) (hhi : hi ≤ ny) : Hp n0 ρ' w' (new ++ L0) ny := by
  obtain ⟨kd, cs, ob, ao, cap, hlh, rfl, rfl, hcs, hob, hnb, how, hg, hao⟩ := h
  have hagr := (Env.put_agr ρ lo ao cap).lt
  have hap : ∀ e ∈ L0, (e.kd.isFl = true → e.cs ≠ []) → ∀ b, blk ρ e.lab = some b → some b ≠ ob := by
    intro y hy hcs' b hb heq
    rcases hob with hob | ⟨en, hen, hkl, hro, hob⟩
    · rw [hob] at heq; cases heq
    · rw [hob] at heq
      have hne : y.lab ≠ en.lab := fun he => (hL0 y hy).2 (by rw [hkl, he])
      exact hp.apart en (hAi en hen) y (hL0 y hy).1 hro hne hcs' b heq.symm hb
  have hput : ∀ e ∈ L0, (ρ.put lo ao cap) e.lab = ρ e.lab := fun e he => (Env.put_agr ρ lo ao cap) _ (fun hh => (hlab e he).1 (by omega))
  have hblk : ∀ e ∈ L0, blk (ρ.put lo ao cap) e.lab = blk ρ e.lab := fun e he => by simp only [blk]; rw [hput e he]
  have hnew : blk (ρ.put lo ao cap) lo = ao.map (·.block) := by simp only [blk, Env.put_same]
  have hsame : (ρ.put lo ao cap) lo = (ao, cap) := Env.put_same ..
  have hold : ∀ e ∈ L0, EOK n0 (ρ.put lo ao cap) w' e := fun e he => by
    have h2 := (hp.ok e (hL0 e he).1).kept hg (hap e he)
    have h3 := hput e he
    have h4 : e.cs.map (C.den (ρ.put lo ao cap)) = e.cs.map (C.den ρ) := List.map_congr_left (hlab e he).2
    obtain ⟨lab, kd, c0⟩ := e
    simp only at h3 h4
    cases kd <;> simp only [EOK] at h2 ⊢ <;> (first | rw [h3, h4] | rw [h3]) <;> exact h2
  refine ⟨Nat.le_trans hp.base hg.size, ?_, ?_, ?_, ?_⟩
  · intro y hy
    rcases List.mem_append.1 hy with hy | hy
    · rw [List.mem_singleton.1 hy]
      exact how
    · exact hold y hy
  · intro y hy
    rcases List.mem_append.1 hy with hy | hy
    · rw [List.mem_singleton.1 hy]
      exact ⟨by simp only; omega, fun c hc => C.wf_mono (by omega) (hcs c hc)⟩
    · exact hp.wf y (hL0 y hy).1
  · intro y hy y' hy' hyy
    rcases List.mem_append.1 hy with hy | hy <;> rcases List.mem_append.1 hy' with hy' | hy'
    · rw [List.mem_singleton.1 hy, List.mem_singleton.1 hy']
    · rw [List.mem_singleton.1 hy] at hyy; exact absurd hyy (hlab y' hy').1
    · rw [List.mem_singleton.1 hy'] at hyy; exact absurd hyy.symm (hlab y hy).1
    · exact hp.fn y (hL0 y hy).1 y' (hL0 y' hy').1 hyy
  · intro y hy y' hy' hro hlab' hcs' b hb hb'
    rcases List.mem_append.1 hy with hy | hy <;> rcases List.mem_append.1 hy' with hy' | hy'
    · rw [List.mem_singleton.1 hy, List.mem_singleton.1 hy'] at hlab'; exact hlab' rfl
    · rw [List.mem_singleton.1 hy] at hb
      rw [hnew] at hb
      rw [hblk y' hy'] at hb'
      rcases hao b hb with h5 | h5
      · exact hap y' hy' hcs' b hb' h5.symm
      · have := EOK.lt (hp.ok y' (hL0 y' hy').1) hcs' hb'; omega
    · rw [List.mem_singleton.1 hy'] at hb'
      rw [hnew] at hb'
      rw [hblk y hy] at hb
      rcases hao b hb' with h5 | h5
      · exact hap y hy (fun hr => (Kd.ro_fl hro hr).elim) b hb h5.symm
      · have := EOK.lt (hp.ok y (hL0 y hy).1) (fun hr => (Kd.ro_fl hro hr).elim) hb; omega
    · rw [hblk y hy] at hb
      rw [hblk y' hy'] at hb'
      exact hp.apart y (hL0 y hy).1 y' (hL0 y' hy').1 hro hlab' hcs' b hb hb'

/- An append among operations that draw their order: the operation. -/
/-- append, in a region that draws: ks: the labels that go in this region, dead: those that have gone. -/
def apK (T : List (Nat × TD)) (ks dead : List Nat) (A0 : List E) (nx : Nat) (t t' : Nat) (x y : Option V) (K : V → List E → Option Nat → Prop) : Prop :=
  onV (lookT T t) fun d =>
  match d.kd, x, y with
  | .sl e, some (.a (.c (.sl l n))), some (.a (.c (.sl l2 m))) => onV (lookT T e) fun de => onV (find A0 l) fun en => onV (find A0 l2) fun en2 =>
    (match en.kd with
    | .vec e' z => (t = t' ∧ e' = e ∧ z = de.size ∧ 0 < de.size ∧ en.cs.length = n * z ∧ m * z ≤ en2.cs.length ∧ n + m ≤ 1000000 ∧ de.bytes ≤ 1000000) ∧ (memN l ks && !memN l dead && !memN l2 ks) = true ∧ K (V.c (.sl nx (n + m))) [⟨nx, .vec e z, en.cs ++ en2.cs.take (m * z)⟩] (some l)
    | _ => False)
  | .sl e, some (.a (.c .nil)), some (.a (.c (.sl l2 m))) => onV (lookT T e) fun de => onV (find A0 l2) fun en2 =>
    (t = t' ∧ 0 < de.size ∧ m * de.size ≤ en2.cs.length ∧ m ≤ 1000000 ∧ de.bytes ≤ 1000000) ∧ (!memN l2 ks) = true ∧ K (V.c (.sl nx m)) [⟨nx, .vec e de.size, en2.cs.take (m * de.size)⟩] none
  | _, _, _ => False
/-- A store among operations that draw: into what is the call's own and no other head sees. -/
def stK (T : List (Nat × TD)) (ks dead : List Nat) (A0 : List E) (nx : Nat) (t : Nat) (x v : Option V) (K : Nat → List E → Prop) : Prop :=
  match x, v with
  | some (.a (.c (.ptr l o))), some (.a v) => onV (lookT T t) fun d => onV (find A0 l) fun e =>
    match e.kd with
    | .ro _ => False
    | .mp _ _ _ => False
    | kd => bif Nat.beq v.cells.length d.size && Nat.blt 0 d.size && (memN l ks && !memN l dead) then o + d.size ≤ e.cs.length ∧ K l [⟨nx, kd, setL e.cs o v.cells⟩] else False
  | _, _ => False
section
variable {P : Program} {T : List (Nat × TD)} {n0 : Nat}
theorem EOK.lab {ρ ρ' : Env} {w : World} {l l' : Nat} {kd : Kd} {cs : List C} (h : EOK n0 ρ w ⟨l, kd, cs⟩) (hl : ρ' l' = ρ l) (hc : cs.map (C.den ρ') = cs.map (C.den ρ)) : EOK n0 ρ' w ⟨l', kd, cs⟩ := by
  cases kd <;> simp only [EOK] at h ⊢ <;> (first | rw [hl, hc] | rw [hl]) <;> exact h
theorem stK_ok (hT : TOK P T) {ks dead : List Nat} {A0 : List E} {nx t : Nat} {x v : Option V} {K : Nat → List E → Prop} (h : stK T ks dead A0 nx t x v K) :
    ∃ u u' l new Ai, x = some u ∧ v = some u' ∧ K l new ∧ (l ∈ ks ∧ l ∉ dead) ∧ (∀ e ∈ Ai, e ∈ A0 ∧ (e.lab ∉ ks ∨ some l = some e.lab)) ∧ (∃ e ∈ Ai, e.lab = l) ∧
      ∀ ρ w, Hp n0 ρ w Ai nx → u'.wf nx → ∃ ρ' w', KillP n0 nx (nx + 1) Ai (some l) ρ ρ' w w' new ∧ Agr nx (nx + 1) ρ ρ' ∧ ρ' nx = ρ' l ∧ (Instr.storeAt t (u.den ρ) (u'.den ρ)).run P w = .ok () w' := by
  unfold stK at h
  split at h
  · rename_i l o v
    obtain ⟨d, hd, h1⟩ := onV_iff h
    obtain ⟨e, he, h2⟩ := onV_iff h1
    clear h h1
    have hk : e.kd.isRo = false ∧ (v.cells.length = d.size ∧ 0 < d.size ∧ o + d.size ≤ e.cs.length) ∧ (l ∈ ks ∧ l ∉ dead) ∧ K l [⟨nx, e.kd, setL e.cs o v.cells⟩] := by
      split at h2
      · exact h2.elim
      · exact h2.elim
      · rename_i hne hnm
        cases hb : (Nat.beq v.cells.length d.size && Nat.blt 0 d.size && (memN l ks && !memN l dead)) with
        | false => rw [hb] at h2; exact h2.elim
        | true =>
          rw [hb] at h2
          simp only [Bool.and_eq_true, Bool.not_eq_true'] at hb
          refine ⟨?_, ⟨Nat.eq_of_beq_eq_true hb.1.1, Nat.le_of_ble_eq_true hb.1.2, h2.1⟩, ⟨memN_iff.1 hb.2.1, fun hh => by rw [memN_iff.2 hh] at hb; cases hb.2.2⟩, h2.2⟩
          cases hkd : e.kd with
          | ro z => exact absurd hkd (hne z)
          | own t => rfl
          | vec t z => rfl
          | obj o => rfl
          | mp own ks f => exact absurd hkd (hnm own ks f)
    clear h2
    obtain ⟨hro, ⟨h3, h3', h4⟩, hl, hK⟩ := hk
    obtain ⟨hm, hel⟩ := find_mem he
    refine ⟨_, _, l, _, [e], rfl, rfl, hK, hl, fun y hy => ?_, ⟨e, by simp, hel⟩, fun ρ w hp hvw => ?_⟩
    · rw [List.mem_singleton.1 hy]; exact ⟨hm, .inr (by rw [hel])⟩
    · have hme : e ∈ [e] := by simp
      have hok := hp.ok e hme
      have hew := hp.wf e hme
      have hcw := A.cells_wf (c := v) hvw
      obtain ⟨b, off, f1, f2, _⟩ := store_one (P := P) (c := .tt) (nx := nx) hok hro (j := o) (by omega) trivial
      obtain ⟨w', g1, g2, g3⟩ := store_many (P := P) (vs := v.cells) (i := 0) (o := o) hok hro f1 (by omega) hcw
      have hwf : ∀ c ∈ setL e.cs o v.cells, c.wf nx := setL_mem _ _ _ hew.2 hcw
      have hpl : (ρ.put nx (ρ l).1 (ρ l).2) l = ρ l := by
        have : l ≠ nx := by have := hew.1; omega
        simp [Env.put, this]
      refine ⟨ρ.put nx (ρ l).1 (ρ l).2, w', ⟨e.kd, _, some b, (ρ l).1, (ρ l).2, Nat.lt_succ_self nx, rfl, rfl, hwf, .inr ⟨e, hme, by rw [hel], hro, by simp only [blk, f1, Option.map_some]⟩, fun b' hb' => (by cases hb'; exact ⟨f2, EOK.cellsB hok hro (by omega) (by simp [blk, f1])⟩), ?_, g3, fun b' hb' => .inl ?_⟩, Env.put_agr ρ nx _ _, by rw [Env.put_same, hpl], ?_⟩
      · exact EOK.lab (l := e.lab) (by simpa using g2) (by rw [Env.put_same, hel]) (cells_agr (Env.put_agr ρ nx _ _).lt hwf)
      · rw [← hel, f1] at hb'; exact hb'
      · have hsz : (v.den ρ).cells.size = d.size := by rw [A.cells_den (c := v) hvw ρ]; simpa using h3
        rw [hel] at f1
        have hx : V.den ρ (V.a (A.c (C.ptr l o))) = .pointer (some ⟨b, off + o, none⟩) := by simp [V.den, A.den, C.den, ptrD, f1, none_add]
        rw [hx]
        show (Instr.storeAt t _ (v.den ρ)).run P w = _
        simp only [Instr.storeAt, Instr.sureAddr, storeVar, Sem.run_bind, Sem.run_pure, Result.andThen, run_size (lookT_ok hT hd), hsz, ne_eq, not_true, if_false, A.cells_den (n := nx) (c := v) hvw ρ]
        have hsz' : (v.cells.map (C.den ρ)).toArray.size = d.size := by simpa using h3
        simp only [hsz', not_true, if_false]
        exact g1
  · exact h.elim
theorem apK_ok (hT : TOK P T) {ks dead : List Nat} {A0 : List E} {nx t t' : Nat} {x y : Option V} {K : V → List E → Option Nat → Prop} (h : apK T ks dead A0 nx t t' x y K) :
    ∃ u u' v new kl Ai, x = some u ∧ y = some u' ∧ K v new kl ∧ v.wf (nx + 1) ∧ (∀ l, kl = some l → l ∈ ks ∧ l ∉ dead) ∧ (∀ e ∈ Ai, e ∈ A0 ∧ (e.lab ∉ ks ∨ kl = some e.lab)) ∧
      ∀ ρ w ty, Hp n0 ρ w Ai nx → ∃ ρ' w', KillP n0 nx (nx + 1) Ai kl ρ ρ' w w' new ∧ Agr nx (nx + 1) ρ ρ' ∧ (Builtin.append_ #[t, t'] ty #[u.den ρ, u'.den ρ]).run P w = .ok (v.den ρ') w' := by
  obtain ⟨d, hd, h1⟩ := onV_iff h
  clear h
  obtain ⟨_, _, _, _, _, _, _, _, _, hkd⟩ := lookT_ok hT hd
  split at h1
  · rename_i e l n l2 m hk
    obtain ⟨de, hde, h2⟩ := onV_iff h1
    obtain ⟨en, hen, h3⟩ := onV_iff h2
    obtain ⟨en2, hen2, h4⟩ := onV_iff h3
    clear h1 h2 h3
    rw [hk] at hkd
    split at h4
    · rename_i e' z hkv
      obtain ⟨⟨rfl, rfl, rfl, h0, hlen, hml, hnm, hby⟩, hb, hK⟩ := h4
      simp only [Bool.and_eq_true, Bool.not_eq_true'] at hb
      obtain ⟨⟨hb1, hb2⟩, hb3⟩ := hb
      obtain ⟨hm, hl⟩ := find_mem hen
      obtain ⟨hm2, hl2⟩ := find_mem hen2
      refine ⟨_, _, _, _, some l, [en, en2], rfl, rfl, hK, Nat.lt_succ_self nx, ?_, ?_, ?_⟩
      · intro l' hl'; cases hl'
        exact ⟨memN_iff.1 hb1, fun hh => by rw [memN_iff.2 hh] at hb2; cases hb2⟩
      · intro y hy
        simp only [List.mem_cons, List.not_mem_nil, or_false] at hy
        rcases hy with rfl | rfl
        · exact ⟨hm, .inr (by rw [hl])⟩
        · exact ⟨hm2, .inl (fun hh => by rw [hl2] at hh; rw [memN_iff.2 hh] at hb3; cases hb3)⟩
      · intro ρ w ty hp
        have hme : en ∈ [en, en2] := by simp
        have hme2 : en2 ∈ [en, en2] := by simp
        have hok := hp.ok en hme
        have hown : rowO w n0 e' de.size (.slice (ρ l).1 n (ρ l).2) n (en.cs.map (C.den ρ)) := by
          obtain ⟨lab, kd, cs⟩ := en
          simp only at hkv hl hlen
          subst hkv
          subst hl
          obtain ⟨n', hw⟩ := hok
          have : n' = n := by
            have h5 := hw.1
            simp only [List.length_map, hlen] at h5
            exact (Nat.eq_of_mul_eq_mul_right h0 h5).symm
          rw [← this]; exact hw
        obtain ⟨ao, cap, w', hr, h5, h6, h7⟩ := app_run hT hp hkd hde h0 (hp.wf en hme).2 hown hme2 hml hnm hby ty (ρ l2).2
        rw [hl2] at hr
        have hob : (Value.slice (ρ l).1 n (ρ l).2).ownBlock = blk ρ l := by cases hq : (ρ l).1 <;> simp [Value.ownBlock, blk, hq]
        have hwf : ∀ c ∈ en.cs ++ en2.cs.take (m * de.size), c.wf nx := fun c hc => by
          rcases List.mem_append.1 hc with hc | hc
          · exact (hp.wf en hme).2 c hc
          · exact (hp.wf en2 hme2).2 c (List.mem_of_mem_take hc)
        refine ⟨ρ.put nx ao cap, w', ⟨.vec e' de.size, _, (Value.slice (ρ l).1 n (ρ l).2).ownBlock, ao, cap, Nat.lt_succ_self nx, rfl, rfl, hwf, .inr ⟨en, hme, by rw [hl], by rw [hkv]; rfl, by rw [hob, hl]⟩, fun b hb => ⟨(hown.lt b hb).1, owns_cells hown hb⟩, ⟨n + m, ?_⟩, h6, h7⟩, Env.put_agr ρ nx ao cap, ?_⟩
        · simp only [Env.put_same]
          rw [cells_agr (Env.put_agr ρ nx ao cap).lt hwf]
          exact h5
        · simp only [V.den, A.den, C.den, Env.put_same]
          exact hr
    · exact h4.elim
  · rename_i e l2 m hk
    obtain ⟨de, hde, h3⟩ := onV_iff h1
    obtain ⟨en2, hen2, ⟨rfl, h0, hml, hnm, hby⟩, hb, hK⟩ := onV_iff h3
    clear h1 h3
    rw [hk] at hkd
    simp only [Bool.not_eq_true'] at hb
    obtain ⟨hm2, hl2⟩ := find_mem hen2
    refine ⟨_, _, _, _, none, [en2], rfl, rfl, hK, Nat.lt_succ_self nx, fun l hl => (by cases hl), ?_, ?_⟩
    · intro y hy
      rw [List.mem_singleton.1 hy]
      exact ⟨hm2, .inl (fun hh => by rw [hl2] at hh; rw [memN_iff.2 hh] at hb; cases hb)⟩
    · intro ρ w ty hp
      have hme2 : en2 ∈ [en2] := by simp
      obtain ⟨ao, cap, w', hr, h5, h6, h7⟩ := app_run hT hp hkd hde h0 (xs := []) (by simp) (rowO_nil w n0 e de.size) hme2 hml (by omega) hby ty (ρ l2).2
      rw [hl2] at hr
      simp only [Nat.zero_add, List.nil_append] at hr h5
      have hwf : ∀ c ∈ en2.cs.take (m * de.size), c.wf nx := fun c hc => (hp.wf en2 hme2).2 c (List.mem_of_mem_take hc)
      refine ⟨ρ.put nx ao cap, w', ⟨.vec e de.size, _, none, ao, cap, Nat.lt_succ_self nx, rfl, rfl, hwf, .inl rfl, fun b hb => (by cases hb), ⟨m, ?_⟩, h6, h7⟩, Env.put_agr ρ nx ao cap, ?_⟩
      · simp only [Env.put_same]
        rw [cells_agr (Env.put_agr ρ nx ao cap).lt hwf]
        exact h5
      · simp only [V.den, A.den, C.den, Env.put_same]
        exact hr
  · exact h1.elim
end

/- Regions that draw their order: heads in whatever order, then a tail. -/

def forceN (n : Nat) (K : Nat → Prop) : Prop :=
  match n with
  | 0 => K 0
  | k + 1 => K (k + 1)
theorem forceN_eq (n : Nat) (K : Nat → Prop) : forceN n K = K n := by cases n <;> rfl
/-- What operation i made: its labels and its entries. -/
structure Ne where
  i : Nat
  lo : Nat
  hi : Nat
  es : List E
  al : Option Nat
/-- Whether a mask has a bit: as a machine reckons it. -/
def tb (m n : Nat) : Bool := Nat.beq (Nat.mod (Nat.div m (Nat.pow 2 n)) 2) 1
theorem tb_eq (m n : Nat) : tb m n = Nat.testBit m n := by
  rw [Nat.testBit_eq_decide_div_mod_eq, Bool.eq_iff_iff]
  simp only [tb, Nat.beq_eq, decide_eq_true_eq]
  exact Iff.rfl
def selN (m : Nat) (L0 : List E) : List Ne → List E
  | [] => L0
  | ⟨i, lo, hi, es, _⟩ :: r => bif tb m i then es ++ selN m L0 r else selN m L0 r
def flatN (L0 : List E) : List Ne → List E
  | [] => L0
  | ⟨i, lo, hi, es, _⟩ :: r => es ++ flatN L0 r
/-- Labels that name what another label named: behind a store. -/
def alsN : List Ne → List (Nat × Nat)
  | [] => []
  | ⟨i, lo, hi, es, none⟩ :: r => alsN r
  | ⟨i, lo, hi, es, some l⟩ :: r => (lo, l) :: alsN r
theorem alsN_mem {p : Nat × Nat} : ∀ {news : List Ne}, p ∈ alsN news → ∃ x ∈ news, x.al = some p.2 ∧ x.lo = p.1
  | ⟨i, lo, hi, es, none⟩ :: r, h => by
    obtain ⟨x, h1, h2⟩ := alsN_mem (news := r) h
    exact ⟨x, by simp [h1], h2⟩
  | ⟨i, lo, hi, es, some l⟩ :: r, h => by
    rcases List.mem_cons.1 h with rfl | h
    · exact ⟨⟨i, lo, hi, es, some l⟩, by simp, rfl, rfl⟩
    · obtain ⟨x, h1, h2⟩ := alsN_mem (news := r) h
      exact ⟨x, by simp [h1], h2⟩
def inNews (m l : Nat) : List Ne → Bool
  | [] => false
  | ⟨i, lo, hi, es, _⟩ :: r => (tb m i && Nat.ble lo l && Nat.blt l hi) || inNews m l r
theorem inNews_spec {m l : Nat} : ∀ {news : List Ne}, inNews m l news = true → ∃ x ∈ news, Nat.testBit m x.i = true ∧ x.lo ≤ l ∧ l < x.hi
  | [], h => by cases h
  | ⟨i, lo, hi, es, al⟩ :: r, h => by
    simp only [inNews, Bool.or_eq_true, Bool.and_eq_true, tb_eq] at h
    rcases h with ⟨⟨h1, h2⟩, h3⟩ | h
    · exact ⟨⟨i, lo, hi, es, al⟩, by simp, h1, Nat.le_of_ble_eq_true h2, Nat.le_of_ble_eq_true h3⟩
    · obtain ⟨x, h1, h2⟩ := inNews_spec h; exact ⟨x, by simp [h1], h2⟩
def okLab (nx0 m nx nx' : Nat) (news : List Ne) (l : Nat) : Bool := Nat.blt l nx0 || (Nat.ble nx l && Nat.blt l nx') || inNews m l news
def C.chk (p : Nat → Bool) : C → Bool
  | .ptr l _ => p l
  | .sl l _ => p l
  | .sub l _ _ _ => p l
  | .mp l => p l
  | .fn _ caps => caps.all fun q => p q.1
  | _ => true
def A.chk (p : Nat → Bool) : A → Bool
  | .c x => x.chk p
  | .agg l => l.all (C.chk p)
def V.chk (p : Nat → Bool) : V → Bool
  | .a x => x.chk p
  | .tup l => l.all (A.chk p)
def C.labs (p : Nat → Prop) : C → Prop
  | .ptr l _ => p l
  | .sl l _ => p l
  | .sub l _ _ _ => p l
  | .mp l => p l
  | .fn _ caps => ∀ q ∈ caps, p q.1
  | _ => True
def A.labs (p : Nat → Prop) : A → Prop
  | .c x => x.labs p
  | .agg l => ∀ c ∈ l, c.labs p
def V.labs (p : Nat → Prop) : V → Prop
  | .a x => x.labs p
  | .tup l => ∀ c ∈ l, c.labs p
theorem C.labs_of_chk {p : Nat → Bool} {q : Nat → Prop} (h : ∀ l, p l = true → q l) {c : C} (hc : c.chk p = true) : c.labs q := by
  cases c <;> simp only [C.chk, C.labs] at *
  case ptr l o => exact h _ hc
  case sl l o => exact h _ hc
  case sub l o n k => exact h _ hc
  case mp l => exact h _ hc
  case fn f caps => exact fun x hx => h _ (List.all_eq_true.1 hc x hx)
theorem A.labs_of_chk {p : Nat → Bool} {q : Nat → Prop} (h : ∀ l, p l = true → q l) {c : A} (hc : c.chk p = true) : c.labs q := by
  cases c with
  | c x => exact C.labs_of_chk h hc
  | agg l => exact fun x hx => C.labs_of_chk h (List.all_eq_true.1 hc x hx)
theorem V.labs_of_chk {p : Nat → Bool} {q : Nat → Prop} (h : ∀ l, p l = true → q l) {c : V} (hc : c.chk p = true) : c.labs q := by
  cases c with
  | a x => exact A.labs_of_chk h hc
  | tup l => exact fun x hx => A.labs_of_chk h (List.all_eq_true.1 hc x hx)
theorem C.labs_of_wf {n : Nat} {q : Nat → Prop} (h : ∀ l, l < n → q l) {c : C} (hc : c.wf n) : c.labs q := by
  cases c <;> simp only [C.wf, C.labs] at *
  case ptr l o => exact h _ hc
  case sl l o => exact h _ hc
  case sub l o m k => exact h _ hc
  case mp l => exact h _ hc
  case fn f caps => exact fun x hx => h _ (hc x hx)
theorem A.labs_of_wf {n : Nat} {q : Nat → Prop} (h : ∀ l, l < n → q l) {c : A} (hc : c.wf n) : c.labs q := by
  cases c with
  | c x => exact C.labs_of_wf h hc
  | agg l => exact fun x hx => C.labs_of_wf h (hc x hx)
theorem V.labs_of_wf {n : Nat} {q : Nat → Prop} (h : ∀ l, l < n → q l) {c : V} (hc : c.wf n) : c.labs q := by
  cases c with
  | a x => exact A.labs_of_wf h hc
  | tup l => exact fun x hx => A.labs_of_wf h (hc x hx)
theorem C.den_labs {q : Nat → Prop} {ρ ρ' : Env} (h : ∀ l, q l → ρ' l = ρ l) {c : C} (hc : c.labs q) : c.den ρ' = c.den ρ := by
  cases c <;> simp only [C.den, ptrD, C.labs] at *
  case ptr l o => rw [h l hc]
  case sl l n => rw [h l hc]
  case sub l o n k => rw [h l hc]
  case mp l => rw [h l hc]
  case fn f caps => congr 2; exact List.map_congr_left fun p hp => by simp only [ptrD]; rw [h p.1 (hc p hp)]
theorem A.den_labs {q : Nat → Prop} {ρ ρ' : Env} (h : ∀ l, q l → ρ' l = ρ l) {c : A} (hc : c.labs q) : c.den ρ' = c.den ρ := by
  cases c with
  | c x => exact C.den_labs h hc
  | agg l => simp only [A.den]; rw [List.map_congr_left fun c hm => C.den_labs h (hc c hm)]
theorem V.den_labs {q : Nat → Prop} {ρ ρ' : Env} (h : ∀ l, q l → ρ' l = ρ l) {c : V} (hc : c.labs q) : c.den ρ' = c.den ρ := by
  cases c with
  | a x => exact A.den_labs h hc
  | tup l => simp only [V.den]; rw [List.map_congr_left fun c hm => A.den_labs h (hc c hm)]

/-- Calls in a region that draws: what they leave is known. -/
def HD (P : Program) (n0 : Nat) : Hnd := fun g vs L nx K => ∃ v new nx', CallK P n0 g vs L nx (fun v' n' x' => v' = v ∧ n' = new ∧ x' = nx') ∧ K v new nx'
def maskOf (ms : List Nat) (o : Oper) : Nat := o.after.toList.foldl (fun m e => bif Region.binds .any e then m ||| 2 ^ e.on ||| ms.getD e.on 0 else m) 0
def fineK (nx0 m nx nx' : Nat) (news : List Ne) (v : V) (new : List E) (R : Prop) : Prop :=
  match Nat.ble nx nx' with
  | false => False
  | true => match Nat.beq nx nx0 with
    | true => R
    | false => (V.chk (okLab nx0 m nx nx' news) v = true ∧ (new.all fun e => e.cs.all (C.chk (okLab nx0 m nx nx' news))) = true) ∧ R
def consN (i nx nx' : Nat) (new : List E) (news : List Ne) (K : List Ne → Prop) : Prop :=
  match Nat.beq nx nx' with
  | true => K news
  | false => K (⟨i, nx, nx', new, none⟩ :: news)
abbrev K3' := S → List E → Nat → Prop
def addN (kl : Option Nat) (dead : List Nat) : List Nat :=
  match kl with
  | none => dead
  | some l => l :: dead
/-- The operands of an append. -/
def appOf (op : Op) : Option (Operand × Operand × TypeId × TypeId) :=
  match op with
  | .call ⟨.builtin .append, args, argTypes⟩ => (match args.toList, argTypes.toList with
    | [x, y], [t, t'] => some (x, y, t, t')
    | _, _ => none)
  | _ => none
/-- The operands of a store. -/
def stOf (op : Op) : Option (TypeId × Operand × Operand) :=
  match op with
  | .store t x v => some (t, x, v)
  | _ => none
def isKillB (op : Op) : Bool := (appOf op).isSome || (stOf op).isSome
def waitL (i : Nat) : List Edge → Bool
  | [] => false
  | e :: r => (Region.binds .any e && Nat.beq e.on i) || waitL i r
theorem waitL_spec {i : Nat} : ∀ {l : List Edge}, waitL i l = true → ∃ e ∈ l, Region.binds .any e = true ∧ e.on = i
  | e :: r, h => by
    simp only [waitL, Bool.or_eq_true, Bool.and_eq_true] at h
    rcases h with h | h
    · exact ⟨e, by simp, h.1, Nat.eq_of_beq_eq_true h.2⟩
    · obtain ⟨e', h1, h2⟩ := waitL_spec h; exact ⟨e', by simp [h1], h2⟩
/-- No operation that does away with an entry runs ahead of operation i. -/
def freeB (all : List Oper) (i : Nat) : Bool :=
  match all with
  | [] => true
  | o :: r => (!isKillB o.op || waitL i o.after.toList) && freeB r i
theorem freeB_spec {i : Nat} {o : Oper} : ∀ {all : List Oper}, freeB all i = true → o ∈ all → isKillB o.op = true → ∃ e ∈ o.after.toList, Region.binds .any e = true ∧ e.on = i
  | x :: r, h, ho, hk => by
    simp only [freeB, Bool.and_eq_true, Bool.or_eq_true, Bool.not_eq_true'] at h
    rcases List.mem_cons.1 ho with rfl | ho
    · rcases h.1 with h1 | h1
      · rw [hk] at h1; cases h1
      · exact waitL_spec h1
    · exact freeB_spec h.2 ho hk
/-- What operation i may see. -/
def visF (all : List Oper) (ks : List Nat) (i : Nat) (L : List E) : List E :=
  match ks with
  | [] => L
  | k :: r => bif freeB all i then L else visL (k :: r) L
theorem visF_mem {all : List Oper} {ks : List Nat} {i : Nat} {L : List E} {e : E} (h : e ∈ visF all ks i L) : e ∈ L ∧ (e.lab ∉ ks ∨ freeB all i = true) := by
  cases ks with
  | nil => exact ⟨h, .inl (by simp)⟩
  | cons k r =>
    simp only [visF] at h
    cases hb : freeB all i with
    | true => rw [hb] at h; exact ⟨h, .inr rfl⟩
    | false => rw [hb] at h; have := visL_mem.1 h; exact ⟨this.1, .inl this.2⟩
/-- An address within a row that goes in this region: it asks no memory. -/
def adrOf (ks : List Nat) (s : S) (op : Op) : Option (TypeId × Operand × Operand) :=
  match op with
  | .indexAddr t x i => (match ev s x with
    | some (.a (.c (.sl l _))) => bif memN l ks then some (t, x, i) else none
    | some (.a (.c (.sub l _ _ _))) => bif memN l ks then some (t, x, i) else none
    | some (.a (.c (.ptr l _))) => bif memN l ks then some (t, x, i) else none
    | _ => none)
  | _ => none
abbrev K4 := List Nat → List Ne → S → Nat → Prop
def drRun (P : Program) (T : List (Nat × TD)) (n0 : Nat) (all : List Oper) (L0 : List E) (nx0 : Nat) (ks dead : List Nat) (i m : Nat) (news : List Ne) (o : Oper) (K : K4) (s : S) (nx : Nat) : Prop :=
  match appOf o.op with
  | some (x, y, t, t') => apK T ks dead (selN m L0 news) nx t t' (ev s x) (ev s y) fun v new kl => fineK nx0 m nx (nx + 1) news v new <| putK s o.dst v fun s' => K (addN kl dead) (⟨i, nx, nx + 1, new, none⟩ :: news) s' (nx + 1)
  | none => match stOf o.op with
  | some (t, x, v) => stK T ks dead (selN m L0 news) nx t (ev s x) (ev s v) fun l new => fineK nx0 m nx (nx + 1) news (.tup []) new <| putK s o.dst (.tup []) fun s' => K (l :: dead) (⟨i, nx, nx + 1, new, some l⟩ :: news) s' (nx + 1)
  | none => match adrOf ks s o.op with
  | some (t, x, y) => rdIdxA T L0 t (ev s x) (ev s y) fun v => fineK nx0 m nx nx news v [] <| putK s o.dst v fun s' => K dead news s' nx
  | none => rd (HD P n0) T (visF all ks i (selN m L0 news)) nx s o.op fun v new nx' => fineK nx0 m nx nx' news v new <| putK s o.dst v fun s' => consN i nx nx' new news fun news' => K dead news' s' nx'
def dr (P : Program) (T : List (Nat × TD)) (n0 N : Nat) (all : List Oper) (L0 : List E) (nx0 : Nat) (ks : List Nat) (l : List Oper) (K : K4) (i : Nat) (ms dead : List Nat) (news : List Ne) (s : S) (nx : Nat) : Prop :=
  match l with
  | [] => K dead news s nx
  | o :: r => bif dstB N o.dst then forceN (maskOf ms o) fun m =>
    (match o.guard with
    | none => drRun P T n0 all L0 nx0 ks dead i m news o (fun dead' news' s' nx' => dr P T n0 N all L0 nx0 ks r K (i + 1) (ms ++ [m]) dead' news' s' nx') s nx
    | some (j, want) => match gslot all j with
      | none => False
      | some t => match look s t with
        | some (.a (.c .tt)) => bif want then drRun P T n0 all L0 nx0 ks dead i m news o (fun dead' news' s' nx' => dr P T n0 N all L0 nx0 ks r K (i + 1) (ms ++ [m]) dead' news' s' nx') s nx else putK s o.dst (.tup []) fun s' => dr P T n0 N all L0 nx0 ks r K (i + 1) (ms ++ [m]) dead news s' nx
        | some (.a (.c .ff)) => bif want then putK s o.dst (.tup []) fun s' => dr P T n0 N all L0 nx0 ks r K (i + 1) (ms ++ [m]) dead news s' nx else drRun P T n0 all L0 nx0 ks dead i m news o (fun dead' news' s' nx' => dr P T n0 N all L0 nx0 ks r K (i + 1) (ms ++ [m]) dead' news' s' nx') s nx
        | some (.a (.c (.bool p))) =>
          (p = want → drRun P T n0 all L0 nx0 ks dead i m news o (fun dead' news' s' nx' => dr P T n0 N all L0 nx0 ks r K (i + 1) (ms ++ [m]) dead' news' s' nx') ((t, V.c (bif want then .tt else .ff)) :: s) nx) ∧
          (p = !want → putK ((t, V.c (bif want then .ff else .tt)) :: s) o.dst (.tup []) fun s' => dr P T n0 N all L0 nx0 ks r K (i + 1) (ms ++ [m]) dead news s' nx)
        | some (.tup _) => putK s o.dst (.tup []) fun s' => dr P T n0 N all L0 nx0 ks r K (i + 1) (ms ++ [m]) dead news s' nx
        | _ => False)
    else False
/-- What operation i yields. -/
structure Stp where
  v : V
  new : List E
  lo : Nat
  hi : Nat
  m : Nat
  kill : Option Nat
  ali : Option Nat
def Closed (all : List Oper) (D : Nat → Prop) : Prop := ∀ j oj, all[j]? = some oj → D j → ∀ e ∈ oj.after, Region.binds .any e = true → D e.on
def LookAt (all : List Oper) (s0 : S) (ds : List Stp) (i : Nat) (s : S) : Prop :=
  ∀ t v, look s t = some v → (∃ j st, j < i ∧ ds[j]? = some st ∧ gslot all j = some t ∧ (∀ ρ, v.den ρ = st.v.den ρ) ∧ ∀ n, st.v.wf n → v.wf n) ∨
    ((∀ j, j < i → gslot all j ≠ some t) ∧ ∃ v0, look s0 t = some v0 ∧ (∀ ρ, v.den ρ = v0.den ρ) ∧ ∀ n, v0.wf n → v.wf n)
/-- The label is one that operation i may know. -/
def LabP (ds : List Stp) (nx0 : Nat) (st : Stp) (l : Nat) : Prop := l < nx0 ∨ (st.lo ≤ l ∧ l < st.hi) ∨ ∃ k sk, ds[k]? = some sk ∧ Nat.testBit st.m k = true ∧ sk.lo ≤ l ∧ l < sk.hi
structure PStep (P : Program) (n0 N : Nat) (all : List Oper) (L0 : List E) (s0 : S) (nx0 : Nat) (ks : List Nat) (ds : List Stp) (i : Nat) (st : Stp) : Prop where
  oper : ∃ o, all[i]? = some o ∧ dstB N o.dst = true ∧
    (∀ D, Closed all D → (∀ e ∈ o.after, Region.binds .any e = true → D e.on) → ∀ k, Nat.testBit st.m k = true → D k) ∧
    ∃ si Ai, LookAt all s0 ds i si ∧ (∀ e ∈ Ai, (e ∈ L0 ∨ ∃ j sj, j < i ∧ ds[j]? = some sj ∧ Nat.testBit st.m j = true ∧ e ∈ sj.new) ∧ (e.lab ∉ ks ∨ st.kill = some e.lab ∨ freeB all i = true)) ∧ (∀ l, st.ali = some l → ∃ e ∈ Ai, e.lab = l) ∧
      ∀ ρ a w, (∀ t, t ∈ o.looksAt all.toArray → ∀ v, look si t = some v → a.tmps[t]? = some (v.den ρ) ∧ v.wf st.lo) → (∀ e ∈ L0, 0 < e.cs.length → ∃ b off, (ρ e.lab).1 = some ⟨b, off, none⟩) → Hp n0 ρ w Ai st.lo →
        ∀ (next : Act → World → Prop) (Q : Exit → Act → World → Prop), (∀ ρ' w', st.v.wf st.hi → Agr st.lo st.hi ρ ρ' → (∀ l, st.ali = some l → ρ' st.lo = ρ' l) → (Below w.heap.size w w' ∧ News n0 Ai ρ ρ' w w' st.lo st.hi st.new) ∨ KillP n0 st.lo st.hi Ai st.kill ρ ρ' w w' st.new → next (a.put o.dst (st.v.den ρ')) w') →
          ∀ rd, wpOpIn (FR rd) 0 P all.toArray Q i next a w
  le : st.lo ≤ st.hi
  lo : nx0 ≤ st.lo
  disj : ∀ j sj, j < i → ds[j]? = some sj → sj.hi ≤ st.lo
  kills : ∀ l, st.kill = some l → l ∈ ks
  kop : ∀ l, st.kill = some l → ∃ o, all[i]? = some o ∧ isKillB o.op = true
  alk : ∀ l, st.ali = some l → st.kill = some l ∧ st.lo < st.hi
  once : ∀ j sj, j < i → ds[j]? = some sj → ∀ l, sj.kill = some l → st.kill ≠ some l
  fine : st.lo = nx0 ∨ (V.labs (LabP ds nx0 st) st.v ∧ ∀ e ∈ st.new, ∀ c ∈ e.cs, c.labs (LabP ds nx0 st))
theorem LookAt.app {all : List Oper} {s0 : S} {ds : List Stp} {i : Nat} {s : S} (h : LookAt all s0 ds i s) (r : List Stp) : LookAt all s0 (ds ++ r) i s := by
  intro t v hv
  rcases h t v hv with ⟨j, st, h1, h2, h3⟩ | h1
  · exact .inl ⟨j, st, h1, by rw [List.getElem?_append_left (List.getElem?_eq_some_iff.1 h2).1]; exact h2, h3⟩
  · exact .inr h1
theorem getElem?_app {α : Type} {ds r : List α} {j : Nat} {x : α} (h : ds[j]? = some x) : (ds ++ r)[j]? = some x := by
  rw [List.getElem?_append_left (List.getElem?_eq_some_iff.1 h).1]; exact h
theorem LabP.app {ds : List Stp} {nx0 : Nat} {st : Stp} {l : Nat} (r : List Stp) (h : LabP ds nx0 st l) : LabP (ds ++ r) nx0 st l := by
  rcases h with h | h | ⟨k, sk, h1, h2⟩
  · exact .inl h
  · exact .inr (.inl h)
  · exact .inr (.inr ⟨k, sk, getElem?_app h1, h2⟩)
theorem V.labs_mono {p q : Nat → Prop} (h : ∀ l, p l → q l) {v : V} (hv : v.labs p) : v.labs q := by
  have hc : ∀ c : C, c.labs p → c.labs q := by
    intro c hc
    cases c <;> simp only [C.labs] at *
    case ptr l o => exact h _ hc
    case sl l o => exact h _ hc
    case sub l o n k => exact h _ hc
    case mp l => exact h _ hc
    case fn f caps => exact fun x hx => h _ (hc x hx)
  have ha : ∀ c : A, c.labs p → c.labs q := by
    intro c h1
    cases c with
    | c x => exact hc x h1
    | agg l => exact fun x hx => hc x (h1 x hx)
  cases v with
  | a x => exact ha x hv
  | tup l => exact fun x hx => ha x (hv x hx)
theorem C.labs_mono {p q : Nat → Prop} (h : ∀ l, p l → q l) {c : C} (hc : c.labs p) : c.labs q := V.labs_mono h (v := V.c c) hc
theorem PStep.app {P : Program} {n0 N : Nat} {all : List Oper} {L0 : List E} {s0 : S} {nx0 : Nat} {ks : List Nat} {ds : List Stp} {i : Nat} {st : Stp} (hi : i < ds.length) (h : PStep P n0 N all L0 s0 nx0 ks ds i st) (r : List Stp) : PStep P n0 N all L0 s0 nx0 ks (ds ++ r) i st := by
  obtain ⟨⟨o, h1, h2, h3, si, Ai, h4, h5, h7, h6⟩, hle, hlo, hd, hk, hko, hak, hon, hf⟩ := h
  refine ⟨⟨o, h1, h2, h3, si, Ai, h4.app r, fun e he => ⟨?_, (h5 e he).2⟩, h7, h6⟩, hle, hlo, fun j sj hj hs => hd j sj hj (by rwa [List.getElem?_append_left (by omega)] at hs), hk, hko, hak, fun j sj hj hs => hon j sj hj (by rwa [List.getElem?_append_left (by omega)] at hs), ?_⟩
  · rcases (h5 e he).1 with h5 | ⟨j, sj, q1, q2, q3⟩
    · exact .inl h5
    · exact .inr ⟨j, sj, q1, getElem?_app q2, q3⟩
  · rcases hf with hf | ⟨f1, f2⟩
    · exact .inl hf
    · exact .inr ⟨V.labs_mono (fun l hl => hl.app r) f1, fun e he c hc => C.labs_mono (fun l hl => hl.app r) (f2 e he c hc)⟩
/-- A mask bit names an operation that went before. -/
theorem maskOf_spec {all : List Oper} {ms : List Nat} {o : Oper} (D : Nat → Prop) (hms : ∀ j m, ms[j]? = some m → D j → ∀ k, Nat.testBit m k = true → D k)
    (ho : ∀ e ∈ o.after, Region.binds .any e = true → D e.on) : ∀ k, Nat.testBit (maskOf ms o) k = true → D k := by
  have key : ∀ (l : List Edge) (m0 : Nat), (∀ k, Nat.testBit m0 k = true → D k) → (∀ e ∈ l, Region.binds .any e = true → D e.on) →
      ∀ k, Nat.testBit (l.foldl (fun m e => bif Region.binds .any e then m ||| 2 ^ e.on ||| ms.getD e.on 0 else m) m0) k = true → D k := by
    intro l
    induction l with
    | nil => intro m0 h0 _ k hk; exact h0 k hk
    | cons e r ih =>
      intro m0 h0 hl k hk
      simp only [List.foldl_cons] at hk
      refine ih _ ?_ (fun e' he' => hl e' (by simp [he'])) k hk
      intro k' hk'
      cases hb : Region.binds .any e with
      | false => rw [hb] at hk'; exact h0 k' hk'
      | true =>
        rw [hb] at hk'
        simp only [cond_true, Nat.testBit_or, Bool.or_eq_true] at hk'
        have hon := hl e (by simp) hb
        rcases hk' with (hk' | hk') | hk'
        · exact h0 k' hk'
        · rw [Nat.testBit_two_pow] at hk'
          have : e.on = k' := by simpa using hk'
          rw [← this]; exact hon
        · rw [List.getD_eq_getElem?_getD] at hk'
          cases hm : ms[e.on]? with
          | none => rw [hm] at hk'; simp at hk'
          | some m => rw [hm] at hk'; exact hms _ _ hm hon k' hk'
  intro k hk
  exact key o.after.toList 0 (by simp) (fun e he => ho e (by simpa using he)) k hk

/- An operation of a region that draws has one outcome, told ahead. -/
def Det1 {α : Type} (F : (α → Prop) → Prop) : Prop := ∀ K, F K → ∃ v, F (fun u => u = v) ∧ K v
def Det3 (F : (V → List E → Nat → Prop) → Prop) : Prop := ∀ K, F K → ∃ v new nx', F (fun v' n' x' => v' = v ∧ n' = new ∧ x' = nx') ∧ K v new nx'
theorem onV_mk {α : Type} {o : Option α} {x : α} {k : α → Prop} (h : o = some x) (hk : k x) : onV o k := by rw [h]; exact hk
theorem Det1.on {α β : Type} {o : Option α} {F : α → (β → Prop) → Prop} (h : ∀ x, Det1 (F x)) : Det1 (fun K => onV o fun x => F x K) := by
  intro K hK
  obtain ⟨x, hx, h1⟩ := onV_iff hK
  obtain ⟨v, h2, h3⟩ := h x K h1
  exact ⟨v, onV_mk hx h2, h3⟩
theorem Det3.on {α : Type} {o : Option α} {F : α → (V → List E → Nat → Prop) → Prop} (h : ∀ x, Det3 (F x)) : Det3 (fun K => onV o fun x => F x K) := by
  intro K hK
  obtain ⟨x, hx, h1⟩ := onV_iff hK
  obtain ⟨v, n, m, h2, h3⟩ := h x K h1
  exact ⟨v, n, m, onV_mk hx h2, h3⟩
theorem Det1.ret {α : Type} (v : α) : Det1 (fun K => K v) := fun K h => ⟨v, rfl, h⟩
theorem Det3.ret (v : V) (n : List E) (m : Nat) : Det3 (fun K => K v n m) := fun K h => ⟨v, n, m, ⟨rfl, rfl, rfl⟩, h⟩
theorem Det1.and {α : Type} {p : Prop} {F : (α → Prop) → Prop} (h : Det1 F) : Det1 (fun K => p ∧ F K) := fun K hK => by
  obtain ⟨v, h1, h2⟩ := h K hK.2; exact ⟨v, ⟨hK.1, h1⟩, h2⟩
theorem Det3.and {p : Prop} {F : (V → List E → Nat → Prop) → Prop} (h : Det3 F) : Det3 (fun K => p ∧ F K) := fun K hK => by
  obtain ⟨v, n, m, h1, h2⟩ := h K hK.2; exact ⟨v, n, m, ⟨hK.1, h1⟩, h2⟩
theorem Det1.ex {α β : Type} {p : β → Prop} {F : β → (α → Prop) → Prop} (h : ∀ b, Det1 (F b)) : Det1 (fun K => ∃ b, p b ∧ F b K) := fun K ⟨b, hb, hK⟩ => by
  obtain ⟨v, h1, h2⟩ := h b K hK; exact ⟨v, ⟨b, hb, h1⟩, h2⟩
theorem Det1.no {α : Type} : Det1 (fun (_ : α → Prop) => False) := fun _ h => h.elim
theorem Det3.no : Det3 (fun _ => False) := fun _ h => h.elim
theorem Det1.to3 {α : Type} {F : (α → Prop) → Prop} (h : Det1 F) (f : α → V) (g : α → List E) (k : Nat) (hm : ∀ K K' : α → Prop, (∀ v, K v → K' v) → F K → F K') : Det3 (fun K => F fun v => K (f v) (g v) k) := fun K hK => by
  obtain ⟨v, h1, h2⟩ := h _ hK
  exact ⟨f v, g v, k, hm _ _ (fun u hu => by subst hu; exact ⟨rfl, rfl, rfl⟩) h1, h2⟩
section
variable {T : List (Nat × TD)} {L : List E} {s : S} {nx : Nat}
theorem det_load (d : TD) (x : Option V) : Det1 (rdLoad L d x) := by
  unfold rdLoad
  split
  · refine Det1.on fun e => ?_
    split
    · exact Det1.ex fun c => Det1.ret _
    · refine Det1.ex fun c => ?_
      cases Nat.blt 0 d.size
      · exact Det1.no
      · exact Det1.ret _
  · exact Det1.no
theorem det_idxA (t : Nat) (x i : Option V) : Det1 (rdIdxA T L t x i) := by
  unfold rdIdxA
  refine Det1.on fun d => ?_
  split
  · split
    · exact Det1.on fun _ => Det1.on fun _ => Det1.and (Det1.ret _)
    · exact Det1.on fun _ => Det1.on fun _ => Det1.and (Det1.ret _)
    · exact Det1.on fun _ => Det1.on fun _ => Det1.and (Det1.ret _)
    · exact Det1.no
  · exact Det1.no
theorem det_fldA (t : Nat) (x : Option V) (f : Nat) : Det1 (rdFldA T L t x f) := by
  unfold rdFldA
  refine Det1.on fun d => ?_
  split
  · refine Det1.on fun _ => Det1.on fun _ => Det1.on fun _ => ?_
    split
    · exact Det1.no
    · exact Det1.and (Det1.ret _)
  · exact Det1.no
theorem det_part (t : Nat) (l : List C) (o : Nat) : Det1 (rdPart T t l o) := by
  unfold rdPart
  refine Det1.on fun d => ?_
  split
  · exact Det1.ex fun c => Det1.ret _
  · exact Det1.ex fun c => Det1.ret _
theorem det_fld (t : Nat) (x : Option V) (f : Nat) : Det1 (rdFld T t x f) := by
  unfold rdFld
  refine Det1.on fun d => ?_
  split
  · exact Det1.on fun p => det_part _ _ _
  · exact Det1.no
theorem det_idx (t : Nat) (x i : Option V) : Det1 (rdIdx T t x i) := by
  unfold rdIdx
  refine Det1.on fun d => ?_
  split
  · split
    · exact Det1.on fun _ => Det1.and (det_part _ _ _)
    · exact Det1.no
  · exact Det1.no
theorem det_un (op : UnOp) (x : Option V) : Det1 (rdUn op x) := by
  unfold rdUn
  split
  · exact Det1.ret _
  · exact Det1.ret _
  · exact Det1.ret _
  · exact Det1.and (Det1.ret _)
  · exact Det1.no
theorem det_conv (a b : Nat) (x : Option V) : Det1 (rdConv T a b x) := by
  unfold rdConv
  refine Det1.on fun d => Det1.on fun _ => ?_
  split
  · exact Det1.and (Det1.ret _)
  · exact Det1.no
theorem Det1.same {α : Type} {k k' : IntKind} {F : (α → Prop) → Prop} (h : Det1 F) : Det1 (fun K => sameK k k' (F K)) := by
  unfold sameK; split <;> first | exact h | exact Det1.no
theorem Mon'.same {α : Type} {k k' : IntKind} {F : (α → Prop) → Prop} (h : ∀ K K' : α → Prop, (∀ v, K v → K' v) → F K → F K') : ∀ K K' : α → Prop, (∀ v, K v → K' v) → sameK k k' (F K) → sameK k k' (F K') := by
  intro K K' hk; unfold sameK; split <;> first | exact h K K' hk | exact id
theorem det_binI (op : BinOp) (k k' : IntKind) (x y : Int) : Det1 (binI op k k' x y) := by
  unfold binI
  split <;> first | exact Det1.same (Det1.ret _) | exact Det1.same (Det1.and (Det1.ret _)) | exact Det1.and (Det1.ret _) | exact Det1.no | (split <;> first | exact Det1.and (Det1.ret _) | exact Det1.no)
theorem det_bin (t : Nat) (op : BinOp) (x y : Option V) : Det1 (rdBin T t op x y) := by
  unfold rdBin
  split
  · exact det_binI _ _ _ _ _
  · refine Det1.on fun p => Det1.on fun q => Det1.on fun d => ?_
    split
    · exact Det1.ret _
    · exact Det1.ret _
    · exact Det1.no
  · exact Det1.no
theorem det_binL (t : Nat) (op : BinOp) (x y : Option V) : Det1 (rdBinL T L t op x y) := by
  unfold rdBinL
  split
  · refine Det1.on fun d => Det1.on fun en => ?_
    split
    · exact Det1.and (Det1.ret _)
    · exact Det1.and (Det1.ret _)
    · exact Det1.no
  · refine Det1.on fun d => ?_
    split
    · refine Det1.on fun de => ?_
      split
      · refine Det1.on fun b => ?_
        split
        · exact Det1.ret _
        · exact Det1.ret _
        · exact Det1.no
      · exact Det1.no
    · refine Det1.on fun b => ?_
      split
      · exact Det1.ret _
      · exact Det1.ret _
      · exact Det1.no
    · exact Det1.no
  · exact det_bin _ _ _ _
theorem det_build (t : Nat) (ps : List (Nat × Operand)) : Det1 (rdBuild T s t ps) := by
  unfold rdBuild
  refine Det1.on fun d => Det1.on fun p => ?_
  split
  · exact Det1.on fun _ => Det1.on fun _ => Det1.ret _
  · exact Det1.on fun _ => Det1.on fun _ => Det1.ret _
  · exact Det1.no
theorem det_buildS (t n : Nat) (ps : List (Nat × Operand)) : Det3 (rdBuildS T s nx t n ps) := by
  unfold rdBuildS
  refine Det3.on fun d => Det3.on fun p => ?_
  split
  · exact Det3.on fun _ => Det3.on fun _ => Det3.and (Det3.ret _ _ _)
  · exact Det3.no
theorem det_make (t : Nat) (n m : Option V) : Det3 (rdMake T nx t n m) := by
  unfold rdMake
  refine Det3.on fun d => ?_
  split
  · exact Det3.on fun _ => Det3.and (Det3.ret _ _ _)
  · exact Det3.no
theorem det_len (t : Nat) (x : Option V) : Det1 (lenC T t x) := by
  unfold lenC
  refine Det1.on fun d => ?_
  split
  · exact Det1.ret _
  · exact Det1.ret _
  · exact Det1.ret _
  · exact Det1.ret _
  · exact Det1.no
theorem det_slice (t : Nat) (x : Option V) (lo hi : Option Operand) : Det3 (rdSlice T L nx s t x lo hi) := by
  unfold rdSlice
  refine Det3.on fun d => ?_
  split
  · refine Det3.on fun _ => Det3.on fun en => ?_
    split
    · split
      · exact Det3.on fun _ => Det3.and (Det3.ret _ _ _)
      · split
        · exact Det3.on fun _ => Det3.and (Det3.ret _ _ _)
        · exact Det3.no
    · split
      · split
        · split
          · exact Det3.and (Det3.ret _ _ _)
          · split
            · exact Det3.and (Det3.ret _ _ _)
            · exact Det3.no
        · split
          · exact Det3.and (Det3.ret _ _ _)
          · split
            · exact Det3.and (Det3.ret _ _ _)
            · exact Det3.no
        · exact Det3.no
      · exact Det3.no
  · exact Det3.no
theorem to3 {F : (V → Prop) → Prop} (h : Det1 F) (hm : ∀ K K' : V → Prop, (∀ v, K v → K' v) → F K → F K') : Det3 (fun K => F fun v => K v [] nx) := Det1.to3 h id (fun _ => []) nx hm
theorem onV_mono {α : Type} {o : Option α} {k k' : α → Prop} (h : ∀ x, k x → k' x) (ho : onV o k) : onV o k' := by
  obtain ⟨x, hx, h1⟩ := onV_iff ho; exact onV_mk hx (h x h1)
def Mon {α : Type} (F : (α → Prop) → Prop) : Prop := ∀ K K' : α → Prop, (∀ v, K v → K' v) → F K → F K'
theorem Mon.on {α β : Type} {o : Option α} {F : α → (β → Prop) → Prop} (h : ∀ x, Mon (F x)) : Mon (fun K => onV o fun x => F x K) := fun K K' hk => onV_mono fun x => h x K K' hk
theorem Mon.ret {α : Type} (v : α) : Mon (fun K => K v) := fun K K' h => h v
theorem Mon.and {α : Type} {p : Prop} {F : (α → Prop) → Prop} (h : Mon F) : Mon (fun K => p ∧ F K) := fun K K' hk hK => ⟨hK.1, h K K' hk hK.2⟩
theorem Mon.ex {α β : Type} {p : β → Prop} {F : β → (α → Prop) → Prop} (h : ∀ b, Mon (F b)) : Mon (fun K => ∃ b, p b ∧ F b K) := fun K K' hk ⟨b, hb, hK⟩ => ⟨b, hb, h b K K' hk hK⟩
theorem Mon.no {α : Type} : Mon (fun (_ : α → Prop) => False) := fun _ _ _ h => h
theorem mon_load (d : TD) (x : Option V) : Mon (rdLoad L d x) := by
  unfold rdLoad
  split
  · refine Mon.on fun e => ?_
    split
    · exact Mon.ex fun c => Mon.ret _
    · refine Mon.ex fun c => ?_
      cases Nat.blt 0 d.size
      · exact Mon.no
      · exact Mon.ret _
  · exact Mon.no
theorem mon_idxA (t : Nat) (x i : Option V) : Mon (rdIdxA T L t x i) := by
  unfold rdIdxA
  refine Mon.on fun d => ?_
  split
  · split
    · exact Mon.on fun _ => Mon.on fun _ => Mon.and (Mon.ret _)
    · exact Mon.on fun _ => Mon.on fun _ => Mon.and (Mon.ret _)
    · exact Mon.on fun _ => Mon.on fun _ => Mon.and (Mon.ret _)
    · exact Mon.no
  · exact Mon.no
theorem mon_fldA (t : Nat) (x : Option V) (f : Nat) : Mon (rdFldA T L t x f) := by
  unfold rdFldA
  refine Mon.on fun d => ?_
  split
  · refine Mon.on fun _ => Mon.on fun _ => Mon.on fun _ => ?_
    split
    · exact Mon.no
    · exact Mon.and (Mon.ret _)
  · exact Mon.no
theorem mon_part (t : Nat) (l : List C) (o : Nat) : Mon (rdPart T t l o) := by
  unfold rdPart
  refine Mon.on fun d => ?_
  split
  · exact Mon.ex fun c => Mon.ret _
  · exact Mon.ex fun c => Mon.ret _
theorem mon_fld (t : Nat) (x : Option V) (f : Nat) : Mon (rdFld T t x f) := by
  unfold rdFld
  refine Mon.on fun d => ?_
  split
  · exact Mon.on fun p => mon_part _ _ _
  · exact Mon.no
theorem mon_idx (t : Nat) (x i : Option V) : Mon (rdIdx T t x i) := by
  unfold rdIdx
  refine Mon.on fun d => ?_
  split
  · split
    · exact Mon.on fun _ => Mon.and (mon_part _ _ _)
    · exact Mon.no
  · exact Mon.no
theorem mon_un (op : UnOp) (x : Option V) : Mon (rdUn op x) := by
  unfold rdUn
  split
  · exact Mon.ret _
  · exact Mon.ret _
  · exact Mon.ret _
  · exact Mon.and (Mon.ret _)
  · exact Mon.no
theorem mon_conv (a b : Nat) (x : Option V) : Mon (rdConv T a b x) := by
  unfold rdConv
  refine Mon.on fun d => Mon.on fun _ => ?_
  split
  · exact Mon.and (Mon.ret _)
  · exact Mon.no
theorem mon_bin (t : Nat) (op : BinOp) (x y : Option V) : Mon (rdBin T t op x y) := by
  unfold rdBin
  split
  · unfold binI
    split <;> first | exact Mon'.same (Mon.ret _) | exact Mon'.same (Mon.and (Mon.ret _)) | exact Mon.and (Mon.ret _) | exact Mon.no | (split <;> first | exact Mon.and (Mon.ret _) | exact Mon.no)
  · refine Mon.on fun p => Mon.on fun q => Mon.on fun d => ?_
    split
    · exact Mon.ret _
    · exact Mon.ret _
    · exact Mon.no
  · exact Mon.no
theorem mon_binL (t : Nat) (op : BinOp) (x y : Option V) : Mon (rdBinL T L t op x y) := by
  unfold rdBinL
  split
  · refine Mon.on fun d => Mon.on fun en => ?_
    split
    · exact Mon.and (Mon.ret _)
    · exact Mon.and (Mon.ret _)
    · exact Mon.no
  · refine Mon.on fun d => ?_
    split
    · refine Mon.on fun de => ?_
      split
      · refine Mon.on fun b => ?_
        split
        · exact Mon.ret _
        · exact Mon.ret _
        · exact Mon.no
      · exact Mon.no
    · refine Mon.on fun b => ?_
      split
      · exact Mon.ret _
      · exact Mon.ret _
      · exact Mon.no
    · exact Mon.no
  · exact mon_bin _ _ _ _
theorem mon_build (t : Nat) (ps : List (Nat × Operand)) : Mon (rdBuild T s t ps) := by
  unfold rdBuild
  refine Mon.on fun d => Mon.on fun p => ?_
  split
  · exact Mon.on fun _ => Mon.on fun _ => Mon.ret _
  · exact Mon.on fun _ => Mon.on fun _ => Mon.ret _
  · exact Mon.no
theorem mon_len (t : Nat) (x : Option V) : Mon (lenC T t x) := by
  unfold lenC
  refine Mon.on fun d => ?_
  split
  · exact Mon.ret _
  · exact Mon.ret _
  · exact Mon.ret _
  · exact Mon.ret _
  · exact Mon.no
theorem det_keyK (ks : KS) (i : Option V) : Det1 (keyK ks i) := by
  unfold keyK
  split
  · exact Det1.and (Det1.ret _)
  · exact Det1.on fun _ => Det1.and (Det1.ret _)
  · exact Det1.no
theorem mon_keyK (ks : KS) (i : Option V) : Mon (keyK ks i) := by
  unfold keyK
  split
  · exact Mon.and (Mon.ret _)
  · exact Mon.on fun _ => Mon.and (Mon.ret _)
  · exact Mon.no
theorem Det1.bind {α β : Type} {F : (α → Prop) → Prop} {G : α → (β → Prop) → Prop} (hF : Det1 F) (mF : Mon F) (hG : ∀ a, Det1 (G a)) : Det1 (fun K => F fun a => G a K) := by
  intro K h
  obtain ⟨a, h1, h2⟩ := hF _ h
  obtain ⟨v, h3, h4⟩ := hG a K h2
  exact ⟨v, mF _ _ (fun u hu => by subst hu; exact h3) h1, h4⟩
theorem Mon.bind {α β : Type} {F : (α → Prop) → Prop} {G : α → (β → Prop) → Prop} (mF : Mon F) (mG : ∀ a, Mon (G a)) : Mon (fun K => F fun a => G a K) := fun K K' hk h => mF _ _ (fun a ha => mG a K K' hk ha) h
theorem det_look (t : Nat) (x i : Option V) (ok : Bool) : Det1 (rdLook T L t x i ok) := by
  unfold rdLook
  refine Det1.on fun d => ?_
  split
  · refine Det1.on fun en => ?_
    split
    · split
      · refine Det1.bind (det_keyK _ _) (mon_keyK _ _) fun ns => Det1.ex fun o => ?_
        split
        · exact Det1.ret _
        · exact Det1.ret _
      · exact Det1.no
    · exact Det1.no
  · exact Det1.no
theorem mon_look (t : Nat) (x i : Option V) (ok : Bool) : Mon (rdLook T L t x i ok) := by
  unfold rdLook
  refine Mon.on fun d => ?_
  split
  · refine Mon.on fun en => ?_
    split
    · split
      · refine Mon.bind (mon_keyK _ _) fun ns => Mon.ex fun o => ?_
        split
        · exact Mon.ret _
        · exact Mon.ret _
      · exact Mon.no
    · exact Mon.no
  · exact Mon.no
theorem det_mkMap (t : Nat) : Det3 (rdMkMap T nx t) := by
  unfold rdMkMap
  refine Det3.on fun d => ?_
  split
  · exact Det3.ret _ _ _
  · exact Det3.no
theorem rd_det (P : Program) (n0 : Nat) (op : Op) : Det3 (rd (HD P n0) T L nx s op) := by
  unfold rd
  split
  · exact Det3.on fun v => Det3.ret _ _ _
  · exact Det3.on fun v => Det3.ret _ _ _
  · split
    · exact Det3.on fun v => Det3.ret _ _ _
    · exact Det3.on fun v => Det3.ret _ _ _
    · rename_i a b p _
      intro K hK
      cases p with
      | true =>
        obtain ⟨x, hx, h1⟩ := onV_iff (hK.1 rfl)
        exact ⟨x, [], nx, ⟨(fun _ => onV_mk hx ⟨rfl, rfl, rfl⟩), (fun h => by cases h)⟩, h1⟩
      | false =>
        obtain ⟨x, hx, h1⟩ := onV_iff (hK.2 rfl)
        exact ⟨x, [], nx, ⟨(fun h => by cases h), fun _ => onV_mk hx ⟨rfl, rfl, rfl⟩⟩, h1⟩
    · exact Det3.no
  · exact Det3.on fun v => Det3.ret _ _ _
  · split
    · exact Det3.ret _ _ _
    · exact Det3.no
  · exact to3 (det_build _ _) (mon_build _ _)
  · exact det_buildS _ _ _
  · exact Det3.on fun d => to3 (det_load _ _) (mon_load _ _)
  · exact Det1.to3 (det_binL _ _ _ _) V.c (fun _ => []) nx (mon_binL _ _ _ _)
  · exact to3 (det_un _ _) (mon_un _ _)
  · exact to3 (det_conv _ _ _) (mon_conv _ _ _)
  · exact to3 (det_fldA _ _ _) (mon_fldA _ _ _)
  · exact to3 (det_fld _ _ _) (mon_fld _ _ _)
  · exact to3 (det_idxA _ _ _) (mon_idxA _ _ _)
  · exact to3 (det_idx _ _ _) (mon_idx _ _ _)
  · split
    · exact Det3.on fun c => Det3.ret _ _ _
    · exact Det3.no
  · exact det_make _ _ _
  · exact det_slice _ _ _ _
  · split
    · exact Det3.on fun vs => Det3.on fun cp => Det3.ret _ _ _
    · exact Det3.no
  · split
    · exact Det3.on fun e => Det3.and (Det3.ret _ _ _)
    · exact Det3.ret _ _ _
    · exact Det3.no
  · rename_i c
    unfold rdCall
    split
    · split
      · refine Det3.on fun vs K hK => ?_
        obtain ⟨v, new, nx', h1, h2⟩ := hK
        exact ⟨v, new, nx', ⟨v, new, nx', h1, rfl, rfl, rfl⟩, h2⟩
      · exact Det3.no
    · split
      · exact to3 (det_len _ _) (mon_len _ _)
      · exact Det3.no
    · split
      · split
        · exact Det3.ret _ _ _
        · exact Det3.no
      · exact Det3.no
    · split
      · split
        · exact Det3.ret _ _ _
        · exact Det3.no
      · exact Det3.no
    · exact Det3.no
  · exact to3 (det_look _ _ _ _) (mon_look _ _ _ _)
  · exact det_mkMap _
  · exact Det3.no
end

/- Regions that draw: from the text's order to whatever order. -/
section
variable {P : Program} {T : List (Nat × TD)} {n0 N nx0 : Nat} {all : List Oper} {L0 : List E} {s0 : S}
theorem CallK.mono {f : FuncId} {vs : List V} {L : List E} {nx : Nat} {K K' : V → List E → Nat → Prop} (h : CallK P n0 f vs L nx K) (hk : ∀ v n x, K v n x → K' v n x) : CallK P n0 f vs L nx K' :=
  ⟨h.ok, fun ρ w hp hv => (h.run ρ w hp hv).mono fun e w' ⟨v, new, nx', ρ', h1, h2, h3, h4, h5, h6, h7⟩ => ⟨v, new, nx', ρ', h1, h2, h3, h4, h5, h6, hk _ _ _ h7⟩⟩
theorem HD_call {g : FuncId} {vs : List V} {L : List E} {nx : Nat} {K : V → List E → Nat → Prop} (h : HD P n0 g vs L nx K) : CallK P n0 g vs L nx K := by
  obtain ⟨v, new, nx', h1, h2⟩ := h
  exact h1.mono fun v' n' x' ⟨e1, e2, e3⟩ => by rw [e1, e2, e3]; exact h2
structure AccP (all : List Oper) (s0 : S) (nx0 : Nat) (ds : List Stp) (i : Nat) (ms dead : List Nat) (news : List Ne) (s : S) (nx : Nat) : Prop where
  len : ds.length = i
  mlen : ms.length = i
  look : LookAt all s0 ds i s
  msk : ∀ D, Closed all D → ∀ (j m : Nat), ms[j]? = some m → D j → ∀ k, Nat.testBit m k = true → D k
  news : ∀ x ∈ news, ∃ st, ds[x.i]? = some st ∧ st.new = x.es ∧ st.lo = x.lo ∧ st.hi = x.hi ∧ st.ali = x.al
  hi : ∀ (j : Nat) (st : Stp), ds[j]? = some st → st.hi ≤ nx
  le : nx0 ≤ nx
  gone : ∀ (j : Nat) (st : Stp), ds[j]? = some st → ∀ l, st.kill = some l → l ∈ dead
theorem selN_mem {m : Nat} {L0 : List E} : ∀ {news : List Ne} {e : E}, e ∈ selN m L0 news → e ∈ L0 ∨ ∃ x ∈ news, Nat.testBit m x.i = true ∧ e ∈ x.es
  | [], e, h => .inl h
  | x :: r, e, h => by
    simp only [selN, tb_eq] at h
    cases hb : Nat.testBit m x.i with
    | true =>
      rw [hb] at h
      rcases List.mem_append.1 h with h | h
      · exact .inr ⟨x, by simp, hb, h⟩
      · rcases selN_mem h with h | ⟨y, h1, h2⟩
        · exact .inl h
        · exact .inr ⟨y, by simp [h1], h2⟩
    | false =>
      rw [hb] at h
      rcases selN_mem h with h | ⟨y, h1, h2⟩
      · exact .inl h
      · exact .inr ⟨y, by simp [h1], h2⟩
theorem flatN_mem {L0 : List E} : ∀ {news : List Ne} {e : E}, e ∈ flatN L0 news → e ∈ L0 ∨ ∃ x ∈ news, e ∈ x.es
  | [], e, h => .inl h
  | x :: r, e, h => by
    rcases List.mem_append.1 h with h | h
    · exact .inr ⟨x, by simp, h⟩
    · rcases flatN_mem h with h | ⟨y, h1, h2⟩
      · exact .inl h
      · exact .inr ⟨y, by simp [h1], h2⟩
theorem LookAt.put {ds : List Stp} {i : Nat} {s : S} (h : LookAt all s0 ds i s) (hl : ds.length = i) {o : Oper} (ho : all[i]? = some o) (st : Stp) : LookAt all s0 (ds ++ [st]) (i + 1) (putS s o.dst st.v) := by
  have hg : gslot all i = o.dst := by simp [gslot, ho]
  have hst : (ds ++ [st])[i]? = some st := by rw [← hl]; simp
  have hold : ∀ t v, o.dst ≠ some t → look s t = some v → (∃ j st', j < i + 1 ∧ (ds ++ [st])[j]? = some st' ∧ gslot all j = some t ∧ (∀ ρ, v.den ρ = st'.v.den ρ) ∧ ∀ n, st'.v.wf n → v.wf n) ∨
      ((∀ j, j < i + 1 → gslot all j ≠ some t) ∧ ∃ v0, look s0 t = some v0 ∧ (∀ ρ, v.den ρ = v0.den ρ) ∧ ∀ n, v0.wf n → v.wf n) := by
    intro t v hne hv
    rcases h t v hv with ⟨j, st', h1, h2, h3⟩ | ⟨h1, h2⟩
    · exact .inl ⟨j, st', by omega, getElem?_app h2, h3⟩
    · refine .inr ⟨fun j hj => ?_, h2⟩
      by_cases hji : j = i
      · subst hji; rw [hg]; exact hne
      · exact h1 j (by omega)
  intro t v hv
  cases hd : o.dst with
  | none => rw [hd] at hv; exact hold t v (by rw [hd]; simp) hv
  | some d =>
    rw [hd] at hv
    simp only [putS, Go.Proofs.Ytjijjncddjkdlaa.look] at hv
    cases hb : Nat.beq d t with
    | true =>
      rw [hb] at hv
      cases hv
      have := Nat.eq_of_beq_eq_true hb
      subst this
      exact .inl ⟨i, st, by omega, hst, by rw [hg, hd], fun _ => rfl, fun _ hw => hw⟩
    | false =>
      rw [hb] at hv
      have hne : d ≠ t := fun e => by rw [e] at hb; simp at hb
      exact hold t v (by rw [hd]; intro e; cases e; exact hne rfl) hv
theorem LookAt.lit {ds : List Stp} {i : Nat} {s : S} (h : LookAt all s0 ds i s) {t : Nat} {p : Bool} (hl : look s t = some (.a (.c (.bool p)))) {c : C} (hc : ∀ ρ, c.den ρ = .bool p) (hw : ∀ n, c.wf n) : LookAt all s0 ds i ((t, V.c c) :: s) := by
  intro t' v hv
  simp only [look] at hv
  cases hb : Nat.beq t t' with
  | true =>
    rw [hb] at hv
    cases hv
    have := Nat.eq_of_beq_eq_true hb
    subst this
    rcases h t _ hl with ⟨j, st, h1, h2, h3, h4, h5⟩ | ⟨h1, v0, h2, h3, h4⟩
    · exact .inl ⟨j, st, h1, h2, h3, fun ρ => by rw [← h4 ρ]; exact hc ρ, fun n _ => hw n⟩
    · exact .inr ⟨h1, v0, h2, fun ρ => by rw [← h3 ρ]; exact hc ρ, fun n _ => hw n⟩
  | false => rw [hb] at hv; exact h t' v hv
theorem okLab_spec {ds : List Stp} {ms : List Nat} {i : Nat} {news : List Ne} {s : S} {nx : Nat} {dead : List Nat} (ha : AccP all s0 nx0 ds i ms dead news s nx) {v : V} {new : List E} {nx' m : Nat} {kl al : Option Nat} {r : List Stp} {l : Nat} (h : okLab nx0 m nx nx' news l = true) : LabP (ds ++ r) nx0 ⟨v, new, nx, nx', m, kl, al⟩ l := by
  simp only [okLab, Bool.or_eq_true, Bool.and_eq_true] at h
  rcases h with (h | h) | h
  · exact .inl (Nat.le_of_ble_eq_true h)
  · exact .inr (.inl ⟨Nat.le_of_ble_eq_true h.1, Nat.le_of_ble_eq_true h.2⟩)
  · obtain ⟨x, hx, h1, h2, h3⟩ := inNews_spec h
    obtain ⟨st, e1, e2, e3, e4, _⟩ := ha.news x hx
    exact .inr (.inr ⟨x.i, st, getElem?_app e1, h1, by rw [e3]; exact h2, by rw [e4]; exact h3⟩)
theorem looks_op {o : Oper} {t : Nat} (h : Operand.tmp t ∈ o.op.operands) : t ∈ o.looksAt all.toArray := by
  unfold Oper.looksAt
  refine List.mem_append.2 (.inl ?_)
  exact List.mem_filterMap.2 ⟨.tmp t, by simpa using h, rfl⟩
theorem looks_guard {o : Oper} {j t : Nat} {want : Bool} (hg : o.guard = some (j, want)) (ht : gslot all j = some t) : t ∈ o.looksAt all.toArray := by
  unfold Oper.looksAt
  refine List.mem_append.2 (.inr ?_)
  unfold gslot at ht
  split at ht
  · rename_i o' ho'; simp [hg, ho', ht]
  · cases ht
/-- The facts that an operation is met with. -/
def Met (ρ : Env) (a : Act) (o : Oper) (all : List Oper) (s : S) (nx : Nat) : Prop := ∀ t, t ∈ o.looksAt all.toArray → ∀ v, look s t = some v → a.tmps[t]? = some (v.den ρ) ∧ v.wf nx
theorem Met.ev {ρ : Env} {a : Act} {o : Oper} {s : S} {nx : Nat} (h : Met ρ a o all s nx) : ∀ x ∈ o.op.operands, ∀ v, ev s x = some v → a.eval x = v.den ρ ∧ v.wf nx := by
  intro x hx v hv
  cases x with
  | tmp t =>
    obtain ⟨h1, h2⟩ := h t (looks_op hx) v hv
    exact ⟨by simp [Act.eval, h1], h2⟩
  | const c => obtain ⟨h1, h2⟩ := V.ofV_ok hv ρ nx; exact ⟨h1.symm, h2⟩
  | global g => cases hv
  | func f => cases hv; exact ⟨rfl, by simp [V.wf, A.wf, C.wf]⟩
theorem good_run (hT : TOK P T) {o : Oper} {i : Nat} (ho : all[i]? = some o) {Ai : List E} {nx nx' : Nat} {si : S} {v : V} {new : List E} (h : rd (HD P n0) T Ai nx si o.op fun v' n' x' => v' = v ∧ n' = new ∧ x' = nx') {ρ : Env} {a : Act} {w : World}
    (hm : Met ρ a o all si nx) (hp : Hp n0 ρ w Ai nx) (hw : Region.wanted o (yielded all.toArray a.tmps) = true) {next : Act → World → Prop} {Q : Exit → Act → World → Prop}
    (hK : ∀ ρ' w', v.wf nx' → Agr nx nx' ρ ρ' → Below w.heap.size w w' → News n0 Ai ρ ρ' w w' nx nx' new → next (a.put o.dst (v.den ρ')) w') : ∀ rd, wpOpIn (FR rd) 0 P all.toArray Q i next a w := by
  intro rd
  unfold wpOpIn
  simp only [List.getElem?_toArray, ho, hw, if_true]
  refine Oper.wpR (rd_nodefer h) (rd_ok hT (fun _ _ _ hh => HD_call hh) hp hm.ev h ?_)
  rintro v' new' nx2 ρ' w' ⟨rfl, rfl, rfl⟩ h1 h2 h3 h4 h5
  exact hK ρ' w' h2 h3 h4 h5
theorem good_skip {o : Oper} {i : Nat} (ho : all[i]? = some o) {Ai : List E} {nx : Nat} {ρ : Env} {a : Act} {w : World} (hw : Region.wanted o (yielded all.toArray a.tmps) = false) {next : Act → World → Prop} {Q : Exit → Act → World → Prop}
    (hK : ∀ ρ' w', (V.tup []).wf nx → Agr nx nx ρ ρ' → Below w.heap.size w w' → News n0 Ai ρ ρ' w w' nx nx [] → next (a.put o.dst ((V.tup []).den ρ')) w') : ∀ rd, wpOpIn (FR rd) 0 P all.toArray Q i next a w := by
  intro rd
  unfold wpOpIn
  simp only [List.getElem?_toArray, ho, hw]
  refine ⟨fun _ _ => trivial, ?_⟩
  exact hK ρ w (by simp [V.wf]) (Agr.refl _ _) (Below.refl _ _) News.nil
/-- The plan: what each head yields. -/
theorem dr_plan (hT : TOK P T) : ∀ {ks : List Nat} {l : List Oper} {K : K4} {i : Nat} {ms dead : List Nat} {news : List Ne} {s : S} {nx : Nat} {ds : List Stp}, dr P T n0 N all L0 nx0 ks l K i ms dead news s nx → AccP all s0 nx0 ds i ms dead news s nx →
    (∀ j, j < l.length → all[i + j]? = l[j]?) →
    ∃ rest : List Stp, rest.length = l.length ∧ (∀ j st, i ≤ j → (ds ++ rest)[j]? = some st → PStep P n0 N all L0 s0 nx0 ks (ds ++ rest) j st) ∧
      ∃ msF deadF newsF sF nxF, AccP all s0 nx0 (ds ++ rest) (i + l.length) msF deadF newsF sF nxF ∧ K deadF newsF sF nxF
  | ks, [], K, i, ms, dead, news, s, nx, ds, h, ha, _ => ⟨[], rfl, fun j st hj hs => by
      rw [List.append_nil] at hs
      have := (List.getElem?_eq_some_iff.1 hs).1
      have := ha.len
      omega, ms, dead, news, s, nx, by simpa using ha, h⟩
  | ks, o :: r, K, i, ms, dead, news, s, nx, ds, h, ha, hl => by
    have ho : all[i]? = some o := by have := hl 0 (by simp); simpa using this
    simp only [dr] at h
    cases hd : dstB N o.dst with
    | false => rw [hd] at h; exact h.elim
    | true =>
    rw [hd] at h
    simp only [cond_true, forceN_eq] at h
    generalize hm : maskOf ms o = m at h
    have hanc : ∀ D, Closed all D → (∀ e ∈ o.after, Region.binds .any e = true → D e.on) → ∀ k, Nat.testBit m k = true → D k := fun D hc he k hk => by
      rw [← hm] at hk
      exact maskOf_spec (all := all) D (fun j m' hj hD => ha.msk D hc j m' hj hD) he k hk
    -- one step on, once what it yields is known
    have go : ∀ {s' : S} {st : Stp} {dead' : List Nat} {news' : List Ne}, LookAt all s0 ds i s' → dead' = addN st.kill dead → (∀ l, st.kill = some l → l ∈ ks ∧ l ∉ dead) → st.m = m → st.lo = nx → nx ≤ st.hi → (news' = news ∨ news' = ⟨i, st.lo, st.hi, st.new, st.ali⟩ :: news) → (∀ l, st.ali = some l → st.kill = some l ∧ st.lo < st.hi) → (∀ l, st.kill = some l → isKillB o.op = true) →
        (∃ Ai : List E, (∀ e ∈ Ai, e ∈ selN m L0 news ∧ (e.lab ∉ ks ∨ st.kill = some e.lab ∨ freeB all i = true)) ∧ (∀ l, st.ali = some l → ∃ e ∈ Ai, e.lab = l) ∧ ∀ ρ a w, Met ρ a o all s' nx → (∀ e ∈ L0, 0 < e.cs.length → ∃ b off, (ρ e.lab).1 = some ⟨b, off, none⟩) → Hp n0 ρ w Ai nx → ∀ (next : Act → World → Prop) (Q : Exit → Act → World → Prop), (∀ ρ' w', st.v.wf st.hi → Agr nx st.hi ρ ρ' → (∀ l, st.ali = some l → ρ' st.lo = ρ' l) → (Below w.heap.size w w' ∧ News n0 Ai ρ ρ' w w' nx st.hi st.new) ∨ KillP n0 nx st.hi Ai st.kill ρ ρ' w w' st.new → next (a.put o.dst (st.v.den ρ')) w') → ∀ rd, wpOpIn (FR rd) 0 P all.toArray Q i next a w) →
        (nx = nx0 ∨ ∀ r, V.labs (LabP (ds ++ r) nx0 st) st.v ∧ ∀ e ∈ st.new, ∀ c ∈ e.cs, c.labs (LabP (ds ++ r) nx0 st)) →
        dr P T n0 N all L0 nx0 ks r K (i + 1) (ms ++ [m]) dead' news' (putS s' o.dst st.v) st.hi →
        ∃ rest : List Stp, rest.length = (o :: r).length ∧ (∀ j st, i ≤ j → (ds ++ rest)[j]? = some st → PStep P n0 N all L0 s0 nx0 ks (ds ++ rest) j st) ∧
          ∃ msF deadF newsF sF nxF, AccP all s0 nx0 (ds ++ rest) (i + (o :: r).length) msF deadF newsF sF nxF ∧ K deadF newsF sF nxF := by
      intro s' st dead' news' hlook hdead hkill hstm hstlo hsthi hnews halk hkop ⟨Ai, hAi, hali, hgood⟩ hfine hrest
      have hacc : AccP all s0 nx0 (ds ++ [st]) (i + 1) (ms ++ [m]) dead' news' (putS s' o.dst st.v) st.hi := by
        refine ⟨by simp [ha.len], by simp [ha.mlen], hlook.put ha.len ho st, ?_, ?_, ?_, Nat.le_trans ha.le hsthi, ?_⟩
        · intro D hc j m' hj hD
          by_cases hji : j < i
          · rw [List.getElem?_append_left (by rw [ha.mlen]; exact hji)] at hj
            exact ha.msk D hc j m' hj hD
          · have hlt := (List.getElem?_eq_some_iff.1 hj).1
            simp [ha.mlen] at hlt
            have : j = i := by omega
            subst this
            rw [← ha.mlen] at hj
            simp at hj
            subst hj
            exact hanc D hc (fun e he hb => hc j o ho hD e he hb)
        · intro x hx
          rcases hnews with rfl | rfl
          · obtain ⟨st', h1, h2⟩ := ha.news x hx
            exact ⟨st', getElem?_app h1, h2⟩
          · rcases List.mem_cons.1 hx with rfl | hx
            · exact ⟨st, by simp only; rw [← ha.len]; simp, rfl, rfl, rfl, rfl⟩
            · obtain ⟨st', h1, h2⟩ := ha.news x hx
              exact ⟨st', getElem?_app h1, h2⟩
        · intro j st' hj
          by_cases hji : j < i
          · rw [List.getElem?_append_left (by rw [ha.len]; exact hji)] at hj
            exact Nat.le_trans (ha.hi j st' hj) hsthi
          · have hlt := (List.getElem?_eq_some_iff.1 hj).1
            simp [ha.len] at hlt
            have : j = i := by omega
            subst this
            rw [← ha.len] at hj
            simp at hj
            subst hj
            exact Nat.le_refl _
        · intro j st' hj l hl
          rw [hdead]
          by_cases hji : j < i
          · rw [List.getElem?_append_left (by rw [ha.len]; exact hji)] at hj
            have := ha.gone j st' hj l hl
            cases hk : st.kill with
            | none => exact this
            | some k => exact List.mem_cons_of_mem _ this
          · have hlt := (List.getElem?_eq_some_iff.1 hj).1
            simp [ha.len] at hlt
            have : j = i := by omega
            subst this
            rw [← ha.len] at hj
            simp at hj
            subst hj
            rw [hl]; exact List.mem_cons_self
      obtain ⟨rest, h1, h2, msF, deadF, newsF, sF, nxF, h3, h4⟩ := dr_plan hT hrest hacc (fun j hj => by have := hl (j + 1) (by simp; omega); rw [show i + 1 + j = i + (j + 1) by omega, this]; simp)
      have heq : ds ++ [st] ++ rest = ds ++ st :: rest := by simp
      rw [heq] at h2 h3
      refine ⟨st :: rest, by simp [h1], fun j st' hj hs => ?_, msF, deadF, newsF, sF, nxF, by rw [show i + (o :: r).length = i + 1 + r.length by simp; omega]; exact h3, h4⟩
      by_cases hji : j = i
      · subst hji
        have hst : (ds ++ st :: rest)[j]? = some st := by rw [← ha.len]; simp
        rw [hst] at hs
        cases hs
        refine ⟨⟨o, ho, hd, by rw [hstm]; exact hanc, s', Ai, hlook.app _, fun e he => ⟨?_, (hAi e he).2⟩, hali, ?_⟩, by rw [hstlo]; exact hsthi, by rw [hstlo]; exact ha.le, ?_, fun l hl => (hkill l hl).1, fun l hl => ⟨o, ho, hkop l hl⟩, halk, ?_, ?_⟩
        · rcases selN_mem (hAi e he).1 with he | ⟨x, hx, hb, hxe⟩
          · exact .inl he
          · obtain ⟨st', e1, e2, _⟩ := ha.news x hx
            refine .inr ⟨x.i, st', ?_, getElem?_app e1, by rw [hstm]; exact hb, by rw [e2]; exact hxe⟩
            have := (List.getElem?_eq_some_iff.1 e1).1
            have := ha.len
            omega
        · rw [hstlo]; exact fun ρ a w hmet hadr hp next Q hK => hgood ρ a w hmet hadr hp next Q (fun ρ' w' a1 a2 a3 => hK ρ' w' a1 a2 (fun l hl => by rw [← hstlo]; exact a3 l hl))
        · intro k sk hk hsk
          rw [List.getElem?_append_left (by rw [ha.len]; exact hk)] at hsk
          rw [hstlo]; exact ha.hi k sk hsk
        · intro k sk hk hsk l hl hl2
          rw [List.getElem?_append_left (by rw [ha.len]; exact hk)] at hsk
          exact (hkill l hl2).2 (ha.gone k sk hsk l hl)
        · rw [hstlo]
          exact hfine.imp id (fun hf => hf _)
      · exact h2 j st' (by omega) hs
    have run : ∀ {s' : S}, LookAt all s0 ds i s' → drRun P T n0 all L0 nx0 ks dead i m news o (fun dead' news' s' nx' => dr P T n0 N all L0 nx0 ks r K (i + 1) (ms ++ [m]) dead' news' s' nx') s' nx →
        (∀ ρ a, Met ρ a o all s' nx → Region.wanted o (yielded all.toArray a.tmps) = true) →
        ∃ rest : List Stp, rest.length = (o :: r).length ∧ (∀ j st, i ≤ j → (ds ++ rest)[j]? = some st → PStep P n0 N all L0 s0 nx0 ks (ds ++ rest) j st) ∧
          ∃ msF deadF newsF sF nxF, AccP all s0 nx0 (ds ++ rest) (i + (o :: r).length) msF deadF newsF sF nxF ∧ K deadF newsF sF nxF := by
      intro s' hlook hr hw
      -- what is checked of the labels
      have fin : ∀ {v : V} {new : List E} {nx' : Nat} {R : Prop}, fineK nx0 m nx nx' news v new R → nx ≤ nx' ∧ R ∧ ∀ kl al, (nx = nx0 ∨ ∀ r', V.labs (LabP (ds ++ r') nx0 ⟨v, new, nx, nx', m, kl, al⟩) v ∧ ∀ e ∈ new, ∀ c ∈ e.cs, c.labs (LabP (ds ++ r') nx0 ⟨v, new, nx, nx', m, kl, al⟩)) := by
        intro v new nx' R h2
        unfold fineK at h2
        split at h2
        · exact h2.elim
        · rename_i hble
          refine ⟨Nat.le_of_ble_eq_true hble, ?_⟩
          split at h2
          · rename_i hb; exact ⟨h2, fun kl al => .inl (Nat.eq_of_beq_eq_true hb)⟩
          · obtain ⟨⟨hf1, hf2⟩, h3⟩ := h2
            exact ⟨h3, fun kl al => .inr fun r' => ⟨V.labs_of_chk (fun l hl => okLab_spec ha hl) hf1, fun e he c hc => C.labs_of_chk (fun l hl => okLab_spec ha hl) (List.all_eq_true.1 (List.all_eq_true.1 hf2 e he) c hc)⟩⟩
      unfold drRun at hr
      split at hr
      · rename_i x y t t' happ
        obtain ⟨u, u', v, new, kl, Ai, hu, hu', h2, hvw, hkl, hAi, hrun⟩ := apK_ok hT hr
        obtain ⟨hle, h3, hf⟩ := fin h2
        rw [putK_eq] at h3
        refine go (st := ⟨v, new, nx, nx + 1, m, kl, none⟩) hlook rfl hkl rfl rfl hle (.inr rfl) (fun l hl => (by cases hl)) (fun l _ => by simp [isKillB, happ]) ⟨Ai, fun e he => ⟨(hAi e he).1, (hAi e he).2.imp id .inl⟩, fun l hl => (by cases hl), fun ρ a w hmet hadr hp next Q hK rd => ?_⟩ (hf kl none) h3
        unfold wpOpIn
        simp only [List.getElem?_toArray, ho, hw ρ a hmet, if_true]
        obtain ⟨ρ', w', g1, g2, g3⟩ := hrun ρ w o.type hp
        obtain ⟨hop, hx, hy⟩ : (∃ args argTypes, o.op = .call ⟨.builtin .append, args, argTypes⟩ ∧ args = #[x, y] ∧ argTypes = #[t, t']) ∧ x ∈ o.op.operands ∧ y ∈ o.op.operands := by
          unfold appOf at happ
          split at happ
          · rename_i args argTypes hop
            split at happ
            · rename_i x1 y1 t1 t1' hx1 ht1
              cases happ
              have ha1 : args = #[x, y] := by apply Array.ext'; exact hx1
              have ht1' : argTypes = #[t, t'] := by apply Array.ext'; exact ht1
              subst ha1 ht1'
              rw [hop]
              exact ⟨⟨_, _, rfl, rfl, rfl⟩, by simp [Op.operands, Call.operands], by simp [Op.operands, Call.operands]⟩
            · cases happ
          · cases happ
        obtain ⟨args, argTypes, hop, rfl, rfl⟩ := hop
        have e1 := (hmet.ev x hx u hu).1
        have e2 := (hmet.ev y hy u' hu').1
        have hex : (execOp a.eval o).run P w = .ok (.value (v.den ρ')) w' := by
          obtain ⟨dst, op, ty, pos, after, guard⟩ := o
          simp only at hop
          subst hop
          simp only [execOp, resolve, Sem.run_bind, Sem.run_pure, Result.andThen, invoke, builtin, List.map_toArray, List.map_cons, List.map_nil, e1, e2, g3]
        exact Oper.wpR (fun c => by rw [hop]; simp) (wp_value hex (hK ρ' w' hvw g2 (fun l hl => (by cases hl)) (.inr g1)))
      split at hr
      · rename_i t x v0 hst
        obtain ⟨u, u', l, new, Ai, hu, hu', h2, hkl, hAi, hal, hrun⟩ := stK_ok hT hr
        obtain ⟨hle, h3, hf⟩ := fin h2
        rw [putK_eq] at h3
        refine go (st := ⟨.tup [], new, nx, nx + 1, m, some l, some l⟩) hlook rfl (fun l' hl' => (by cases hl'; exact hkl)) rfl rfl hle (.inr rfl) (fun l' hl' => (by cases hl'; exact ⟨rfl, Nat.lt_succ_self nx⟩)) (fun l' _ => by simp [isKillB, hst]) ⟨Ai, fun e he => ⟨(hAi e he).1, (hAi e he).2.imp id .inl⟩, fun l' hl' => (by cases hl'; exact hal), fun ρ a w hmet hadr hp next Q hK rd => ?_⟩ (hf (some l) (some l)) h3
        unfold wpOpIn
        simp only [List.getElem?_toArray, ho, hw ρ a hmet, if_true]
        obtain ⟨hop, hx, hy⟩ : o.op = .store t x v0 ∧ x ∈ o.op.operands ∧ v0 ∈ o.op.operands := by
          unfold stOf at hst
          split at hst
          · rename_i t1 x1 v1 hop
            cases hst
            rw [hop]
            exact ⟨rfl, by simp [Op.operands], by simp [Op.operands]⟩
          · cases hst
        have e1 := (hmet.ev x hx u hu).1
        have e2 := (hmet.ev v0 hy u' hu').1
        obtain ⟨ρ', w', g1, g2, g4, g3⟩ := hrun ρ w hp (hmet.ev v0 hy u' hu').2
        have hex : (execOp a.eval o).run P w = .ok .skip w' := by
          obtain ⟨dst, op, ty, pos, after, guard⟩ := o
          simp only at hop
          subst hop
          simp only [execOp, e1, e2, Sem.run_bind, g3, Result.andThen, Sem.run_pure]
        refine Oper.wpR (fun c => by rw [hop]; simp) ?_
        unfold Oper.wp
        rw [hex]
        exact hK ρ' w' (by simp [V.wf]) g2 (fun l' hl' => (by cases hl'; exact g4)) (.inr g1)
      split at hr
      · rename_i t x y hadrO
        obtain ⟨v, h1, h2⟩ := det_idxA t (ev s' x) (ev s' y) _ hr
        obtain ⟨hle, h3, hf⟩ := fin h2
        rw [putK_eq] at h3
        obtain ⟨hop, hx, hy⟩ : o.op = .indexAddr t x y ∧ x ∈ o.op.operands ∧ y ∈ o.op.operands := by
          unfold adrOf at hadrO
          split at hadrO
          · rename_i t1 x1 i1 hop
            have : t1 = t ∧ x1 = x ∧ i1 = y := by
              split at hadrO
              · rename_i l n _; cases hm' : memN l ks <;> rw [hm'] at hadrO <;> simp at hadrO; exact hadrO
              · rename_i l n _ _ _; cases hm' : memN l ks <;> rw [hm'] at hadrO <;> simp at hadrO; exact hadrO
              · rename_i l n _; cases hm' : memN l ks <;> rw [hm'] at hadrO <;> simp at hadrO; exact hadrO
              · cases hadrO
            obtain ⟨rfl, rfl, rfl⟩ := this
            rw [hop]
            exact ⟨rfl, by simp [Op.operands], by simp [Op.operands]⟩
          · cases hadrO
        refine go (st := ⟨v, [], nx, nx, m, none, none⟩) hlook rfl (fun l hl => (by cases hl)) rfl rfl (Nat.le_refl _) (.inl rfl) (fun l hl => (by cases hl)) (fun l hl => (by cases hl)) ⟨[], by simp, fun l hl => (by cases hl), fun ρ a w hmet hadr hp next Q hK rd => ?_⟩ (hf none none) h3
        unfold wpOpIn
        simp only [List.getElem?_toArray, ho, hw ρ a hmet, if_true]
        obtain ⟨v', u, j, hu, hj, rfl, hwf, hr2⟩ := rdIdxA_okA (ρ := ρ) (w := w) (nx := nx) hT hadr h1
        have e1 := hmet.ev x hx u hu
        have e2 := (hmet.ev y hy j hj).1
        have hex : (execOp a.eval o).run P w = .ok (.value (v'.den ρ)) w := by
          obtain ⟨dst, op, ty, pos, after, guard⟩ := o
          simp only at hop
          subst hop
          simp only [execOp, e1.1, e2, Sem.run_bind, hr2, Result.andThen, Sem.run_pure]
        exact Oper.wpR (fun c => by rw [hop]; simp) (wp_value hex (hK ρ w (hwf e1.2) (Agr.refl _ _) (fun l hl => (by cases hl)) (.inl ⟨Below.refl _ _, News.nil⟩)))
      · obtain ⟨v, new, nx', h1, h2⟩ := rd_det P n0 o.op _ hr
        obtain ⟨hle, h3, hf⟩ := fin h2
        rw [putK_eq] at h3
        have h4 : ∃ news', (news' = news ∨ news' = ⟨i, nx, nx', new, none⟩ :: news) ∧ dr P T n0 N all L0 nx0 ks r K (i + 1) (ms ++ [m]) dead news' (putS s' o.dst v) nx' := by
          unfold consN at h3
          split at h3
          · exact ⟨_, .inl rfl, h3⟩
          · exact ⟨_, .inr rfl, h3⟩
        obtain ⟨news', h5, h6⟩ := h4
        refine go (st := ⟨v, new, nx, nx', m, none, none⟩) hlook rfl (fun l hl => (by cases hl)) rfl rfl hle h5 (fun l hl => (by cases hl)) (fun l hl => (by cases hl)) ⟨visF all ks i (selN m L0 news), fun e he => ⟨(visF_mem he).1, (visF_mem he).2.imp id .inr⟩, fun l hl => (by cases hl), fun ρ a w hmet hadr hp next Q hK => good_run hT ho h1 hmet hp (hw ρ a hmet) (fun ρ' w' q1 q2 q3 q4 => hK ρ' w' q1 q2 (fun l hl => (by cases hl)) (.inl ⟨q3, q4⟩))⟩ (hf none none) h6
    have skip : ∀ {s' : S}, LookAt all s0 ds i s' → (putK s' o.dst (.tup []) fun s2 => dr P T n0 N all L0 nx0 ks r K (i + 1) (ms ++ [m]) dead news s2 nx) →
        (∀ ρ a, Met ρ a o all s' nx → Region.wanted o (yielded all.toArray a.tmps) = false) →
        ∃ rest : List Stp, rest.length = (o :: r).length ∧ (∀ j st, i ≤ j → (ds ++ rest)[j]? = some st → PStep P n0 N all L0 s0 nx0 ks (ds ++ rest) j st) ∧
          ∃ msF deadF newsF sF nxF, AccP all s0 nx0 (ds ++ rest) (i + (o :: r).length) msF deadF newsF sF nxF ∧ K deadF newsF sF nxF := by
      intro s' hlook hr hw
      rw [putK_eq] at hr
      exact go (st := ⟨.tup [], [], nx, nx, m, none, none⟩) hlook rfl (fun l hl => (by cases hl)) rfl rfl (Nat.le_refl _) (.inl rfl) (fun l hl => (by cases hl)) (fun l hl => (by cases hl)) ⟨[], by simp, fun l hl => (by cases hl), fun ρ a w hmet hadr hp next Q hK => good_skip (Ai := []) ho (hw ρ a hmet) (fun ρ' w' q1 q2 q3 q4 => hK ρ' w' q1 q2 (fun l hl => (by cases hl)) (.inl ⟨q3, q4⟩))⟩ (.inr fun r' => ⟨by simp [V.labs], by simp⟩) hr
    split at h
    · rename_i hg
      exact run ha.look h (fun ρ a _ => by simp [Region.wanted, hg])
    · rename_i j want hg
      split at h
      · exact h.elim
      · rename_i t ht
        have hwant : ∀ {s' : S} {v : V} {ρ : Env} {a : Act}, look s' t = some v → Met ρ a o all s' nx → Region.wanted o (yielded all.toArray a.tmps) = (vb (v.den ρ) == some want) := fun hv hmet => by
          simp only [Region.wanted, hg, yielded_slot ht (hmet t (looks_guard hg ht) _ hv).1]
        split at h
        · rename_i hl
          cases want
          · exact skip ha.look h (fun ρ a hmet => by rw [hwant hl hmet]; rfl)
          · exact run ha.look h (fun ρ a hmet => by rw [hwant hl hmet]; rfl)
        · rename_i hl
          cases want
          · exact run ha.look h (fun ρ a hmet => by rw [hwant hl hmet]; rfl)
          · exact skip ha.look h (fun ρ a hmet => by rw [hwant hl hmet]; rfl)
        · rename_i p hl
          have hls : ∀ c : C, look ((t, V.c c) :: s) t = some (V.c c) := fun c => by simp [look]
          by_cases hpw : p = want
          · subst hpw
            refine run (ha.look.lit hl (c := bif p then .tt else .ff) (fun ρ => by cases p <;> rfl) (fun n => by cases p <;> trivial)) (h.1 rfl) (fun ρ a hmet => ?_)
            rw [hwant (hls _) hmet]; cases p <;> rfl
          · have hpn : p = !want := by cases p <;> cases want <;> simp_all
            subst hpn
            refine skip (ha.look.lit hl (c := bif want then .ff else .tt) (fun ρ => by cases want <;> rfl) (fun n => by cases want <;> trivial)) (h.2 rfl) (fun ρ a hmet => ?_)
            rw [hwant (hls _) hmet]; cases want <;> rfl
        · rename_i l hl
          exact skip ha.look h (fun ρ a hmet => by rw [hwant hl hmet]; rfl)
        · exact h.elim
end

/- Regions that draw: whatever order comes, the heads leave what the text's order leaves. -/
def apartB (ops : Array Oper) (k i : Nat) : Bool :=
  match ops[k]?, ops[i]? with
  | some x, some y => x.apart ops y
  | _, _ => false
def dneB (ops : Array Oper) (k i : Nat) : Bool :=
  match ops[k]?, ops[i]? with
  | some x, some y => (match x.dst, y.dst with | some d, some e => !Nat.beq d e | _, _ => true)
  | _, _ => false
def edgesB (ops : Array Oper) (i : Nat) : Bool :=
  match ops[i]? with
  | some o => o.after.all fun e => !Region.binds .any e || Nat.blt e.on i
  | none => false
/-- The heads: whatever does not wait for another shares no slot with it. -/
def headB (ops : Array Oper) (n : Nat) : Bool :=
  (List.range n).all fun i => edgesB ops i && (List.range i).all fun k => (Region.waitsFor .any ops i k || apartB ops k i) && dneB ops k i
def listedN (n m : Nat) : Array Bool := (List.replicate n true ++ List.replicate m false).toArray
def drawB (ops : Array Oper) (n : Nat) : Bool :=
  decide (n ≤ ops.size) && headB ops n && (decide (n = ops.size) || (Region.sinkB .any ops n && Region.chainB .any ops n)) && Region.seqB .any ops (ops.size - n) n (listedN n (ops.size - n))
section
variable {P : Program} {T : List (Nat × TD)} {n0 N nx0 : Nat} {all : List Oper} {L0 : List E} {s0 : S} {ks : List Nat} {ds : List Stp} {n : Nat}
theorem headB_spec (h : headB all.toArray n = true) {i k : Nat} (hi : i < n) (hk : k < i) :
    (Region.waitsFor .any all.toArray i k = true ∨ ∃ x y, all[k]? = some x ∧ all[i]? = some y ∧ x.apart all.toArray y = true) ∧ (∀ d, gslot all k = some d → gslot all i ≠ some d) := by
  have h1 := List.all_eq_true.1 h i (List.mem_range.2 hi)
  simp only [Bool.and_eq_true] at h1
  have h2 := List.all_eq_true.1 h1.2 k (List.mem_range.2 hk)
  simp only [Bool.and_eq_true, Bool.or_eq_true] at h2
  refine ⟨h2.1.imp id (fun h3 => ?_), fun d hd he => ?_⟩
  · unfold apartB at h3
    split at h3
    · rename_i x y hx hy
      exact ⟨x, y, by simpa using hx, by simpa using hy, h3⟩
    · cases h3
  · have h3 := h2.2
    unfold dneB at h3
    unfold gslot at hd he
    split at h3
    · rename_i x y hx hy
      simp only [List.getElem?_toArray] at hx hy
      rw [hx] at hd
      rw [hy] at he
      simp only at hd he
      rw [hd, he] at h3
      simp at h3
    · cases h3
theorem headB_edges (h : headB all.toArray n = true) {i : Nat} (hi : i < n) {o : Oper} (ho : all[i]? = some o) : ∀ e ∈ o.after, Region.binds .any e = true → e.on < i := by
  have h1 := List.all_eq_true.1 h i (List.mem_range.2 hi)
  simp only [Bool.and_eq_true] at h1
  have h2 := h1.1
  unfold edgesB at h2
  simp only [List.getElem?_toArray, ho] at h2
  intro e he hb
  have h3 := Array.all_eq_true'.1 h2 e he
  simp only [hb, Bool.not_true, Bool.false_or] at h3
  exact Nat.le_of_ble_eq_true h3
theorem gslot_some {i : Nat} {o : Oper} (ho : all[i]? = some o) : gslot all i = o.dst := by simp [gslot, ho]
theorem part_list {α : Type} (L : List α) (p : α → Prop) : ∃ Lo : List α, (∀ e ∈ Lo, e ∈ L ∧ p e) ∧ ∀ e ∈ L, p e → e ∈ Lo := by
  induction L with
  | nil => exact ⟨[], by simp, by simp⟩
  | cons x r ih =>
    obtain ⟨Lo, h1, h2⟩ := ih
    by_cases hx : p x
    · refine ⟨x :: Lo, fun e he => ?_, fun e he hp => ?_⟩
      · rcases List.mem_cons.1 he with rfl | he
        · exact ⟨by simp, hx⟩
        · exact ⟨List.mem_cons_of_mem _ (h1 e he).1, (h1 e he).2⟩
      · rcases List.mem_cons.1 he with rfl | he
        · simp
        · exact List.mem_cons_of_mem _ (h2 e he hp)
    · refine ⟨Lo, fun e he => ⟨List.mem_cons_of_mem _ (h1 e he).1, (h1 e he).2⟩, fun e he hp => ?_⟩
      rcases List.mem_cons.1 he with rfl | he
      · exact absurd hp hx
      · exact h2 e he hp
/-- What has been made once the operations D have run. -/
def allD (L0 : List E) (ds : List Stp) (n : Nat) (D : Nat → Bool) : List E := L0 ++ (List.range n).flatMap fun j => bif D j then (match ds[j]? with | some st => st.new | none => []) else []
/-- No operation of D has done away with it. -/
def LiveE (ds : List Stp) (D : Nat → Bool) (e : E) : Prop := ∀ j sj, ds[j]? = some sj → D j = true → sj.kill ≠ some e.lab
/-- The state once the operations D have run. -/
structure DSt (n0 N nx0 : Nat) (all : List Oper) (L0 : List E) (s0 : S) (ds : List Stp) (n ny : Nat) (ρ0 : Env) (w0 : World) (df : List Deferred) (D : Nat → Bool) (ρ : Env) (a : Act) (w : World) : Prop where
  size : a.tmps.size = N
  defers : a.defers = df
  agr : AgrLt nx0 ρ0 ρ
  bel : Keep n0 Cx.top w0 w
  base : n0 ≤ w.heap.size
  hp : ∀ L', (∀ e ∈ L', e ∈ allD L0 ds n D ∧ LiveE ds D e) → Hp n0 ρ w L' ny
  wfd : ∀ j st, ds[j]? = some st → D j = true → st.v.wf st.hi ∧ ∀ e ∈ st.new, (st.lo ≤ e.lab ∧ e.lab < st.hi) ∧ ∀ c ∈ e.cs, c.wf st.hi
  done : ∀ j st d, ds[j]? = some st → D j = true → gslot all j = some d → a.tmps[d]? = some (st.v.den ρ)
  adr : ∀ e ∈ L0, 0 < e.cs.length → ∃ b off, (ρ e.lab).1 = some ⟨b, off, none⟩
  ali : ∀ j st, ds[j]? = some st → D j = true → ∀ l, st.ali = some l → ρ st.lo = ρ l
  old : ∀ t v, look s0 t = some v → (∀ j, j < n → D j = true → gslot all j ≠ some t) → a.tmps[t]? = some (v.den ρ)
theorem range_disj (hP : ∀ j st, ds[j]? = some st → PStep P n0 N all L0 s0 nx0 ks ds j st) {i j : Nat} {si sj : Stp} (hi : ds[i]? = some si) (hj : ds[j]? = some sj) (hne : i ≠ j) {l : Nat} (h1 : si.lo ≤ l ∧ l < si.hi) : ¬ (sj.lo ≤ l ∧ l < sj.hi) := by
  rcases Nat.lt_or_gt_of_ne hne with h | h
  · have := (hP j sj hj).disj i si h hi; omega
  · have := (hP i si hi).disj j sj h hj; omega
/-- The labels of what has run do not lie among those of an operation that has not. -/
theorem fine_off (hP : ∀ j st, ds[j]? = some st → PStep P n0 N all L0 s0 nx0 ks ds j st) {D : Nat → Bool} (hc : Closed all fun j => D j = true) {i j : Nat} {si sj : Stp} (hi : ds[i]? = some si) (hj : ds[j]? = some sj) (hDi : D i = false) (hDj : D j = true)
    (hw : sj.v.wf sj.hi ∧ ∀ e ∈ sj.new, (sj.lo ≤ e.lab ∧ e.lab < sj.hi) ∧ ∀ c ∈ e.cs, c.wf sj.hi) :
    sj.v.labs (fun l => ¬ (si.lo ≤ l ∧ l < si.hi)) ∧ ∀ e ∈ sj.new, ∀ c ∈ e.cs, c.labs (fun l => ¬ (si.lo ≤ l ∧ l < si.hi)) := by
  have hne : i ≠ j := fun e => by rw [e, hDj] at hDi; cases hDi
  have hq := hP j sj hj
  have hlo := (hP i si hi).lo
  rcases hq.fine with hf | ⟨f1, f2⟩
  · have key : ∀ l, l < sj.hi → ¬ (si.lo ≤ l ∧ l < si.hi) := fun l hl hh => by
      by_cases hl2 : l < nx0
      · omega
      · exact range_disj hP hi hj hne hh ⟨by omega, hl⟩
    exact ⟨V.labs_of_wf key hw.1, fun e he c hc => C.labs_of_wf key ((hw.2 e he).2 c hc)⟩
  · have key : ∀ l, LabP ds nx0 sj l → ¬ (si.lo ≤ l ∧ l < si.hi) := fun l hl hh => by
      rcases hl with hl | hl | ⟨k, sk, hk, hb, hl⟩
      · omega
      · exact range_disj hP hi hj hne hh hl
      · obtain ⟨o, ho, _, hanc, _⟩ := hq.oper
        have hDk := hanc _ hc (fun e he hbd => hc j o ho hDj e he hbd) k hb
        have hne2 : i ≠ k := fun e => by rw [e, hDk] at hDi; cases hDi
        exact range_disj hP hi hk hne2 hh hl
    exact ⟨V.labs_mono key f1, fun e he c hc => C.labs_mono key (f2 e he c hc)⟩
/-- One head more. -/
theorem DSt.step (hP : ∀ j st, ds[j]? = some st → PStep P n0 N all L0 s0 nx0 ks ds j st) (hn : ds.length = n) (hH : headB all.toArray n = true) {ny : Nat} (hny : ∀ (j : Nat) (st : Stp), ds[j]? = some st → st.hi ≤ ny) {ρ0 ρ : Env} {w0 w : World} {df : List Deferred} {a : Act} {D : Nat → Bool}
    (hL0 : ∀ e ∈ L0, e.lab < nx0 ∧ ∀ c ∈ e.cs, c.wf nx0) (hs0 : ∀ t v, look s0 t = some v → v.wf nx0)
    (h : DSt n0 N nx0 all L0 s0 ds n ny ρ0 w0 df D ρ a w) (hc : Closed all fun j => D j = true) {i : Nat} (hi : i < n) (hDi : D i = false) (hdeps : ∀ o, all[i]? = some o → ∀ e ∈ o.after, Region.binds .any e = true → D e.on = true)
    {next : Act → World → Prop} {Q : Exit → Act → World → Prop} (hK : ∀ ρ' a' w', DSt n0 N nx0 all L0 s0 ds n ny ρ0 w0 df (fun j => Nat.beq j i || D j) ρ' a' w' → next a' w') : ∀ rd, wpOpIn (FR rd) 0 P all.toArray Q i next a w := by
  intro rd
  obtain ⟨st, hst⟩ : ∃ st, ds[i]? = some st := ⟨ds[i]'(by omega), List.getElem?_eq_getElem (by omega)⟩
  obtain ⟨⟨o, ho, hdst, hanc, si, Ai, hlook, hAi, _, hgood⟩, hle, hlo, hdisj, hkills, _, _, honce, hfine⟩ := hP i st hst
  have hdep := hdeps o ho
  have hancD := hanc _ hc hdep
  -- a writer ahead has run, one behind has not
  have hmet : ∀ t, t ∈ o.looksAt all.toArray → ∀ v, look si t = some v → a.tmps[t]? = some (v.den ρ) ∧ v.wf st.lo := by
    intro t ht v hv
    rcases hlook t v hv with ⟨j, sj, hj, hsj, hg, hden, hwf⟩ | ⟨hnone, v0, hv0, hden, hwf⟩
    · have hDj : D j = true := by
        rcases (headB_spec hH hi hj).1 with hw | ⟨x, y, hx, hy, hap⟩
        · obtain ⟨oj, hoj, e, he, hb, hon⟩ := Region.waitsFor_spec hw
          simp only [List.getElem?_toArray, ho, Option.some.injEq] at hoj
          subst hoj
          rw [← hon]; exact hdep e he hb
        · obtain ⟨h1, _, _⟩ := Oper.apart_spec hap
          rw [ho] at hy; cases hy
          rw [gslot_some hx] at hg
          exact absurd ht (h1 t hg)
      refine ⟨by rw [hden ρ]; exact h.done j sj t hsj hDj hg, hwf _ ?_⟩
      exact V.wf_mono (hdisj j sj hj hsj) (h.wfd j sj hsj hDj).1
    · have hno : ∀ j, j < n → D j = true → gslot all j ≠ some t := by
        intro j hj hDj hg
        rcases Nat.lt_trichotomy j i with hji | hji | hji
        · exact hnone j hji hg
        · rw [hji] at hDj; rw [hDj] at hDi; cases hDi
        · rcases (headB_spec hH hj hji).1 with hw | ⟨x, y, hx, hy, hap⟩
          · obtain ⟨oj, hoj, e, he, hb, hon⟩ := Region.waitsFor_spec hw
            simp only [List.getElem?_toArray] at hoj
            have := hc j oj hoj hDj e he hb
            simp only [hon] at this
            rw [this] at hDi; cases hDi
          · obtain ⟨_, _, h3⟩ := Oper.apart_spec hap
            rw [ho] at hx; cases hx
            rw [gslot_some hy] at hg
            exact absurd ht (h3 t hg)
      exact ⟨by rw [hden ρ]; exact h.old t v0 hv0 hno, hwf _ (V.wf_mono hlo (hs0 t v0 hv0))⟩
  have hmemD : ∀ e, e ∈ allD L0 ds n D → e ∈ L0 ∨ ∃ j sj, ds[j]? = some sj ∧ D j = true ∧ e ∈ sj.new := by
    intro e he
    rcases List.mem_append.1 he with he | he
    · exact .inl he
    · obtain ⟨j, hj, he⟩ := List.mem_flatMap.1 he
      cases hD : D j with
      | false => rw [hD] at he; cases he
      | true =>
        rw [hD] at he
        simp only [cond_true] at he
        cases hds : ds[j]? with
        | none => rw [hds] at he; cases he
        | some sj => rw [hds] at he; exact .inr ⟨j, sj, hds, hD, he⟩
  have hinD : ∀ e j sj, ds[j]? = some sj → D j = true → e ∈ sj.new → e ∈ allD L0 ds n D := by
    intro e j sj hj hD he
    have hjn : j < n := by rw [← hn]; exact (List.getElem?_eq_some_iff.1 hj).1
    exact List.mem_append.2 (.inr (List.mem_flatMap.2 ⟨j, List.mem_range.2 hjn, by rw [hD, hj]; exact he⟩))
  have hsub : ∀ e ∈ Ai, e ∈ allD L0 ds n D ∧ LiveE ds D e := by
    intro e he
    refine ⟨?_, fun j sj hj hDj hk => ?_⟩
    · rcases (hAi e he).1 with he | ⟨j, sj, hj, hsj, hb, he⟩
      · exact List.mem_append.2 (.inl he)
      · exact hinD e j sj hsj (hancD j hb) he
    · rcases (hAi e he).2 with h1 | h1 | h1
      · exact h1 ((hP j sj hj).kills _ hk)
      · have hne : j ≠ i := fun e => by rw [e] at hDj; rw [hDj] at hDi; cases hDi
        rcases Nat.lt_or_gt_of_ne hne with hlt | hlt
        · exact honce j sj hlt hj _ hk h1
        · exact (hP j sj hj).once i st hlt hst _ h1 hk
      · obtain ⟨oj, hoj, hkb⟩ := (hP j sj hj).kop _ hk
        obtain ⟨e', he', hb', hon'⟩ := freeB_spec h1 (List.mem_of_getElem? hoj) hkb
        have := hc j oj hoj hDj e' (by simpa using he') hb'
        simp only [hon'] at this
        rw [this] at hDi; cases hDi
  have hpA : Hp n0 ρ w Ai st.lo := by
    have hp0 := h.hp Ai hsub
    refine ⟨hp0.base, hp0.ok, fun e he => ?_, hp0.fn, hp0.apart⟩
    rcases (hAi e he).1 with he | ⟨j, sj, hj, hsj, hb, he⟩
    · have := hL0 e he; exact ⟨Nat.lt_of_lt_of_le this.1 hlo, fun c hc => C.wf_mono hlo (this.2 c hc)⟩
    · have h1 := (h.wfd j sj hsj (hancD j hb)).2 e he
      have h2 := hdisj j sj hj hsj
      exact ⟨Nat.lt_of_lt_of_le h1.1.2 h2, fun c hc => C.wf_mono h2 (h1.2 c hc)⟩
  refine hgood ρ a w hmet h.adr hpA next Q ?_ rd
  intro ρ' w' hvw hagr halias hstep
  have hoff : ∀ l, ¬ (st.lo ≤ l ∧ l < st.hi) → ρ' l = ρ l := fun l hl => hagr l hl
  have hlow : ∀ l, l < nx0 → ρ' l = ρ l := fun l hl => hagr l (by omega)
  have hfo : ∀ j sj, ds[j]? = some sj → D j = true → sj.v.labs (fun l => ¬ (st.lo ≤ l ∧ l < st.hi)) ∧ ∀ e ∈ sj.new, ∀ c ∈ e.cs, c.labs (fun l => ¬ (st.lo ≤ l ∧ l < st.hi)) := fun j sj hj hDj => fine_off hP hc hst hj hDi hDj (h.wfd j sj hj hDj)
  apply hK ρ'
  have hbeq : ∀ j, (Nat.beq j i || D j) = true → j = i ∨ D j = true := fun j hj => by
    simp only [Bool.or_eq_true] at hj
    exact hj.imp Nat.eq_of_beq_eq_true id
  refine ⟨?_, ?_, ?_, ?_, ?_, ?_, ?_, ?_, fun e he hc0 => (by rw [hlow _ (hL0 e he).1]; exact h.adr e he hc0), ?_, ?_⟩
  · cases hd : o.dst <;> simp [Act.put, h.size]
  · rw [put_defers]; exact h.defers
  · exact fun l hl => (hlow l hl).trans (h.agr l hl)
  · rcases hstep with ⟨hb, _⟩ | hk
    · exact h.bel.trans (Keep.of hb h.base)
    · exact h.bel.trans (hk.keep h.base)
  · rcases hstep with ⟨hb, _⟩ | hk
    · exact Nat.le_trans h.base hb.size
    · exact Nat.le_trans h.base (hk.keep h.base).bel.size
  · intro L' hL'
    obtain ⟨Lo, hLo', hLo''⟩ := part_list L' (fun e => e ∈ allD L0 ds n D)
    have hLo := hLo'
    have hlive : ∀ e ∈ L', LiveE ds D e ∧ st.kill ≠ some e.lab := fun e he => ⟨fun j sj hj hDj => (hL' e he).2 j sj hj (by simp [hDj]), (hL' e he).2 i st hst (by simp)⟩
    have hcases : ∀ e ∈ L', e ∈ st.new ∨ e ∈ Lo := fun e he => by
      have h1 := (hL' e he).1
      by_cases h2 : e ∈ allD L0 ds n D
      · exact .inr (hLo'' e he h2)
      · left
        rcases List.mem_append.1 h1 with h1 | h1
        · exact absurd (List.mem_append.2 (.inl h1)) h2
        · obtain ⟨j, hj, he1⟩ := List.mem_flatMap.1 h1
          have he1 : e ∈ bif (Nat.beq j i || D j) then (match ds[j]? with | some st => st.new | none => []) else [] := he1
          cases hD : (Nat.beq j i || D j) with
          | false => rw [hD] at he1; cases he1
          | true =>
            rw [hD] at he1
            simp only [cond_true] at he1
            cases hds : ds[j]? with
            | none => rw [hds] at he1; cases he1
            | some sj =>
              rw [hds] at he1
              rcases hbeq j hD with rfl | hDj
              · rw [hst] at hds; cases hds; exact he1
              · exact absurd (hinD e j sj hds hDj he1) h2
    have hlab : ∀ e ∈ allD L0 ds n D, (¬ (st.lo ≤ e.lab ∧ e.lab < st.hi)) ∧ ∀ c ∈ e.cs, c.den ρ' = c.den ρ := fun e he => by
      rcases hmemD e he with he | ⟨j, sj, hj, hDj, he⟩
      · have := hL0 e he
        exact ⟨by omega, fun c hc => C.den_labs hlow (C.labs_of_wf (fun l hl => hl) (this.2 c hc))⟩
      · have h1 := (h.wfd j sj hj hDj).2 e he
        have hne : j ≠ i := fun e => by rw [e] at hDj; rw [hDj] at hDi; cases hDi
        exact ⟨range_disj hP hj hst hne h1.1, fun c hc => C.den_labs hoff ((hfo j sj hj hDj).2 e he c hc)⟩
    have hpb : Hp n0 ρ w (Ai ++ Lo) ny := h.hp _ fun e he => by
      rcases List.mem_append.1 he with he | he
      · exact hsub e he
      · exact ⟨(hLo e he).2, (hlive e (hLo e he).1).1⟩
    rcases hstep with ⟨hb, hnews⟩ | hk
    · refine (hpb.news (fun e he => List.mem_append.2 (.inl he)) hnews hb hagr (fun e he => ?_) (hny i st hst)).mono (fun e he => ?_) (Nat.le_refl _)
      · rcases List.mem_append.1 he with he | he
        · exact hlab e (hsub e he).1
        · exact hlab e (hLo e he).2
      · rcases hcases e he with he | he
        · exact List.mem_append.2 (.inl he)
        · exact List.mem_append.2 (.inr (List.mem_append.2 (.inr he)))
    · have hlh : st.lo < st.hi := by obtain ⟨_, _, _, _, _, hlh, _⟩ := hk; exact hlh
      refine (hpb.killed (L0 := Lo) hk (fun e he => List.mem_append.2 (.inl he)) (fun e he => ⟨List.mem_append.2 (.inr he), (hlive e (hLo e he).1).2⟩) (fun e he => ⟨fun he2 => (hlab e (hLo e he).2).1 (by omega), (hlab e (hLo e he).2).2⟩) (hny i st hst)).mono (fun e he => ?_) (Nat.le_refl _)
      rcases hcases e he with he | he
      · exact List.mem_append.2 (.inl he)
      · exact List.mem_append.2 (.inr he)
  · intro j sj hj hDj
    rcases hbeq j hDj with rfl | hDj
    · rw [hst] at hj; cases hj
      refine ⟨hvw, ?_⟩
      rcases hstep with ⟨_, hnews⟩ | hk
      · exact hnews.wf
      · obtain ⟨kd, cs, ob, ao, cap, hlh, _, hnew, hcs, _⟩ := hk
        intro y hy
        rw [hnew] at hy
        rw [List.mem_singleton.1 hy]
        exact ⟨⟨Nat.le_refl _, hlh⟩, fun c hc => C.wf_mono hle (hcs c hc)⟩
    · exact h.wfd j sj hj hDj
  · intro j sj d hj hDj hg
    rcases hbeq j hDj with rfl | hDj
    · rw [hst] at hj; cases hj
      rw [gslot_some ho] at hg
      rw [hg] at hdst ⊢
      have hd' : d < N := Nat.le_of_ble_eq_true hdst
      simp [Act.put, h.size, hd']
    · have hne : j ≠ i := fun e => by rw [e] at hDj; rw [hDj] at hDi; cases hDi
      have hjn : j < n := by rw [← hn]; exact (List.getElem?_eq_some_iff.1 hj).1
      have hdn : o.dst ≠ some d := by
        rw [← gslot_some ho]
        rcases Nat.lt_or_gt_of_ne hne with hlt | hlt
        · exact (headB_spec hH hi hlt).2 d hg
        · intro he; exact (headB_spec hH hjn hlt).2 d he hg
      have h1 := h.done j sj d hj hDj hg
      have h2 : (a.put o.dst (st.v.den ρ')).tmps[d]? = a.tmps[d]? := by
        cases hd : o.dst with
        | none => rfl
        | some x =>
          rw [hd] at hdn
          simp only [Act.put]
          rw [Array.getElem?_setIfInBounds_ne (fun e => hdn (by rw [e]))]
      rw [h2, h1, V.den_labs hoff (hfo j sj hj hDj).1]
  · intro j sj hj hDj l hl
    rcases hbeq j hDj with rfl | hDj
    · rw [hst] at hj; cases hj
      exact halias l hl
    · have hne : j ≠ i := fun e => by rw [e] at hDj; rw [hDj] at hDi; cases hDi
      have hlt := ((hP j sj hj).alk l hl).2
      have h1 : ρ' sj.lo = ρ sj.lo := hoff _ (range_disj hP hj hst hne ⟨Nat.le_refl _, hlt⟩)
      obtain ⟨oj, hoj, _, hancj, sij, Aij, _, hAij, halij, _⟩ := (hP j sj hj).oper
      obtain ⟨e, he, hel⟩ := halij l hl
      have h2 : ρ' l = ρ l := by
        rcases (hAij e he).1 with he1 | ⟨k, sk, hk, hsk, hb, he1⟩
        · exact hlow _ (by rw [← hel]; exact (hL0 e he1).1)
        · have hDk := hancj _ hc (fun e he hbd => hc j oj hoj hDj e he hbd) k hb
          have hne2 : k ≠ i := fun e => by rw [e] at hDk; rw [hDk] at hDi; cases hDi
          have h3 := ((h.wfd k sk hsk hDk).2 e he1).1
          exact hoff _ (range_disj hP hsk hst hne2 (by rw [← hel]; exact h3))
      rw [h1, h2]; exact h.ali j sj hj hDj l hl
  · intro t v hv hnone
    have h1 := h.old t v hv (fun j hj hDj => hnone j hj (by rw [hDj]; simp))
    have hdn : o.dst ≠ some t := by rw [← gslot_some ho]; exact hnone i hi (by simp)
    have h2 : (a.put o.dst (st.v.den ρ')).tmps[t]? = a.tmps[t]? := by
      cases hd : o.dst with
      | none => rfl
      | some x =>
        rw [hd] at hdn
        simp only [Act.put]
        rw [Array.getElem?_setIfInBounds_ne (fun e => hdn (by rw [e]))]
    rw [h2, h1, V.den_labs hlow (V.labs_of_wf (fun l hl => hl) (hs0 t v hv))]
end

/- Regions that draw: the rule. -/
/-- How many heads have not run. -/
def cnt (listed : Array Bool) : Nat → Nat
  | 0 => 0
  | n + 1 => cnt listed n + if listed.getD n false = true then 0 else 1
theorem getD_set_same {listed : Array Bool} {i : Nat} (h : i < listed.size) : (listed.setIfInBounds i true).getD i false = true := by simp [h]
theorem cnt_set {listed : Array Bool} {i : Nat} (hs : i < listed.size) (hf : listed.getD i false = false) : ∀ n, (i < n → cnt (listed.setIfInBounds i true) n + 1 = cnt listed n) ∧ (n ≤ i → cnt (listed.setIfInBounds i true) n = cnt listed n)
  | 0 => ⟨fun h => by omega, fun _ => rfl⟩
  | n + 1 => by
    obtain ⟨h1, h2⟩ := cnt_set hs hf n
    refine ⟨fun hi => ?_, fun hi => ?_⟩
    · by_cases hin : i = n
      · subst hin
        simp only [cnt, getD_set_same hs, if_true, hf, Bool.false_eq_true, if_false]
        rw [h2 (Nat.le_refl _)]
      · have := h1 (by omega)
        simp only [cnt, getD_set_ne false hin]
        omega
    · simp only [cnt, getD_set_ne false (show i ≠ n by omega)]
      rw [h2 (by omega)]
theorem cnt_zero {listed : Array Bool} : ∀ {n : Nat}, cnt listed n = 0 → ∀ i, i < n → listed.getD i false = true
  | 0, _, i, hi => by omega
  | n + 1, h, i, hi => by
    simp only [cnt] at h
    by_cases hn : listed.getD n false = true
    · by_cases hin : i = n
      · rw [hin]; exact hn
      · exact cnt_zero (n := n) (by omega) i (by omega)
    · rw [if_neg hn] at h; omega
theorem cnt_pos {listed : Array Bool} : ∀ {n : Nat}, 0 < cnt listed n → ∃ i, i < n ∧ listed.getD i false = false ∧ ∀ j, j < i → listed.getD j false = true
  | 0, h => by simp [cnt] at h
  | n + 1, h => by
    by_cases hc : 0 < cnt listed n
    · obtain ⟨i, h1, h2⟩ := cnt_pos hc; exact ⟨i, by omega, h2⟩
    · simp only [cnt] at h
      by_cases hn : listed.getD n false = true
      · rw [if_pos hn] at h; omega
      · exact ⟨n, by omega, by simpa using hn, cnt_zero (n := n) (by omega)⟩
section
variable {P : Program} {T : List (Nat × TD)} {n0 : Nat} {cx : Cx} {N na nx0 : Nat} {all : List Oper} {L0 : List E} {s0 : S} {ks : List Nat} {ds : List Stp} {n : Nat}
theorem DSt.congr {ny : Nat} {ρ0 ρ : Env} {w0 w : World} {df : List Deferred} {a : Act} {D D' : Nat → Bool} (h : DSt n0 N nx0 all L0 s0 ds n ny ρ0 w0 df D ρ a w) (he : D = D') : DSt n0 N nx0 all L0 s0 ds n ny ρ0 w0 df D' ρ a w := he ▸ h
theorem sim (hP : ∀ j st, ds[j]? = some st → PStep P n0 N all L0 s0 nx0 ks ds j st) (hn : ds.length = n) (hna : n ≤ all.length) (hH : headB all.toArray n = true) {ny : Nat} (hny : ∀ (j : Nat) (st : Stp), ds[j]? = some st → st.hi ≤ ny)
    (hL0 : ∀ e ∈ L0, e.lab < nx0 ∧ ∀ c ∈ e.cs, c.wf nx0) (hs0 : ∀ t v, look s0 t = some v → v.wf nx0)
    (ht : n = all.length ∨ (Region.sinkB .any all.toArray n = true ∧ Region.chainB .any all.toArray n = true)) {g : Nat} {ρ0 : Env} {w0 : World} {df : List Deferred} {rd : Option Nat} {Q : Exit → Act → World → Prop}
    (hend : ∀ ρ a w, DSt n0 N nx0 all L0 s0 ds n ny ρ0 w0 df (fun j => Nat.blt j n) ρ a w → wpAnyIn (FR rd) 0 P .any all.toArray Q g (listedN n (all.length - n)) a w) :
    ∀ (c : Nat) (listed : Array Bool) (ρ : Env) (a : Act) (w : World), cnt listed n = c → HeadInv .any all.toArray n listed → DSt n0 N nx0 all L0 s0 ds n ny ρ0 w0 df (fun j => listed.getD j false) ρ a w →
      wpAnyIn (FR rd) 0 P .any all.toArray Q (c + g) listed a w
  | 0, listed, ρ, a, w, hc, inv, h => by
    have hl := cnt_zero hc
    have htail : ∀ t, n ≤ t → listed.getD t false = false := fun t hnt => by
      by_cases hts : t < all.length
      · exact getD_both (inv.tail t hnt (by simpa using hts))
      · have hsz := inv.size; simp at hsz; simp [Array.getElem?_eq_none (show listed.size ≤ t by omega)]
    have hlist : listed = listedN n (all.length - n) := by
      have hsz := inv.size
      simp only [List.size_toArray] at hsz
      apply Array.ext
      · simp [listedN, hsz]; omega
      · intro i hi hi'
        by_cases hin : i < n
        · have := hl i hin
          simp [hi] at this
          rw [this]; simp [listedN, hin]
        · have := htail i (by omega)
          simp [hi] at this
          rw [this]; simp [listedN, List.getElem_append_right (show (List.replicate n true).length ≤ i by simp; omega)]
    rw [Nat.zero_add, hlist]
    refine hend ρ a w (h.congr (funext fun j => ?_))
    by_cases hjn : j < n
    · have h2 : Nat.blt j n = true := Nat.ble_eq_true_of_le hjn
      rw [h2]; exact hl j hjn
    · have h1 := htail j (by omega)
      have h2 : Nat.blt j n = false := by
        cases hb : Nat.blt j n with
        | false => rfl
        | true => exact absurd (Nat.le_of_ble_eq_true hb) hjn
      rw [h2]; exact h1
  | c + 1, listed, ρ, a, w, hc, inv, h => by
    have hsz := inv.size
    simp only [List.size_toArray] at hsz
    obtain ⟨i0, hi0, hf0, hlow⟩ := cnt_pos (n := n) (listed := listed) (by omega)
    have hcl : Closed all fun j => listed.getD j false = true := fun j oj hj hD e he hb => inv.closed j oj (by simpa using hj) hD e he hb
    rw [show c + 1 + g = (c + g) + 1 by omega]
    refine ⟨fun hr => ?_, fun i hi => ?_⟩
    · exfalso
      have hlt : i0 < all.length := by omega
      have : i0 ∈ Region.ready .any all.toArray listed := mem_ready.2 ⟨getD_in (by omega) hf0, all[i0], by simp [hlt], fun e he hb => by
        exact hlow _ (headB_edges hH hi0 (List.getElem?_eq_getElem hlt) e he hb)⟩
      rw [hr] at this; cases this
    · obtain ⟨hun, oi, hoi, hall⟩ := mem_ready.1 hi
      have hin : i < n := by
        rcases Nat.lt_or_ge i n with hh | hh
        · exact hh
        · exfalso
          rcases ht with ht | ⟨ht1, ht2⟩
          · have := (Array.getElem?_eq_some_iff.1 hoi).1; simp at this; omega
          · by_cases hnl : n < all.length
            · exact tail_waits ht1 ht2 (by simpa using hnl) inv _ i0 rfl hi0 (getD_in (by omega) hf0) i hh hi
            · have := (Array.getElem?_eq_some_iff.1 hoi).1; simp at this; omega
      have hfi := getD_both hun
      refine DSt.step hP hn hH hny hL0 hs0 h hcl hin hfi (fun o ho e he hb => ?_) (fun ρ' a' w' h' => ?_) rd
      · simp only [List.getElem?_toArray] at hoi
        rw [hoi] at ho; cases ho
        exact hall e he hb
      · have hcs := (cnt_set (i := i) (by omega) hfi n).1 hin
        refine sim hP hn hna hH hny hL0 hs0 ht hend c _ ρ' a' w' (by omega) (inv.set hi hin) (h'.congr (funext fun j => ?_))
        by_cases hji : i = j
        · subst hji
          rw [getD_set_same (by omega)]; simp
        · rw [getD_set_ne false hji]
          have : Nat.beq j i = false := by
            cases hb : Nat.beq j i with
            | false => rfl
            | true => exact absurd (Nat.eq_of_beq_eq_true hb).symm hji
          rw [this]; rfl
theorem drew_below (w : World) : Below w.heap.size w w.drew := (Below.refl _ _).drew
theorem Hp.drew {ρ : Env} {w : World} {L : List E} {nx : Nat} (h : Hp n0 ρ w L nx) : Hp n0 ρ w.drew L nx :=
  ⟨h.base, fun e he => (h.ok e he).below (h.wf e he) (AgrLt.refl _ _) (drew_below w), h.wf, h.fn, h.apart⟩
def visC (ks : List Nat) (L : List E) (K : List E → Prop) : Prop :=
  match L with
  | [] => K []
  | ⟨lab, kd, cs⟩ :: r => match memN lab ks with
    | true => visC ks r K
    | false => visC ks r fun r' => K (⟨lab, kd, cs⟩ :: r')
theorem visC_eq (ks : List Nat) : ∀ (L : List E) (K : List E → Prop), visC ks L K = K (visL ks L)
  | [], K => rfl
  | ⟨lab, kd, cs⟩ :: r, K => by
    simp only [visC, visL]
    cases memN lab ks <;> simp only [visC_eq ks r, cond_true, cond_false]
/-- Without what has gone. -/
def endK (dead : List Nat) (L : List E) (K : List E → Prop) : Prop :=
  match dead with
  | [] => K L
  | k :: r => visC (k :: r) L K
theorem endK_eq (dead : List Nat) (L : List E) (K : List E → Prop) : endK dead L K = K (visK dead L) := by
  cases dead with
  | nil => rfl
  | cons k r => exact visC_eq _ _ _
/-- Names again what a store has renamed. -/
def relN (als : List (Nat × Nat)) (l : Nat) : Nat :=
  match als with
  | [] => l
  | (a, b) :: r => bif Nat.beq a l then b else relN r l
def relE (als : List (Nat × Nat)) (e : E) : E := ⟨relN als e.lab, e.kd, e.cs⟩
def relC (als : List (Nat × Nat)) (L : List E) (K : List E → Prop) : Prop :=
  match L with
  | [] => K []
  | ⟨lab, kd, cs⟩ :: r => forceN (relN als lab) fun lab' => relC als r fun r' => K (⟨lab', kd, cs⟩ :: r')
def difB : List (Nat × Nat) → Bool
  | [] => true
  | p :: r => (r.all fun q => !Nat.beq q.2 p.2) && difB r
def relK (als : List (Nat × Nat)) (L : List E) (K : List E → Prop) : Prop :=
  match als with
  | [] => K L
  | a :: r => bif difB (a :: r) then relC (a :: r) L K else False
theorem relC_eq (als : List (Nat × Nat)) : ∀ (L : List E) (K : List E → Prop), relC als L K = K (L.map (relE als))
  | [], K => rfl
  | ⟨lab, kd, cs⟩ :: r, K => by simp only [relC, forceN_eq, relC_eq als r, List.map_cons, relE]
theorem relK_eq {als : List (Nat × Nat)} {L : List E} {K : List E → Prop} (h : relK als L K) : K (L.map (relE als)) ∧ difB als = true := by
  cases als with
  | nil =>
    have : L.map (relE []) = L := by
      have : relE [] = id := rfl
      rw [this, List.map_id]
    rw [this]; exact ⟨h, rfl⟩
  | cons a r =>
    simp only [relK] at h
    cases hb : difB (a :: r) with
    | false => rw [hb] at h; exact h.elim
    | true => rw [hb, cond_true, relC_eq] at h; exact ⟨h, rfl⟩
theorem relN_cases : ∀ (als : List (Nat × Nat)) (l : Nat), relN als l = l ∨ ∃ p ∈ als, p.1 = l ∧ relN als l = p.2
  | [], l => .inl rfl
  | (a, b) :: r, l => by
    simp only [relN]
    cases hb : Nat.beq a l with
    | true => exact .inr ⟨(a, b), by simp, Nat.eq_of_beq_eq_true hb, rfl⟩
    | false =>
      rcases relN_cases r l with h | ⟨p, h1, h2⟩
      · exact .inl h
      · exact .inr ⟨p, by simp [h1], h2⟩
theorem difB_spec : ∀ {als : List (Nat × Nat)}, difB als = true → ∀ p ∈ als, ∀ q ∈ als, p.2 = q.2 → p = q
  | [], _, p, hp, _, _, _ => by cases hp
  | x :: r, h, p, hp, q, hq, he => by
    simp only [difB, Bool.and_eq_true] at h
    have key : ∀ y ∈ r, y.2 ≠ x.2 := fun y hy hyx => by
      have := List.all_eq_true.1 h.1 y hy
      rw [hyx] at this; simp at this
    rcases List.mem_cons.1 hp with h1 | h1 <;> rcases List.mem_cons.1 hq with h2 | h2
    · rw [h1, h2]
    · rw [h1] at he; exact absurd he.symm (key q h2)
    · rw [h2] at he; exact absurd he (key p h1)
    · exact difB_spec h.2 p h1 q h2 he
theorem Hp.relab {ρ : Env} {w : World} {L : List E} {nx : Nat} {als : List (Nat × Nat)} (hp : Hp n0 ρ w L nx) (h1 : ∀ p ∈ als, ρ p.1 = ρ p.2 ∧ p.2 < nx) (h2 : ∀ p ∈ als, ∀ e ∈ L, e.lab ≠ p.2) (h3 : difB als = true) : Hp n0 ρ w (L.map (relE als)) nx := by
  have hρ : ∀ l, ρ (relN als l) = ρ l := fun l => by
    rcases relN_cases als l with h | ⟨p, hp1, hp2, hp3⟩
    · rw [h]
    · rw [hp3, ← (h1 p hp1).1, hp2]
  have hinj : ∀ e ∈ L, ∀ e' ∈ L, relN als e.lab = relN als e'.lab → e.lab = e'.lab := fun e he e' he' heq => by
    rcases relN_cases als e.lab with h | ⟨p, hp1, hp2, hp3⟩ <;> rcases relN_cases als e'.lab with h' | ⟨q, hq1, hq2, hq3⟩
    · rw [h, h'] at heq; exact heq
    · rw [h, hq3] at heq; exact absurd heq (h2 q hq1 e he)
    · rw [hp3, h'] at heq; exact absurd heq.symm (h2 p hp1 e' he')
    · rw [hp3, hq3] at heq; rw [← hp2, ← hq2, difB_spec h3 p hp1 q hq1 heq]
  have hblk : ∀ l, blk ρ (relN als l) = blk ρ l := fun l => by simp only [blk, hρ]
  refine ⟨hp.base, ?_, ?_, ?_, ?_⟩
  · intro y hy
    obtain ⟨e, he, rfl⟩ := List.mem_map.1 hy
    exact EOK.lab (l := e.lab) (hp.ok e he) (hρ e.lab) rfl
  · intro y hy
    obtain ⟨e, he, rfl⟩ := List.mem_map.1 hy
    refine ⟨?_, (hp.wf e he).2⟩
    show relN als e.lab < nx
    rcases relN_cases als e.lab with h | ⟨p, hp1, hp2, hp3⟩
    · rw [h]; exact (hp.wf e he).1
    · rw [hp3]; exact (h1 p hp1).2
  · intro y hy y' hy' hyy
    obtain ⟨e, he, rfl⟩ := List.mem_map.1 hy
    obtain ⟨e', he', rfl⟩ := List.mem_map.1 hy'
    rw [hp.fn e he e' he' (hinj e' he' e he hyy)]
  · intro y hy y' hy' hro hne hcs b hb hb'
    obtain ⟨e, he, rfl⟩ := List.mem_map.1 hy
    obtain ⟨e', he', rfl⟩ := List.mem_map.1 hy'
    simp only [relE, hblk] at hb hb'
    exact hp.apart e he e' he' hro (fun hh => hne (by simp only [relE, hh])) hcs b hb hb'
theorem wpAnyIn_of_seq {md : Region.Mode} {ops : Array Oper} {F : Fence} {k0 : Nat} {Q' : Exit → Act → World → Prop} : ∀ (l : List Oper) (k : Nat) (listed : Array Bool) (a : Act) (w : World), (∀ j, l[j]? = ops[k + j]?) →
    Region.seqB md ops l.length k listed = true → wpListIn F k0 P ops Q' l a w → wpAnyIn F k0 P md ops Q' l.length listed a w
  | [], _, _, _, _, _, hB, h => ⟨by simpa [Region.seqB] using hB, h⟩
  | o :: l, k, listed, a, w, hl, hB, h => by
    have h0 : ops[k]? = some o := by simpa using (hl 0).symm
    simp only [List.length_cons, Region.seqB, Bool.and_eq_true, decide_eq_true_eq] at hB
    refine ⟨fun h1 => (by rw [hB.1] at h1; cases h1), fun i hi => ?_⟩
    rw [hB.1] at hi
    have hik : i = k := by simpa using hi
    subst hik
    have hw : wpOpIn F k0 P ops Q' i (wpListIn F k0 P ops Q' l) a w := by unfold wpOpIn; simp only [h0]; exact h
    exact wpOpIn_mono (fun a' w' h' => wpAnyIn_of_seq l (i + 1) _ a' w' (fun j => by have := hl (j + 1); simpa [Nat.add_assoc, Nat.add_comm 1 j] using this) hB.2 h') hw
/-- A region that draws: the heads in the text's order, then the tail. -/
def drawR (P : Program) (T : List (Nat × TD)) (n0 : Nat) (cx : Cx) (N : Nat) (ks : List Nat) (ops : List Oper) (n : Nat) (K : K3) (s : S) (L : List E) (nx : Nat) : Prop :=
  dr P T n0 N ops L nx ks (ops.take n) (fun dead news s' nx' => endK dead (flatN L news) fun L1 => relK (alsN news) L1 fun L' => vcOps P T n0 cx N ops (ops.drop n) K s' L' nx') 0 [] [] [] s nx
theorem draw_rule (hT : TOK P T) (hm : P.follows .mixedOrders = true) {id n : Nat} {ops : Array Oper} {K : Kt} {s : S} {L : List E} {nx : Nat} (hB : drawB ops n = true) (h : drawR P T n0 cx N ks ops.toList n (K .normal) s L nx) :
    Tri P n0 cx N na (.region id ops true) K s L nx := by
  refine ⟨fun ρ a w hna hs hp hi => ?_⟩
  obtain ⟨all, rfl⟩ : ∃ l : List Oper, ops = l.toArray := ⟨ops.toList, by simp⟩
  simp only [drawB, Bool.and_eq_true, decide_eq_true_eq, Bool.or_eq_true, List.size_toArray] at hB
  obtain ⟨⟨⟨hn, hH⟩, ht⟩, hseq⟩ := hB
  have hacc : AccP all s nx ([] : List Stp) 0 [] [] [] s nx :=
    ⟨rfl, rfl, fun t v hv => .inr ⟨fun j hj => by omega, v, hv, fun _ => rfl, fun _ h => h⟩, fun D hc j m hj => by simp at hj, fun x hx => by simp at hx, fun j st hj => by simp at hj, Nat.le_refl _, fun j st hj => by simp at hj⟩
  have htl : (all.take n).length = n := by simp; omega
  obtain ⟨ds, hlen, hP, msF, deadF, newsF, sF, nxF, hF, hK⟩ := dr_plan hT h hacc (fun j hj => by rw [htl] at hj; simp [hj])
  simp only [List.nil_append] at hP hF
  rw [endK_eq] at hK
  obtain ⟨hK, hdif⟩ := relK_eq hK
  rw [htl] at hlen hF
  have hP' : ∀ j st, ds[j]? = some st → PStep P n0 N all L s nx ks ds j st := fun j st hj => hP j st (Nat.zero_le _) hj
  have hwfL : ∀ e ∈ L, e.lab < nx ∧ ∀ c ∈ e.cs, c.wf nx := fun e he => hp.wf e he
  have hwfs : ∀ t v, look s t = some v → v.wf nx := fun t v hv => (hs.ok t v hv).2
  refine wpIn_region_any hm ?_
  have hgoal := sim (g := all.length - n) (Q := fun e a' w' => Fin n0 cx N na ρ w a' w' (K e)) (ρ0 := ρ) (w0 := w.drew) (df := a.defers) (rd := cx.rd) hP' hlen hn hH (ny := nxF) hF.hi hwfL hwfs (ht.imp (fun h => h) (fun h => h)) ?_ n (Array.replicate all.length false) ρ a w.drew ?_ ?_ ?_
  · simp only [List.size_toArray]
    rw [show n + (all.length - n) = all.length by omega] at hgoal
    exact hgoal
  · intro ρ' a' w' hd
    have hsl : SlOK N ρ' a' sF nxF := by
      refine ⟨hd.size, fun t v hv => ?_⟩
      rcases hF.look t v hv with ⟨j, sj, hj, hsj, hg, hden, hwf⟩ | ⟨hnone, v0, hv0, hden, hwf⟩
      · have hDj : (fun j => Nat.blt j n) j = true := by simp only; exact Nat.ble_eq_true_of_le (by omega)
        exact ⟨by rw [hden ρ']; exact hd.done j sj t hsj hDj hg, hwf _ (V.wf_mono (hF.hi j sj hsj) (hd.wfd j sj hsj hDj).1)⟩
      · exact ⟨by rw [hden ρ']; exact hd.old t v0 hv0 (fun j hj _ => hnone j (by omega)), hwf _ (V.wf_mono hF.le (hwfs t v0 hv0))⟩
    have hhp : Hp n0 ρ' w' (visK deadF (flatN L newsF)) nxF := by
      refine hd.hp _ (fun e he0 => ⟨?_, fun j sj hj _ hk => (visK_mem.1 he0).2 (hF.gone j sj hj _ hk)⟩)
      have he := (visK_mem.1 he0).1
      rcases flatN_mem he with he | ⟨x, hx, he⟩
      · exact List.mem_append.2 (.inl he)
      · obtain ⟨st, h1, h2, _⟩ := hF.news x hx
        have hlt : x.i < n := by rw [← hlen]; exact (List.getElem?_eq_some_iff.1 h1).1
        have hblt : Nat.blt x.i n = true := Nat.ble_eq_true_of_le hlt
        exact List.mem_append.2 (.inr (List.mem_flatMap.2 ⟨x.i, List.mem_range.2 hlt, by show e ∈ bif Nat.blt x.i n then _ else _; rw [hblt, h1]; simp only [cond_true]; rw [h2]; exact he⟩))
    have hals : ∀ p ∈ alsN newsF, (ρ' p.1 = ρ' p.2 ∧ p.2 < nxF) ∧ p.2 ∈ deadF := by
      intro p hpm
      obtain ⟨x, hx, h1, h2⟩ := alsN_mem hpm
      obtain ⟨st, g1, g2, g3, g4, g5⟩ := hF.news x hx
      have hlt : x.i < n := by rw [← hlen]; exact (List.getElem?_eq_some_iff.1 g1).1
      have hD : ∀ k, k < n → (fun j => Nat.blt j n) k = true := fun k hk => Nat.ble_eq_true_of_le hk
      have hal : st.ali = some p.2 := g5.trans h1
      refine ⟨⟨by rw [← h2, ← g3]; exact hd.ali x.i st g1 (hD _ hlt) p.2 hal, ?_⟩, hF.gone x.i st g1 p.2 ((hP' x.i st g1).alk p.2 hal).1⟩
      obtain ⟨oj, hoj, _, _, sij, Aij, _, hAij, halij, _⟩ := (hP' x.i st g1).oper
      obtain ⟨e, he, hel⟩ := halij p.2 hal
      rcases (hAij e he).1 with he1 | ⟨k, sk, hk, hsk, hb, he1⟩
      · have := (hwfL e he1).1; have := hF.le; omega
      · have hkn : k < n := by rw [← hlen]; exact (List.getElem?_eq_some_iff.1 hsk).1
        have h3 := ((hd.wfd k sk hsk (hD k hkn)).2 e he1).1
        have := hF.hi k sk hsk
        omega
    have hhp := hhp.relab (als := alsN newsF) (fun p hp => (hals p hp).1) (fun p hp e he hh => (visK_mem.1 he).2 (by rw [hh]; exact (hals p hp).2)) hdif
    have hagr : AgrLt na ρ ρ' := hd.agr.mono hna
    have hbel : Keep n0 cx w w' := (Keep.of (drew_below w) hp.base).trans hd.bel.top
    have hinv : Inv cx na ρ' w' a'.defers := by rw [hd.defers]; exact hi.keep hagr hbel
    have hw := vcOps_ok (Q := fun e a2 w2 => Fin n0 cx N na ρ w a2 w2 (K e)) (na := na) hT (Nat.le_trans hna hF.le) hsl hhp hinv hK (fun a2 w2 hf => Fin.trans hagr hbel hf)
    have hdl : (all.drop n).length = all.length - n := by simp
    have := wpAnyIn_of_seq (md := .any) (F := FR cx.rd) (k0 := 0) (Q' := fun e a2 w2 => Fin n0 cx N na ρ w a2 w2 (K e)) (P := P) (ops := all.toArray) (all.drop n) n (listedN n (all.length - n)) a' w' (fun j => by simp) (by rw [hdl]; exact hseq) hw
    rw [hdl] at this
    exact this
  · -- none has run
    have : ∀ m, cnt (Array.replicate all.length false) m = m := by
      intro m
      induction m with
      | zero => rfl
      | succ m ih => simp only [cnt, ih, getD_replicate_false]; simp
    exact this n
  · exact ⟨by simp, fun j oj _ hl => (by rw [getD_replicate_false] at hl; cases hl), fun t _ ht => getD_in (by simpa using ht) (getD_replicate_false _ _)⟩
  · refine ⟨hs.size, rfl, AgrLt.refl _ _, Keep.refl _, hp.drew.base, ?_, ?_, ?_, fun e he hc0 => (hp.ok e he).addr hc0, ?_, ?_⟩
    · refine fun L' hL' => hp.drew.mono (fun e he => ?_) hF.le
      rcases List.mem_append.1 (hL' e he).1 with he | he
      · exact he
      · obtain ⟨j, hj, he⟩ := List.mem_flatMap.1 he
        have he : e ∈ bif (Array.replicate all.length false).getD j false then (match ds[j]? with | some st => st.new | none => []) else [] := he
        rw [getD_replicate_false] at he; cases he
    · intro j st hj hD; rw [getD_replicate_false] at hD; cases hD
    · intro j st d hj hD; rw [getD_replicate_false] at hD; cases hD
    · intro j st hj hD; rw [getD_replicate_false] at hD; cases hD
    · intro t v hv _; exact (hs.ok t v hv).1
end

/- Renaming, loops, functions. -/
/-- A renaming of labels: a label of the new state ↦ that of the old one; none: nothing lies there yet. -/
abbrev Rn := List (Nat × Option Nat)
def renL (R : Rn) (l : Nat) : Option Nat :=
  match R with
  | [] => some l
  | p :: r => bif Nat.beq p.1 l then p.2 else renL r l
/-- The old symbol that a new one stands for. -/
def C.ren (R : Rn) : C → Option C
  | .ptr l o => match renL R l with | some l' => some (.ptr l' o) | none => none
  | .sl l n => match renL R l with
    | some l' => some (.sl l' n)
    | none => match n with
      | 0 => some .nil
      | _ => none
  | .sub l o n k => match renL R l with
    | some l' => some (.sub l' o n k)
    | none => none
  | .mp l => match renL R l with
    | some l' => some (.mp l')
    | none => none
  | .fn f caps => match R with
    | [] => some (.fn f caps)
    | _ => (match seqO (caps.map fun p => match renL R p.1 with | some l => some (l, p.2) | none => none) with | some m => some (.fn f m) | none => none)
  | c => some c
def A.ren (R : Rn) : A → Option A
  | .c x => (match x.ren R with | some y => some (.c y) | none => none)
  | .agg l => (match seqO (l.map (C.ren R)) with | some m => some (.agg m) | none => none)
def V.ren (R : Rn) : V → Option V
  | .a x => (match x.ren R with | some y => some (.a y) | none => none)
  | .tup l => (match seqO (l.map (A.ren R)) with | some m => some (.tup m) | none => none)
def renE (R : Rn) (ρ : Env) : Env := fun l => match renL R l with | some l' => ρ l' | none => (none, 0)
theorem C.ren_den {R : Rn} {c c' : C} (h : c.ren R = some c') (ρ : Env) : c.den (renE R ρ) = c'.den ρ := by
  cases c with
  | ptr l o =>
    simp only [C.ren] at h
    cases hr : renL R l with
    | none => rw [hr] at h; cases h
    | some l' => rw [hr] at h; cases h; simp only [C.den, ptrD, renE, hr]
  | sl l n =>
    simp only [C.ren] at h
    cases hr : renL R l with
    | none =>
      rw [hr] at h
      cases n with
      | zero => cases h; simp only [C.den, renE, hr]
      | succ n => cases h
    | some l' => rw [hr] at h; cases h; simp only [C.den, renE, hr]
  | sub l o n k =>
    simp only [C.ren] at h
    cases hr : renL R l with
    | none => rw [hr] at h; cases h
    | some l' => rw [hr] at h; cases h; simp only [C.den, renE, hr]
  | mp l =>
    simp only [C.ren] at h
    cases hr : renL R l with
    | none => rw [hr] at h; cases h
    | some l' => rw [hr] at h; cases h; simp only [C.den, renE, hr]
  | fn f caps =>
    simp only [C.ren] at h
    split at h
    · cases h; rfl
    · split at h
      · rename_i m hm
        cases h
        obtain ⟨h1, h2⟩ := seqO_ok hm
        simp only [C.den]
        congr 2
        apply List.ext_getElem
        · simpa using h1
        · intro i hi hi'
          have h3 := h2 i (by simpa using hi) (by simpa using hi')
          simp only [List.getElem_map, ptrD]
          split at h3
          · rename_i l' hl
            cases h3' : m[i]'(by simpa using hi') with
            | mk a b =>
              rw [h3'] at h3
              cases h3
              simp only [renE, hl]
          · cases h3
      · cases h
  | _ => cases h; rfl
theorem cells_ren {R : Rn} {l m : List C} (h : seqO (l.map (C.ren R)) = some m) (ρ : Env) : l.map (C.den (renE R ρ)) = m.map (C.den ρ) := by
  obtain ⟨h1, h2⟩ := seqO_ok h
  apply List.ext_getElem
  · simpa using h1
  · intro i hi hi'
    simpa using C.ren_den (h2 i (by simpa using hi) (by simpa using hi')) ρ
theorem A.ren_den {R : Rn} {c c' : A} (h : c.ren R = some c') (ρ : Env) : c.den (renE R ρ) = c'.den ρ := by
  cases c with
  | c x =>
    simp only [A.ren] at h
    cases hx : x.ren R with
    | none => rw [hx] at h; cases h
    | some y => rw [hx] at h; cases h; exact C.ren_den hx ρ
  | agg l =>
    simp only [A.ren] at h
    split at h
    · rename_i m hm; cases h; simp only [A.den]; rw [cells_ren hm]
    · cases h
theorem V.ren_den {R : Rn} {c c' : V} (h : c.ren R = some c') (ρ : Env) : c.den (renE R ρ) = c'.den ρ := by
  cases c with
  | a x =>
    simp only [V.ren] at h
    cases hx : x.ren R with
    | none => rw [hx] at h; cases h
    | some y => rw [hx] at h; cases h; exact A.ren_den hx ρ
  | tup l =>
    simp only [V.ren] at h
    split at h
    · rename_i m hm
      cases h
      obtain ⟨h1, h2⟩ := seqO_ok hm
      simp only [V.den]
      congr 2
      apply List.ext_getElem
      · simpa using h1
      · intro i hi hi'
        simpa using A.ren_den (h2 i (by simpa using hi) (by simpa using hi')) ρ
    · cases h
/-- A slot of the new state, in the old one. -/
def covS1 (R : Rn) (nx : Nat) (s : S) (p : Nat × V) : Prop := (∃ u, look s p.1 = some u ∧ ∀ ρ, p.2.den (renE R ρ) = u.den ρ) ∧ p.2.wf nx
/-- The slots of the new state, in the old one. -/
def covS (R : Rn) (nx : Nat) (s : S) : S → Prop
  | [] => True
  | p :: r => covS1 R nx s p ∧ covS R nx s r
theorem EOK.toRo {n0 n1 : Nat} {ρ : Env} {w : World} {l z : Nat} {k : Kd} {cs : List C} (h : EOK n1 ρ w ⟨l, k, cs⟩) (hz : z = 0 ∨ k.z = some z) : EOK n0 ρ w ⟨l, .ro z, cs⟩ := by
  refine ⟨fun hne => ?_, ?_⟩
  · have hlen : 0 < cs.length := by
      rcases Nat.eq_zero_or_pos cs.length with h0 | h0
      · exfalso; apply hne; rw [List.length_eq_zero_iff.1 h0]; rfl
      · exact h0
    obtain ⟨b, off, e1, e2, _⟩ := h.read (o := 0) (c := cs[0]) (by simp [hlen])
    refine ⟨b, off, e1, e2, fun i hi => ?_⟩
    have hi' : i < cs.length := by simpa using hi
    obtain ⟨b', off', f1, _, f3⟩ := h.read (o := i) (c := cs[i]) (by simp [hi'])
    simp only at e1 f1
    rw [e1] at f1; cases f1
    rw [f3]; simp [List.getD_eq_getElem?_getD, hi']
  · rcases hz with hz | hz
    · exact .inl hz
    · by_cases hz0 : 0 < z
      · right
        -- the room of what lies there
        cases k with
        | ro k =>
          cases k with
          | zero => cases hz
          | succ k =>
            cases hz
            rcases h.2 with h2 | h2
            · omega
            · exact h2
        | own t => cases hz
        | obj o => cases hz
        | mp _ _ _ => cases hz
        | vec t k =>
          cases hz
          obtain ⟨n, h1, h2⟩ := h
          simp only [List.length_map] at h1
          simp only
          rw [h1]
          rcases h2 with ⟨h3, h4⟩ | ⟨g, off, cap, cur, h3, _, _, h5, _⟩
          · subst h4; simp
          · have h6 := congrArg (fun v => match v with | Value.slice _ _ c => c | _ => 0) h3
            simp only at h6
            exact Nat.mul_le_mul_right _ (by omega)
      · left; omega
theorem EOK.mpRo {n0 n1 : Nat} {ρ : Env} {w : World} {l : Nat} {own : Bool} {ks : KS} {f : MF} {cs : List C} (h : EOK n1 ρ w ⟨l, .mp own ks f, cs⟩) : EOK n0 ρ w ⟨l, .mp false ks f, cs⟩ := by
  obtain ⟨b, es, ck, e1, e2, e3⟩ := h
  exact ⟨b, es, ck, e1, fun hh => (by cases hh), e3⟩
/-- A row of one's own may be read alone. -/
def kdLe (k k' : Kd) : Prop := k' = k ∨ (∃ z, k' = .ro z ∧ (z = 0 ∨ k.z = some z)) ∨ ∃ own ks f, k = .mp own ks f ∧ k' = .mp false ks f
def covE (R : Rn) (nx : Nat) (L : List E) (e : E) : Prop :=
  e.lab < nx ∧ (∀ c ∈ e.cs, c.wf nx) ∧
  match renL R e.lab with
  | some l => ∃ k cs', find L l = some ⟨l, k, cs'⟩ ∧ kdLe k e.kd ∧ ∀ ρ, e.cs.map (C.den (renE R ρ)) = cs'.map (C.den ρ)
  | none => e.cs = [] ∧ ∃ t z, e.kd = .vec t z
def covL (R : Rn) (nx : Nat) (L : List E) : List E → Prop
  | [] => True
  | e :: r => covE R nx L e ∧ covL R nx L r
/-- No two labels of the new state name one of the old. -/
def injB (R : Rn) : List E → Bool
  | [] => true
  | e :: r => r.all (fun e' => !(Nat.beq e'.lab e.lab) && (match renL R e.lab, renL R e'.lab with | some a, some b => !(Nat.beq a b) | _, _ => true)) && injB R r
def fixB (R : Rn) (na : Nat) : Bool := R.all fun p => Nat.ble na p.1
structure Enter (R : Rn) (na nx' : Nat) (s : S) (L : List E) (s' : S) (L' : List E) : Prop where
  s : covS R nx' s s'
  l : covL R nx' L L'
  inj : injB R L' = true
  fix : fixB R na = true
  na : na ≤ nx'
theorem seqO_id {l : List C} : seqO (l.map (C.ren [])) = some l := by
  induction l with
  | nil => rfl
  | cons c r ih =>
    have : c.ren [] = some c := by cases c <;> rfl
    simp only [List.map_cons, this, seqO, ih]
theorem exists_least (p : Nat → Prop) : (∃ n, p n) → ∃ n, p n ∧ ∀ m, p m → n ≤ m := by
  rintro ⟨n, hn⟩
  induction n using Nat.strongRecOn with
  | _ n ih =>
    by_cases h : ∃ m, m < n ∧ p m
    · obtain ⟨m, h1, h2⟩ := h; exact ih m h1 h2
    · exact ⟨n, hn, fun m hm => by
        rcases Nat.lt_or_ge m n with h1 | h1
        · exact absurd ⟨m, h1, hm⟩ h
        · exact h1⟩
open Classical in
noncomputable def leastP (p : Nat → Prop) : Nat := if h : ∃ n, p n then Classical.choose (exists_least p h) else 0
theorem leastP_spec (p : Nat → Prop) (h : ∃ n, p n) : p (leastP p) ∧ ∀ m, p m → leastP p ≤ m := by
  unfold leastP
  rw [dif_pos h]
  exact Classical.choose_spec (exists_least p h)
section
variable {P : Program} {T : List (Nat × TD)} {n0 : Nat} {cx : Cx} {N na : Nat}
theorem covS_look {R : Rn} {nx : Nat} {s : S} : ∀ {s' : S}, covS R nx s s' → ∀ t v, look s' t = some v → ∃ u, look s t = some u ∧ (∀ ρ, v.den (renE R ρ) = u.den ρ) ∧ v.wf nx
  | [], _, t, v, h => by cases h
  | p :: r, hc, t, v, h => by
    simp only [look] at h
    cases hb : Nat.beq p.1 t with
    | true =>
      rw [hb] at h
      cases h
      have := Nat.eq_of_beq_eq_true hb
      subst this
      obtain ⟨⟨⟨u, h1, h2⟩, h3⟩, _⟩ := hc
      exact ⟨u, h1, h2, h3⟩
    | false => rw [hb] at h; exact covS_look hc.2 t v h
theorem covL_mem {R : Rn} {nx : Nat} {L : List E} : ∀ {L' : List E}, covL R nx L L' → ∀ e ∈ L', covE R nx L e
  | [], _, e, h => by cases h
  | x :: r, hc, e, h => by
    rcases List.mem_cons.1 h with rfl | h
    · exact hc.1
    · exact covL_mem hc.2 e h
theorem injB_spec {R : Rn} : ∀ {L : List E}, injB R L = true → ∀ e ∈ L, ∀ e' ∈ L, (e'.lab = e.lab ∨ ∃ a, renL R e.lab = some a ∧ renL R e'.lab = some a) → e' = e
  | [], _, e, he, e', he', h => by cases he
  | x :: r, hi, e, he, e', he', h => by
    simp only [injB, Bool.and_eq_true] at hi
    have key : ∀ y ∈ r, ¬ (y.lab = x.lab ∨ ∃ a, renL R x.lab = some a ∧ renL R y.lab = some a) := by
      intro y hy hh
      have h1 := List.all_eq_true.1 hi.1 y hy
      simp only [Bool.and_eq_true] at h1
      rcases hh with hh | ⟨a, ha, hb⟩
      · rw [hh] at h1; simp at h1
      · rw [ha, hb] at h1; simp at h1
    rcases List.mem_cons.1 he with h1 | h1 <;> rcases List.mem_cons.1 he' with h2 | h2
    · rw [h1, h2]
    · subst h1; exact absurd h (key e' h2)
    · subst h2; exact absurd (h.imp Eq.symm (fun ⟨a, q1, q2⟩ => ⟨a, q2, q1⟩)) (key e h1)
    · exact injB_spec hi.2 e h1 e' h2 h
theorem fixB_spec {R : Rn} {na : Nat} (h : fixB R na = true) {l : Nat} (hl : l < na) : renL R l = some l := by
  induction R with
  | nil => rfl
  | cons p r ih =>
    simp only [fixB, List.all_cons, Bool.and_eq_true] at h
    have hp := Nat.le_of_ble_eq_true h.1
    simp only [renL]
    cases hb : Nat.beq p.1 l with
    | true => have := Nat.eq_of_beq_eq_true hb; omega
    | false => exact ih h.2
theorem Enter.state {R : Rn} {nx nx' : Nat} {s s' : S} {L L' : List E} (h : Enter R na nx' s L s' L') {ρ : Env} {a : Act} {w : World} (hs : SlOK N ρ a s nx) (hp : Hp n0 ρ w L nx) :
    SlOK N (renE R ρ) a s' nx' ∧ Hp n0 (renE R ρ) w L' nx' ∧ AgrLt na ρ (renE R ρ) := by
  have hE : ∀ e ∈ L', EOK n0 (renE R ρ) w e ∧ ((∃ l e0, renL R e.lab = some l ∧ e0 ∈ L ∧ e0.lab = l ∧ ((e.kd.isRo = false → e0.kd.isRo = false) ∧ (e0.kd.isFl = true → e.kd.isFl = true)) ∧ (e0.cs = [] ↔ e.cs = [])) ∨ renL R e.lab = none) := by
    intro e he
    obtain ⟨h1, h2, h3⟩ := covL_mem h.l e he
    cases hr : renL R e.lab with
    | none =>
      rw [hr] at h3
      obtain ⟨h4, t, z, h5⟩ := h3
      refine ⟨?_, .inr rfl⟩
      obtain ⟨lab, kd, cs⟩ := e
      simp only at h4 h5 hr
      subst h4 h5
      refine ⟨0, ?_⟩
      have : (renE R ρ) lab = (none, 0) := by simp only [renE, hr]
      rw [this]
      exact rowO_nil w n0 t z
    | some l =>
      rw [hr] at h3
      obtain ⟨k, cs', h4, hk, h5⟩ := h3
      have hm := find_mem h4
      have hok : EOK n0 ρ w ⟨l, e.kd, cs'⟩ := by
        have h0 := hp.ok _ hm.1
        rcases hk with hk | ⟨z, hk, hz⟩ | ⟨own, ks, f, hk, hk'⟩
        · rw [hk]; exact h0
        · rw [hk]; exact h0.toRo hz
        · rw [hk'] ; rw [hk] at h0; exact h0.mpRo
      have hc := h5 ρ
      have hl : (renE R ρ) e.lab = ρ l := by simp only [renE, hr]
      have hlen : e.cs.length = cs'.length := by simpa using congrArg List.length hc
      refine ⟨?_, .inl ⟨l, _, rfl, hm.1, rfl, ?_, ?_⟩⟩
      rotate_left
      · rcases hk with hk | ⟨z, hk, hz⟩ | ⟨own, ks, f, hk, hk'⟩
        · rw [hk]; exact ⟨id, id⟩
        · rw [hk]; exact ⟨fun h => (by cases h), fun _ => rfl⟩
        · rw [hk, hk']; exact ⟨fun h => (by cases h), fun h => (by cases h)⟩
      rotate_left
      · obtain ⟨lab, kd, cs⟩ := e
        simp only at hok hl hc hlen
        cases kd <;> simp only [EOK] at hok ⊢
        · rw [hl, hc]; exact ⟨hok.1, by rw [hlen]; exact hok.2⟩
        · rw [hl, hc]; exact hok
        · rw [hl, hc]; exact hok
        · rw [hl]
          obtain ⟨b, e1, e2, e3, e4, e5⟩ := hok
          subst e5
          exact ⟨b, e1, e2, e3, e4, List.length_eq_zero_iff.1 hlen⟩
        · rw [hl]
          obtain ⟨b, es, ck, e1, e2, e3, e4, e5⟩ := hok
          subst e5
          exact ⟨b, es, ck, e1, e2, e3, e4, List.length_eq_zero_iff.1 hlen⟩
      · simp only
        constructor
        · intro h0; subst h0; exact List.length_eq_zero_iff.1 hlen
        · intro h0; rw [h0] at hlen; exact List.length_eq_zero_iff.1 hlen.symm
  refine ⟨⟨hs.size, fun t v hv => ?_⟩, ⟨hp.base, fun e he => (hE e he).1, fun e he => ⟨(covL_mem h.l e he).1, (covL_mem h.l e he).2.1⟩, fun e he e' he' hl => injB_spec h.inj e he e' he' (.inl hl), ?_⟩, fun l hl => by simp only [renE, fixB_spec h.fix hl]⟩
  · obtain ⟨u, h1, h2, h3⟩ := covS_look h.s t v hv
    exact ⟨by rw [(hs.ok t u h1).1, h2 ρ], h3⟩
  · intro e he e' he' hro hne hcs b hb hb'
    have hbl : ∀ x : E, ∀ l, renL R x.lab = some l → blk (renE R ρ) x.lab = blk ρ l := fun x l hl => by simp only [blk, renE, hl]
    have hbn : ∀ x : E, renL R x.lab = none → blk (renE R ρ) x.lab = none := fun x hl => by simp only [blk, renE, hl]; rfl
    rcases (hE e he).2 with ⟨l, e0, h1, h2, h3, h4, h5⟩ | h1
    · rcases (hE e' he').2 with ⟨l', e0', g1, g2, g3, g4, g5⟩ | g1
      · rw [hbl e l h1, ← h3] at hb
        rw [hbl e' l' g1, ← g3] at hb'
        refine hp.apart e0 h2 e0' g2 (h4.1 hro) ?_ (fun hr0 h0 => hcs (g4.2 hr0) (g5.1 h0)) b hb hb'
        intro heq
        have := injB_spec h.inj e he e' he' (.inr ⟨l, h1, by rw [g1, ← g3, heq, h3]⟩)
        exact hne (by rw [this])
      · rw [hbn e' g1] at hb'; cases hb'
    · rw [hbn e h1] at hb; cases hb
/-- On from a state that says less, or names otherwise. -/
theorem Tri.enter {code : Code} {K : Kt} {R : Rn} {nx nx' : Nat} {s s' : S} {L L' : List E} (h : Tri P n0 cx N na code K s' L' nx') (he : Enter R na nx' s L s' L') : Tri P n0 cx N na code K s L nx := by
  refine ⟨fun ρ a w hna hs hp hi => ?_⟩
  obtain ⟨h1, h2, h3⟩ := he.state hs hp
  exact wpIn_mono (h.run _ a w he.na h1 h2 (hi.keep (n0 := n0) h3 (Keep.refl _))) fun e a' w' hf => Fin.trans h3 (Keep.refl _) hf
/-- A loop: at its head the state is S' g, L' g for some g that meets I. -/
theorem Tri.loop {γ : Type} {body : Code} {K : Kt} (I : γ → Prop) (S' : γ → S) (L' : γ → List E) (nx' : Nat) (μ : γ → Nat) (g0 : γ) {R0 : Rn} {nx : Nat} {s : S} {L : List E} (h0 : I g0) (he : Enter R0 na nx' s L (S' g0) (L' g0))
    (round : ∀ g, I g → Tri P n0 cx N na body (fun e s2 L2 nx2 => match e with
      | .normal => ∃ g' R, I g' ∧ μ g' < μ g ∧ Enter R na nx' s2 L2 (S' g') (L' g')
      | e => K e s2 L2 nx2) (S' g) (L' g) nx') : Tri P n0 cx N na (.loop body) K s L nx := by
  refine Tri.enter (R := R0) ?_ he
  refine ⟨fun ρ0 a0 w0 hna hs0 hp0 hi0 => ?_⟩
  let J : Nat → Act → World → Prop := fun m a w => ∃ g ρ, μ g = m ∧ I g ∧ SlOK N ρ a (S' g) nx' ∧ Hp n0 ρ w (L' g) nx' ∧ AgrLt na ρ0 ρ ∧ Keep n0 cx w0 w ∧ Inv cx na ρ w a.defers
  refine wpIn_loop (I := fun a w => ∃ m, J m a w) (μ := fun a w => leastP fun m => J m a w) ⟨_, g0, ρ0, rfl, h0, hs0, hp0, AgrLt.refl _ _, Keep.refl _, hi0⟩ ?_
  intro a w hI
  obtain ⟨h1, h2⟩ := leastP_spec (fun m => J m a w) hI
  obtain ⟨g, ρ, hm, hg, hs, hp, ha, hb, hi⟩ := h1
  refine wpIn_mono ((round g hg).run ρ a w hna hs hp hi) ?_
  rintro e a' w' ⟨ρ', s2, L2, nx2, q1, q2, q3, q4, q5, q6⟩
  cases e with
  | normal =>
    obtain ⟨g', R, hg', hlt, hent⟩ := q6
    obtain ⟨r1, r2, r3⟩ := hent.state q3 q4
    have hJ : J (μ g') a' w' := ⟨g', renE R ρ', rfl, hg', r1, r2, (ha.trans q2 (Nat.le_refl _)).trans r3 (Nat.le_refl _), hb.trans q5.1, q5.2.keep (n0 := n0) r3 (Keep.refl _)⟩
    exact ⟨⟨_, hJ⟩, by
      have h3 := (leastP_spec (fun m => J m a' w') ⟨_, hJ⟩).2 _ hJ
      show leastP (fun m => J m a' w') < leastP (fun m => J m a w)
      rw [← hm]; omega⟩
  | _ => exact ⟨ρ', s2, L2, nx2, q1, ha.trans q2 (Nat.le_refl _), q3, q4, ⟨hb.trans q5.1, q5.2⟩, q6⟩
/-- What a function gives back. -/
def resA (T : List (Nat × TD)) (s : S) (L : List E) (l : List ResultVar) (K : List A → Prop) : Prop :=
  match l with
  | [] => K []
  | .tmp t :: r => (match look s t with
    | some (.a x) => resA T s L r fun m => K (x :: m)
    | _ => False)
  | .cell t ty :: r => onV (lookT T ty) fun d => rdLoad L d (look s t) fun v => (match v with
    | .a x => resA T s L r fun m => K (x :: m)
    | _ => False)
def tupV (l : List A) : V :=
  match l with
  | [x] => .a x
  | l => .tup l
theorem resA_ok (hT : TOK P T) {ρ : Env} {a : Act} {w : World} {s : S} {L : List E} {nx : Nat} (hs : SlOK N ρ a s nx) (hp : Hp n0 ρ w L nx) : ∀ {l : List ResultVar} {K : List A → Prop}, resA T s L l K →
    ∃ m, K m ∧ (∀ x ∈ m, x.wf nx) ∧ m.length = l.length ∧ (l.mapM (m := Sem) fun
      | .tmp t => pure (a.tmps.getD t undef)
      | .cell t ty => do loadVar ty (← asAddr (a.tmps.getD t undef))).run P w = .ok (m.map (A.den ρ)) w
  | [], K, h => ⟨[], h, by simp, rfl, rfl⟩
  | .tmp t :: r, K, h => by
    simp only [resA] at h
    split at h
    · rename_i x hx
      obtain ⟨m, h1, h2, h3, h4⟩ := resA_ok hT hs hp h
      obtain ⟨e1, e2⟩ := hs.ok t _ hx
      refine ⟨x :: m, h1, fun y hy => ?_, by simp [h3], ?_⟩
      · rcases List.mem_cons.1 hy with rfl | hy
        · exact e2
        · exact h2 y hy
      · have hg : a.tmps.getD t undef = x.den ρ := by simp [e1, V.den]
        simp only [List.mapM_cons, Sem.run_bind, Sem.run_pure, Result.andThen, hg, h4, List.map_cons]
    · exact h.elim
  | .cell t ty :: r, K, h => by
    obtain ⟨d, hd, h1⟩ := onV_iff h
    obtain ⟨v, u, hu, h2, h3, h4⟩ := rdLoad_ok hp (lookT_ok hT hd) h1
    split at h2
    · rename_i x
      obtain ⟨m, g1, g2, g3, g4⟩ := resA_ok hT hs hp h2
      obtain ⟨e1, e2⟩ := hs.ok t _ hu
      refine ⟨x :: m, g1, fun y hy => ?_, by simp [g3], ?_⟩
      · rcases List.mem_cons.1 hy with rfl | hy
        · exact h3
        · exact g2 y hy
      · have hg : a.tmps.getD t undef = u.den ρ := by simp [e1]
        have h5 : (do loadVar ty (← asAddr (u.den ρ)) : Sem Value).run P w = .ok (x.den ρ) w := by
          have h6 : (Instr.loadAt ty (u.den ρ)).run P w = .ok (x.den ρ) w := h4
          unfold Instr.loadAt at h6
          rw [Sem.run_bind] at h6 ⊢
          cases hq : u.den ρ with
          | pointer ad =>
            rw [hq] at h6
            cases ad with
            | none => simp [Instr.sureAddr] at h6
            | some ad => exact h6
          | _ => rw [hq] at h6; simp [Instr.sureAddr] at h6
        simp only [List.mapM_cons, hg]
        rw [Sem.run_bind, h5]
        simp only [Result.andThen, Sem.run_bind, g4, Sem.run_pure, List.map_cons]
    · exact h2.elim
def enterS (l : List V) (k : Nat) : S :=
  match l with
  | [] => []
  | v :: r => (k, v) :: enterS r (k + 1)
theorem enterS_look : ∀ {l : List V} {k t : Nat} {v : V}, look (enterS l k) t = some v → k ≤ t ∧ l[t - k]? = some v
  | [], k, t, v, h => by cases h
  | x :: r, k, t, v, h => by
    simp only [enterS, look] at h
    cases hb : Nat.beq k t with
    | true =>
      rw [hb] at h; cases h
      have := Nat.eq_of_beq_eq_true hb
      subst this
      simp
    | false =>
      rw [hb] at h
      obtain ⟨h1, h2⟩ := enterS_look h
      refine ⟨by omega, ?_⟩
      rw [show t - k = (t - (k + 1)) + 1 by omega]
      simpa using h2
/-- What a function's way out leaves: the blocks of its loops' deferred calls are shut. -/
structure Shut (lo : Nat) (w w' : World) : Prop where
  os : w'.os = w.os
  tape : w'.tape = w.tape
  output : w'.output = w.output
  size : w'.heap.size = w.heap.size
  blk : ∀ k, w'.heap[k]? = w.heap[k]? ∨ (lo ≤ k ∧ w.heap[k]? = some (.deferred (some [])))
theorem Shut.refl (lo : Nat) (w : World) : Shut lo w w := ⟨rfl, rfl, rfl, rfl, fun _ => .inl rfl⟩
theorem Shut.same {lo : Nat} {w w' : World} (h : Shut lo w w') {k : Nat} {o : Obj} (hk : w.heap[k]? = some o) (ho : isDefO o = false) : w'.heap[k]? = some o := by
  rcases h.blk k with h | ⟨_, h⟩
  · rw [h, hk]
  · rw [hk] at h; cases h; cases ho
theorem Shut.cell {lo : Nat} {w w' : World} (h : Shut lo w w') {p : Addr} {v : Value} (hc : w.cell? p = some v) : w'.cell? p = some v := by
  rw [← hc]
  apply World.cell?_of_block
  rcases h.blk p.block with h | ⟨_, h⟩
  · exact h
  · unfold World.cell? at hc
    rw [h] at hc; cases hc
theorem Hp.shut {lo n1 nx : Nat} {ρ : Env} {w w' : World} {L : List E} (hp : Hp n1 ρ w L nx) (h : Shut lo w w') : Hp n1 ρ w' L nx := by
  refine ⟨by rw [h.size]; exact hp.base, fun e he => ?_, hp.wf, hp.fn, hp.apart⟩
  have hok := hp.ok e he
  obtain ⟨lab, kd, cs⟩ := e
  cases kd with
  | ro z =>
    refine ⟨fun hne => ?_, hok.2⟩
    obtain ⟨b, off, e1, e2, e3⟩ := hok.1 hne
    exact ⟨b, off, e1, by rw [h.size]; exact e2, fun i hi => h.cell (e3 i hi)⟩
  | own t => obtain ⟨b, e1, e2, e3⟩ := hok; exact ⟨b, e1, e2, h.same e3 rfl⟩
  | vec t z =>
    obtain ⟨n, h1, h2⟩ := hok
    exact ⟨n, h1, h2.imp id fun ⟨g, off, cap, cur, f1, f2, f3, f4⟩ => ⟨g, off, cap, cur, f1, f2, h.same f3 rfl, f4⟩⟩
  | obj o =>
    obtain ⟨b, e1, e2, e3, ⟨r, rfl⟩, e5⟩ := hok
    exact ⟨b, e1, e2, h.same e3 rfl, ⟨r, rfl⟩, e5⟩
  | mp own ks f =>
    obtain ⟨b, es, ck, e1, e2, e3, e4⟩ := hok
    exact ⟨b, es, ck, e1, e2, h.same e3 rfl, e4⟩
theorem Keep.shut {lo n1 : Nat} {cx : Cx} {w0 w w' : World} (hk : Keep n1 cx w0 w) (h : Shut lo w w') (hlo : lo = w0.heap.size) (h1 : n1 ≤ w0.heap.size) : Keep n1 cx w0 w' := by
  subst hlo
  have hs : ∀ k, k < w0.heap.size → w'.heap[k]? = w.heap[k]? := fun k hk' => by
    rcases h.blk k with h | ⟨h, _⟩
    · exact h
    · omega
  exact ⟨⟨h.os.trans hk.bel.os, h.tape.trans hk.bel.tape, h.output.trans hk.bel.output, by rw [h.size]; exact hk.bel.size, fun k hk' => (hs k (by omega)).trans (hk.bel.block k hk')⟩,
    fun k o g1 g2 g3 => (hs k (Array.getElem?_eq_some_iff.1 g1).1).trans (hk.stay k o g1 g2 g3)⟩
theorem leaves_marks {lo : Nat} {fn : Func} {tmps : Array Value} {R : Ending → World → Prop} : ∀ {ds : List Deferred} {w : World}, ds.Nodup → (∀ d ∈ ds, ∃ D, d = { target := .collected D, args := #[] } ∧ lo ≤ D ∧ w.heap[D]? = some (.deferred (some []))) →
    (∀ w', Shut lo w w' → ∃ v, (results fn tmps).run P w' = .ok v w' ∧ R (.returned v) w') → LeavesInM (FR none) 0 P fn tmps R ds .returning w
  | [], w, _, _, h => h w (Shut.refl lo w)
  | d :: ds, w, hnd, hd, h => by
    obtain ⟨D, rfl, hlo, hD⟩ := hd d (by simp)
    refine ⟨by simp, .inl ⟨D, _, rfl, run_takeDeferred hD, leaves_marks (lo := lo) (List.nodup_cons.1 hnd).2 (fun d' hd' => ?_) (fun w' hs => h w' ?_)⟩⟩
    · obtain ⟨D', rfl, h1, h2⟩ := hd d' (by simp [hd'])
      have hne : D' ≠ D := fun e => (List.nodup_cons.1 hnd).1 (by rw [← e]; exact hd')
      exact ⟨D', rfl, h1, (World.putObj_heap_other hne).trans h2⟩
    · refine ⟨hs.os, hs.tape, hs.output, by rw [hs.size, World.putObj_size], fun k => ?_⟩
      by_cases hk : k = D
      · subst hk; exact .inr ⟨hlo, hD⟩
      · have := hs.blk k
        rw [World.putObj_heap_other hk] at this
        exact this
/-- A function, from its body. -/
theorem calls_vc (hT : TOK P T) {n1 : Nat} {cx : Cx} {f : FuncId} {fn : Func} {code : Code} {vs : List V} {w : World} {L : List E} {ρ0 : Env} {Q : V → List E → Nat → Prop} (hf : P.funcs[f]? = some fn) (hb : fn.body = some code) (hN : fn.ntmps = N) (hlen : vs.length ≤ N)
    (hp : Hp n1 ρ0 w L na) (hv : ∀ v ∈ vs, v.wf na) (hrd : cx.rd = none) (hcl : cx.lo = w.heap.size) (hi : Inv cx na ρ0 w [])
    (h : Tri P n1 cx N na code (fun e s' L' nx' => match e with
      | .normal => resA T s' L' fn.results.toList fun l => Q (tupV l) L' nx'
      | .ret => resA T s' L' fn.results.toList fun l => Q (tupV l) L' nx'
      | _ => False) (enterS vs 0) L na) :
    Calls P f (vs.map (V.den ρ0)).toArray w fun e w' => ∃ v ρ' L' nx', e = .returned (v.den ρ') ∧ na ≤ nx' ∧ v.wf nx' ∧ AgrLt na ρ0 ρ' ∧ Keep n1 cx w w' ∧ Hp n1 ρ' w' L' nx' ∧ Q v L' nx' := by
  refine (callsIn_wide (n := 0)).1 (callsIn_of_wp_marks (F := FR none) hf hb trivial ?_)
  have hs : SlOK N ρ0 { tmps := (vs.map (V.den ρ0)).toArray ++ Array.replicate (fn.ntmps - (vs.map (V.den ρ0)).toArray.size) undef, defers := [] } (enterS vs 0) na := by
    refine ⟨by simp [hN]; omega, fun t v hv' => ?_⟩
    obtain ⟨_, h2⟩ := enterS_look hv'
    simp only [Nat.sub_zero] at h2
    have hlt := (List.getElem?_eq_some_iff.1 h2).1
    refine ⟨?_, hv v (List.mem_of_getElem? h2)⟩
    have h3 : vs[t] = v := (List.getElem?_eq_some_iff.1 h2).2
    simp [Array.getElem?_append, hlt, h3]
  have hrun := h.run ρ0 _ w (Nat.le_refl _) hs hp hi
  rw [hrd] at hrun
  refine wpIn_mono hrun ?_
  have key : ∀ {a' : Act} {w' : World} {ρ' : Env} {s' : S} {L' : List E} {nx' : Nat}, na ≤ nx' → AgrLt na ρ0 ρ' → SlOK N ρ' a' s' nx' → Hp n1 ρ' w' L' nx' → (Keep n1 cx w w' ∧ Inv cx na ρ' w' a'.defers) → resA T s' L' fn.results.toList (fun l => Q (tupV l) L' nx') →
      LeavesInM (FR none) 0 P fn a'.tmps (fun e w' => ∃ v ρ' L' nx', e = .returned (v.den ρ') ∧ na ≤ nx' ∧ v.wf nx' ∧ AgrLt na ρ0 ρ' ∧ Keep n1 cx w w' ∧ Hp n1 ρ' w' L' nx' ∧ Q v L' nx') a'.defers .returning w' := by
    intro a' w' ρ' s' L' nx' h1 h2 h3 h4 h5 h6
    refine leaves_marks h5.2.nd h5.2.df fun w2 hsh => ?_
    have hk2 := h5.1.shut hsh hcl hp.base
    replace h4 := h4.shut hsh
    clear h5 hsh
    revert h4 hk2
    generalize w2 = w'
    intro hk2 h4
    obtain ⟨m, g1, g2, g3, g4⟩ := resA_ok hT h3 h4 h6
    refine ⟨(tupV m).den ρ', ?_, tupV m, ρ', L', nx', rfl, h1, ?_, h2, hk2, h4, g1⟩
    · have hrun : (fn.results.mapM (m := Sem) fun
          | .tmp t => pure (a'.tmps.getD t undef)
          | .cell a t => do loadVar t (← asAddr (a'.tmps.getD a undef))).run P w' = .ok (m.map (A.den ρ')).toArray w' := by
        rw [Array.mapM_eq_mapM_toList, Sem.run_map, g4]; rfl
      simp only [results]
      rw [Sem.run_bind]
      refine (congrArg (fun r => Result.andThen r _) hrun).trans ?_
      simp only [Result.andThen, Sem.run_pure]
      congr 1
      match m with
      | [] => rfl
      | [x] => rfl
      | x :: y :: r => simp [tupV, V.den]
    · unfold tupV
      split
      · exact g2 _ (by simp)
      · exact g2
  rintro e a' w' ⟨ρ', s', L', nx', h1, h2, h3, h4, h5, h6⟩
  cases e with
  | normal => exact key h1 h2 h3 h4 h5 h6
  | ret => exact key h1 h2 h3 h4 h5 h6
  | exit id => exact h6.elim
  | goto l => exact h6.elim
  | panic c => exact h6.elim
  | outgrown => exact h6.elim
end

/- Calls: from a function's walk to its callers. -/
/-- What a function's walk shows. -/
def Spec (P : Program) (f : FuncId) (vs : List V) (L : List E) (na : Nat) (Q : V → List E → Nat → Prop) : Prop :=
  ∀ (ρ : Env) (w : World), Hp w.heap.size ρ w L na → (∀ v ∈ vs, v.wf na) → Calls P f (vs.map (V.den ρ)).toArray w fun e w' =>
    ∃ v ρ' L' nx', e = .returned (v.den ρ') ∧ na ≤ nx' ∧ v.wf nx' ∧ AgrLt na ρ ρ' ∧ Below w.heap.size w w' ∧ Hp w.heap.size ρ' w' L' nx' ∧ Q v L' nx'
/-- The same, where what comes in may be turned. -/
def SpecM (P : Program) (f : FuncId) (vs : List V) (L : List E) (na : Nat) (Q : V → List E → Nat → Prop) : Prop :=
  ∀ (n1 : Nat) (ρ : Env) (w : World), Hp n1 ρ w L na → (∀ v ∈ vs, v.wf na) → Calls P f (vs.map (V.den ρ)).toArray w fun e w' =>
    ∃ v ρ' L' nx', e = .returned (v.den ρ') ∧ na ≤ nx' ∧ v.wf nx' ∧ AgrLt na ρ ρ' ∧ Keep n1 Cx.top w w' ∧ Hp n1 ρ' w' L' nx' ∧ Q v L' nx'
theorem Hp.env {n0 nx : Nat} {ρ ρ' : Env} {w : World} {L : List E} (h : Hp n0 ρ w L nx) (ha : AgrLt nx ρ ρ') : Hp n0 ρ' w L nx := by
  have hb : ∀ e ∈ L, blk ρ' e.lab = blk ρ e.lab := fun e he => by simp only [blk, ha _ (h.wf e he).1]
  exact ⟨h.base, fun e he => (h.ok e he).below (h.wf e he) ha (Below.refl _ _), h.wf, h.fn, fun e he e' he' h1 h2 h3 b h4 h5 => h.apart e he e' he' h1 h2 h3 b (by rw [← hb e he]; exact h4) (by rw [← hb e' he']; exact h5)⟩
theorem CallM.of {P : Program} {n0 : Nat} {f : FuncId} {vs : List V} {L : List E} {nx : Nat} {Q K : V → List E → Nat → Prop} (hok : callB P f = true) (spec : SpecM P f vs L nx Q) (hQ : ∀ v L' nx', Q v L' nx' → K v L' nx') : CallM P n0 f vs L nx K := by
  refine ⟨hok, fun ρ w hp hv => (spec n0 ρ w hp hv).mono ?_⟩
  rintro e w' ⟨v, ρ', L', nx', rfl, h1, h2, h3, h4, h5, h6⟩
  have ha : AgrLt nx' ρ' (fun l => if l < nx' then ρ' l else ρ l) := fun l hl => if_pos hl
  refine ⟨v, L', nx', fun l => if l < nx' then ρ' l else ρ l, by rw [V.den_agr ha h2], h1, h2, fun l hl => ?_, h4, h5.env ha, hQ _ _ _ h6⟩
  by_cases hl' : l < nx'
  · simp only [hl', if_true]; exact h3 l (by omega)
  · simp only [hl', if_false]
/-- A callee that turns what it is told to. -/
theorem CallM.eq {P : Program} {n0 : Nat} {f : FuncId} {vs : List V} {L L1 : List E} {nx nx1 : Nat} {u : V} {K : V → List E → Nat → Prop} (hok : callB P f = true) (spec : SpecM P f vs L nx (fun v L' nx' => v = u ∧ L' = L1 ∧ nx' = nx1)) (hK : K u L1 nx1) : CallM P n0 f vs L nx K :=
  CallM.of hok spec (by rintro v L' nx' ⟨rfl, rfl, rfl⟩; exact hK)
/-- A callee that turns what comes in, and whose results are named anew. -/
theorem CallM.ren {P : Program} {n0 : Nat} {f : FuncId} {vs : List V} {L : List E} {nx : Nat} {Q K : V → List E → Nat → Prop} (hok : callB P f = true) (spec : SpecM P f vs L nx Q)
    (h : ∀ v L' nx', v.wf nx' → Q v L' nx' → ∃ R v1 L1 nx1, nx ≤ nx1 ∧ v1.ren R = some v ∧ v1.wf nx1 ∧ covL R nx1 L' L1 ∧ injB R L1 = true ∧ fixB R nx = true ∧ K v1 L1 nx1) : CallM P n0 f vs L nx K := by
  refine ⟨hok, fun ρ w hp hv => (spec n0 ρ w hp hv).mono ?_⟩
  rintro e w' ⟨v, ρ', L', nx', rfl, h1, h2, h3, h4, h5, h6⟩
  obtain ⟨R, v1, L1, nx1, g1, g2, g3, g4, g5, g6, g7⟩ := h v L' nx' h2 h6
  obtain ⟨_, q2, q3⟩ := Enter.state (N := 0) (na := nx) (s := []) (s' := []) (a := { tmps := #[], defers := [] }) (ρ := ρ') (w := w') (n0 := n0) ⟨trivial, g4, g5, g6, g1⟩ ⟨rfl, fun t v hv => (by cases hv)⟩ h5
  have ha : AgrLt nx1 (renE R ρ') (fun l => if l < nx1 then renE R ρ' l else ρ l) := fun l hl => if_pos hl
  refine ⟨v1, L1, nx1, fun l => if l < nx1 then renE R ρ' l else ρ l, by rw [V.den_agr ha g3, V.ren_den g2], g1, g3, fun l hl => ?_, h4, q2.env ha, g7⟩
  by_cases hl' : l < nx1
  · simp only [hl', if_true]; exact (q3 l (by omega)).trans (h3 l (by omega))
  · simp only [hl', if_false]
/-- A callee's entries, that are read alone, in the caller's state. -/
def roE (R : Rn) (nx : Nat) (L : List E) (e : E) : Prop :=
  match e.kd with
  | .ro z => e.lab < nx ∧ (∀ c ∈ e.cs, c.wf nx) ∧ (match renL R e.lab with
    | some l => ∃ k cs', find L l = some ⟨l, k, cs'⟩ ∧ (z = 0 ∨ k.z = some z) ∧ seqO (e.cs.map (C.ren R)) = some cs'
    | none => e.cs = [])
  | .mp false ks f => e.lab < nx ∧ e.cs = [] ∧ (match renL R e.lab with
    | some l => ∃ own, find L l = some ⟨l, .mp own ks f, []⟩
    | none => False)
  | _ => False
def roL (R : Rn) (nx : Nat) (L : List E) : List E → Prop
  | [] => True
  | e :: r => roE R nx L e ∧ roL R nx L r
def renVs (R : Rn) (l : List V) : Option (List V) := seqO (l.map (V.ren R))
def inLab (nx nx2 l : Nat) : Bool := Nat.ble nx l && Nat.blt l nx2
/-- The result in the caller's names. -/
structure Ret (Rr : Rn) (nx nx2 : Nat) (v : V) (L : List E) (v' : V) (new : List E) : Prop where
  le : nx ≤ nx2
  v : v'.ren Rr = some v
  vc : v'.chk (inLab nx nx2) = true
  l : covL Rr nx2 L new
  inj : injB Rr new = true
  lc : (new.all fun e => inLab nx nx2 e.lab && !e.kd.isRo && e.cs.all (C.chk (inLab nx nx2))) = true
section
variable {P : Program} {n0 : Nat}
theorem C.wf_of_ren {R : Rn} {c c' : C} {m n : Nat} {p : Nat → Bool} (h : c.ren R = some c') (hw : c'.wf m) (hc : c.chk p = true) (hp : ∀ l, p l = true → l < n) : c.wf n := by
  cases c <;> simp only [C.chk, C.wf] at *
  case ptr l o => exact hp _ hc
  case sl l o => exact hp _ hc
  case sub l o n k => exact hp _ hc
  case mp l => exact hp _ hc
  case fn f caps => exact fun q hq => hp _ (List.all_eq_true.1 hc q hq)
  case v x => cases h; exact hw
theorem A.wf_of_ren {R : Rn} {c c' : A} {m n : Nat} {p : Nat → Bool} (h : c.ren R = some c') (hw : c'.wf m) (hc : c.chk p = true) (hp : ∀ l, p l = true → l < n) : c.wf n := by
  cases c with
  | c x =>
    simp only [A.ren] at h
    cases hx : x.ren R with
    | none => rw [hx] at h; cases h
    | some y => rw [hx] at h; cases h; exact C.wf_of_ren hx hw hc hp
  | agg l =>
    simp only [A.ren] at h
    split at h
    · rename_i k hk
      cases h
      obtain ⟨h1, h2⟩ := seqO_ok hk
      intro x hx
      obtain ⟨i, hi, rfl⟩ := List.mem_iff_getElem.1 hx
      exact C.wf_of_ren (h2 i hi (by omega)) (hw _ (List.getElem_mem _)) (List.all_eq_true.1 hc _ hx) hp
    · cases h
theorem V.wf_of_ren {R : Rn} {c c' : V} {m n : Nat} {p : Nat → Bool} (h : c.ren R = some c') (hw : c'.wf m) (hc : c.chk p = true) (hp : ∀ l, p l = true → l < n) : c.wf n := by
  cases c with
  | a x =>
    simp only [V.ren] at h
    cases hx : x.ren R with
    | none => rw [hx] at h; cases h
    | some y => rw [hx] at h; cases h; exact A.wf_of_ren hx hw hc hp
  | tup l =>
    simp only [V.ren] at h
    split at h
    · rename_i k hk
      cases h
      obtain ⟨h1, h2⟩ := seqO_ok hk
      intro x hx
      obtain ⟨i, hi, rfl⟩ := List.mem_iff_getElem.1 hx
      exact A.wf_of_ren (h2 i hi (by omega)) (hw _ (List.getElem_mem _)) (List.all_eq_true.1 hc _ hx) hp
    · cases h
theorem roL_mem {R : Rn} {nx : Nat} {L : List E} : ∀ {L' : List E}, roL R nx L L' → ∀ e ∈ L', roE R nx L e
  | [], _, e, h => by cases h
  | x :: r, hc, e, h => by
    rcases List.mem_cons.1 h with rfl | h
    · exact hc.1
    · exact roL_mem hc.2 e h
theorem EOK.base {n1 : Nat} {ρ : Env} {w : World} {e : E} (h : EOK n1 ρ w e) (hn : n0 ≤ n1) : EOK n0 ρ w e := by
  obtain ⟨lab, kd, cs⟩ := e
  cases kd with
  | ro z => exact h
  | own t => obtain ⟨b, e1, e2, e3⟩ := h; exact ⟨b, e1, by omega, e3⟩
  | obj o => obtain ⟨b, e1, e2, e3⟩ := h; exact ⟨b, e1, by omega, e3⟩
  | mp own ks f => obtain ⟨b, es, ck, e1, e2, e3⟩ := h; exact ⟨b, es, ck, e1, fun hh => Nat.le_trans hn (e2 hh), e3⟩
  | vec t z =>
    obtain ⟨n, h1, h2⟩ := h
    exact ⟨n, h1, h2.imp id fun ⟨g, off, cap, cur, q1, q2, q3⟩ => ⟨g, off, cap, cur, q1, by omega, q3⟩⟩
theorem EOK.blk_ge {n1 : Nat} {ρ : Env} {w : World} {e : E} (h : EOK n1 ρ w e) (hk : e.kd.isRo = false) : ∀ b, blk ρ e.lab = some b → n1 ≤ b := by
  intro b hb
  obtain ⟨lab, kd, cs⟩ := e
  cases kd with
  | ro z => cases hk
  | own t =>
    obtain ⟨b', e1, e2, e3⟩ := h
    simp only [blk, e1, Option.map_some, Option.some.injEq] at hb
    omega
  | vec t z =>
    obtain ⟨n, hw⟩ := h
    simp only [blk] at hb
    obtain ⟨a, ha, hab⟩ := Option.map_eq_some_iff.1 hb
    exact (hw.lt b (by simp only [ha, Value.ownBlock, hab])).1
  | obj o =>
    obtain ⟨b', e1, e2, e3⟩ := h
    simp only [blk, e1, Option.map_some, Option.some.injEq] at hb
    omega
  | mp own ks f =>
    obtain ⟨b', es, ck, e1, e2, e3⟩ := h
    simp only [blk, e1, Option.map_some, Option.some.injEq] at hb
    have := e2 (by cases own <;> first | rfl | cases hk)
    omega
theorem callee_run {f : FuncId} {vs vs' : List V} {Lc L : List E} {nac nx : Nat} {R : Rn} {Q : V → List E → Nat → Prop} (spec : Spec P f vs Lc nac Q) (hv : renVs R vs = some vs') (hvw : ∀ v ∈ vs, v.wf nac) (hL : roL R nac L Lc) (hLc : injB [] Lc = true)
    {ρ : Env} {w : World} (hp : Hp n0 ρ w L nx) : Calls P f (vs'.map (V.den ρ)).toArray w fun e w' =>
    ∃ v ρ' L' nx', e = .returned (v.den ρ') ∧ nac ≤ nx' ∧ v.wf nx' ∧ AgrLt nac (renE R ρ) ρ' ∧ Below w.heap.size w w' ∧ Hp w.heap.size ρ' w' L' nx' ∧ Q v L' nx' := by
  have hE : ∀ e ∈ Lc, EOK w.heap.size (renE R ρ) w e ∧ e.kd.isRo = true := by
    intro e he
    have h := roL_mem hL e he
    obtain ⟨lab, kd, cs⟩ := e
    cases kd with
    | own t => exact h.elim
    | vec t z => exact h.elim
    | obj o => exact h.elim
    | mp own ks f =>
      cases own with
      | true => exact h.elim
      | false =>
        obtain ⟨h1, h2, h3⟩ := h
        simp only at h2 h3
        cases hr : renL R lab with
        | none => rw [hr] at h3; exact h3.elim
        | some l =>
          rw [hr] at h3
          obtain ⟨own, h4⟩ := h3
          have hm := find_mem h4
          have hk := (hp.ok _ hm.1).mpRo (n0 := w.heap.size)
          have hl : (renE R ρ) lab = ρ l := by simp only [renE, hr]
          refine ⟨?_, rfl⟩
          subst h2
          simp only [EOK] at hk ⊢
          rw [hl]; exact hk
    | ro z =>
      obtain ⟨h1, h2, h3⟩ := h
      simp only at h3
      refine ⟨?_, rfl⟩
      cases hr : renL R lab with
      | none =>
        rw [hr] at h3
        subst h3
        exact ⟨fun hne => absurd rfl hne, .inr (Nat.zero_le _)⟩
      | some l =>
        rw [hr] at h3
        obtain ⟨k, cs', h4, h5, h6⟩ := h3
        have hm := find_mem h4
        have hk := (hp.ok _ hm.1).toRo (n0 := w.heap.size) h5
        have hl : (renE R ρ) lab = ρ l := by simp only [renE, hr]
        simp only [EOK] at hk ⊢
        rw [hl, cells_ren h6 ρ, (seqO_ok h6).1]; exact hk
  have hpc : Hp w.heap.size (renE R ρ) w Lc nac := by
    refine ⟨Nat.le_refl _, fun e he => (hE e he).1, fun e he => ?_, fun e he e' he' hl => ?_, fun e he e' he' hro => ?_⟩
    · have h := roL_mem hL e he
      obtain ⟨lab, kd, cs⟩ := e
      cases kd with
      | ro z => exact ⟨h.1, h.2.1⟩
      | own t => exact h.elim
      | vec t z => exact h.elim
      | obj o => exact h.elim
      | mp own ks f =>
        cases own with
        | true => exact h.elim
        | false => exact ⟨h.1, fun c hc => by have := h.2.1; simp only at this; subst this; cases hc⟩
    · exact injB_spec hLc e he e' he' (.inl hl)
    · rw [(hE e he).2] at hro; cases hro
  obtain ⟨hv1, hv2⟩ := seqO_ok hv
  have hargs : vs'.map (V.den ρ) = vs.map (V.den (renE R ρ)) := by
    apply List.ext_getElem
    · simpa using hv1.symm
    · intro i hi hi'
      simpa using (V.ren_den (hv2 i (by simpa using hi') (by simpa using hi)) ρ).symm
  rw [hargs]
  exact spec (renE R ρ) w hpc hvw
theorem CallK.mk' {f : FuncId} {vs vs' : List V} {Lc L : List E} {nac nx : Nat} {R : Rn} {K Q : V → List E → Nat → Prop} (hok : callB P f = true) (spec : Spec P f vs Lc nac Q) (hv : renVs R vs = some vs') (hvw : ∀ v ∈ vs, v.wf nac) (hL : roL R nac L Lc) (hLc : injB [] Lc = true)
    (hQ : ∀ v L' nx', v.wf nx' → Q v L' nx' → ∃ v' new nx2 Rr, Ret Rr nx nx2 v L' v' new ∧ K v' new nx2) : CallK P n0 f vs' L nx K := by
  refine ⟨hok, fun ρ w hp hvw' => ?_⟩
  refine (callee_run spec hv hvw hL hLc hp).mono ?_
  rintro e w' ⟨v, ρ', L', nx', rfl, h1, h2, h3, h4, h5, h6⟩
  obtain ⟨v', new, nx2, Rr, hret, hK⟩ := hQ v L' nx' h2 h6
  have hin : ∀ {l : Nat}, inLab nx nx2 l = true → nx ≤ l ∧ l < nx2 := fun h => by
    simp only [inLab, Bool.and_eq_true] at h
    exact ⟨Nat.le_of_ble_eq_true h.1, Nat.le_of_ble_eq_true h.2⟩
  let ρ2 : Env := fun l => bif inLab nx nx2 l then renE Rr ρ' l else ρ l
  have hρ2 : ∀ l, inLab nx nx2 l = true → ρ2 l = renE Rr ρ' l := fun l hl => by simp only [ρ2, hl, cond_true]
  have hagr : Agr nx nx2 ρ ρ2 := fun l hl => by
    have : inLab nx nx2 l = false := by
      cases hb : inLab nx nx2 l with
      | false => rfl
      | true => exact absurd (hin hb) hl
    simp only [ρ2, this, cond_false]
  have hden : ∀ c : C, c.chk (inLab nx nx2) = true → c.den ρ2 = c.den (renE Rr ρ') := fun c hc => C.den_labs (q := fun l => inLab nx nx2 l = true) hρ2 (C.labs_of_chk (fun l hl => hl) hc)
  have hnew : ∀ e ∈ new, inLab nx nx2 e.lab = true ∧ e.kd.isRo = false ∧ ∀ c ∈ e.cs, c.chk (inLab nx nx2) = true := by
    intro e he
    have h := List.all_eq_true.1 hret.lc e he
    simp only [Bool.and_eq_true, Bool.not_eq_true'] at h
    exact ⟨h.1.1, h.1.2, fun c hc => List.all_eq_true.1 h.2 c hc⟩
  have hEn : ∀ e ∈ new, EOK w.heap.size ρ2 w' e ∧ ((∃ l e0, renL Rr e.lab = some l ∧ e0 ∈ L' ∧ e0.lab = l ∧ e0.kd = e.kd) ∨ renL Rr e.lab = none) := by
    intro e he
    obtain ⟨q1, q2, q3⟩ := hnew e he
    obtain ⟨g1, g2, g3⟩ := covL_mem hret.l e he
    have hl2 : ρ2 e.lab = renE Rr ρ' e.lab := hρ2 _ q1
    have hc2 : e.cs.map (C.den ρ2) = e.cs.map (C.den (renE Rr ρ')) := List.map_congr_left fun c hc => hden c (q3 c hc)
    cases hr : renL Rr e.lab with
    | none =>
      rw [hr] at g3
      obtain ⟨g4, t, z, g5⟩ := g3
      refine ⟨?_, .inr rfl⟩
      obtain ⟨lab, kd, cs⟩ := e
      simp only at g4 g5 hr hl2
      subst g4 g5
      refine ⟨0, ?_⟩
      rw [hl2]
      have : (renE Rr ρ') lab = (none, 0) := by simp only [renE, hr]
      rw [this]
      exact rowO_nil w' _ t z
    | some l =>
      rw [hr] at g3
      obtain ⟨k, cs', g4, gk, g5⟩ := g3
      have hke : e.kd = k := by
        rcases gk with gk | ⟨z, gk, _⟩ | ⟨own, ks, f, gk⟩
        · exact gk
        · rw [gk] at q2; cases q2
        · rw [gk.2] at q2; cases q2
      subst hke
      have hm := find_mem g4
      have hok := h5.ok _ hm.1
      have hl : (renE Rr ρ') e.lab = ρ' l := by simp only [renE, hr]
      refine ⟨?_, .inl ⟨l, _, rfl, hm.1, rfl, rfl⟩⟩
      have hc := g5 ρ'
      obtain ⟨lab, kd, cs⟩ := e
      simp only at hok hl hc hl2 hc2 q2
      cases kd with
      | ro z => cases q2
      | own t => simp only [EOK] at hok ⊢; rw [hl2, hc2, hl, hc]; exact hok
      | vec t z => simp only [EOK] at hok ⊢; rw [hl2, hc2, hl, hc]; exact hok
      | obj o =>
        simp only [EOK] at hok ⊢; rw [hl2, hl]
        obtain ⟨b, e1, e2, e3, e4, e5⟩ := hok
        subst e5
        exact ⟨b, e1, e2, e3, e4, by simpa using hc⟩
      | mp own ks f =>
        simp only [EOK] at hok ⊢; rw [hl2, hl]
        obtain ⟨b, es, ck, e1, e2, e3, e4, e5⟩ := hok
        subst e5
        exact ⟨b, es, ck, e1, e2, e3, e4, by simpa using hc⟩
  refine ⟨v', new, nx2, ρ2, ?_, hret.le, ?_, hagr, h4, ?_, hK⟩
  · rw [V.den_labs (q := fun l => inLab nx nx2 l = true) hρ2 (V.labs_of_chk (fun l hl => hl) hret.vc), V.ren_den hret.v ρ']
  · exact V.wf_of_ren hret.v h2 hret.vc (fun l hl => (hin hl).2)
  · refine ⟨fun e he => (hEn e he).1.base hp.base, fun e he => ⟨hin (hnew e he).1, (covL_mem hret.l e he).2.1⟩, fun e he e' he' hl => injB_spec hret.inj e he e' he' (.inl hl), ?_, fun e he => .inl (fun b hb => (hEn e he).1.blk_ge (hnew e he).2.1 b hb)⟩
    intro e he e' he' hro hne hcs b hb hb'
    have hbl : ∀ x : E, x ∈ new → ∀ l, renL Rr x.lab = some l → blk ρ2 x.lab = blk ρ' l := fun x hx l hl => by simp only [blk]; rw [hρ2 _ (hnew x hx).1]; simp only [renE, hl]
    have hbn : ∀ x : E, x ∈ new → renL Rr x.lab = none → blk ρ2 x.lab = none := fun x hx hl => by simp only [blk]; rw [hρ2 _ (hnew x hx).1]; simp only [renE, hl]; rfl
    rcases (hEn e he).2 with ⟨l, e0, g1, g2, g3, g4⟩ | g1
    · rcases (hEn e' he').2 with ⟨l', e0', k1, k2, k3, k4⟩ | k1
      · rw [hbl e he l g1, ← g3] at hb
        rw [hbl e' he' l' k1, ← k3] at hb'
        refine h5.apart e0 g2 e0' k2 (by rw [g4]; exact hro) ?_ (fun hr0 => (Kd.ro_fl (by rw [k4]; exact (hnew e' he').2.1) hr0).elim) b hb hb'
        intro heq
        have := injB_spec hret.inj e he e' he' (.inr ⟨l, g1, by rw [k1, ← k3, heq, g3]⟩)
        exact hne (by rw [this])
      · rw [hbn e' he' k1] at hb'; cases hb'
    · rw [hbn e he g1] at hb; cases hb
/-- A function's walk, as what its callers ask. -/
theorem Spec.of {T : List (Nat × TD)} (hT : TOK P T) {f : FuncId} {fn : Func} {code : Code} {vs : List V} {L : List E} {N na : Nat} {Q : V → List E → Nat → Prop} (hf : P.funcs[f]? = some fn) (hb : fn.body = some code) (hN : fn.ntmps = N) (hlen : Nat.ble vs.length N = true)
    (h : ∀ n0 cx, Tri P n0 cx N na code (fun e s' L' nx' => match e with
      | .normal => resA T s' L' fn.results.toList fun l => Q (tupV l) L' nx'
      | .ret => resA T s' L' fn.results.toList fun l => Q (tupV l) L' nx'
      | _ => False) (enterS vs 0) L na) : Spec P f vs L na Q :=
  fun ρ w hp hv => (calls_vc (cx := Cx.at w.heap.size) hT hf hb hN (Nat.le_of_ble_eq_true hlen) hp hv rfl rfl Inv.at (h _ _)).mono fun e w' ⟨v, ρ', L', nx', h1, h2, h3, h4, h5, h6, h7⟩ => ⟨v, ρ', L', nx', h1, h2, h3, h4, h5.bel, h6, h7⟩
theorem SpecM.of {T : List (Nat × TD)} (hT : TOK P T) {f : FuncId} {fn : Func} {code : Code} {vs : List V} {L : List E} {N na : Nat} {Q : V → List E → Nat → Prop} (hf : P.funcs[f]? = some fn) (hb : fn.body = some code) (hN : fn.ntmps = N) (hlen : Nat.ble vs.length N = true)
    (h : ∀ n0 cx, Tri P n0 cx N na code (fun e s' L' nx' => match e with
      | .normal => resA T s' L' fn.results.toList fun l => Q (tupV l) L' nx'
      | .ret => resA T s' L' fn.results.toList fun l => Q (tupV l) L' nx'
      | _ => False) (enterS vs 0) L na) : SpecM P f vs L na Q :=
  fun n1 ρ w hp hv => (calls_vc (cx := Cx.at w.heap.size) hT hf hb hN (Nat.le_of_ble_eq_true hlen) hp hv rfl rfl Inv.at (h n1 _)).mono fun e w' ⟨v, ρ', L', nx', h1, h2, h3, h4, h5, h6, h7⟩ => ⟨v, ρ', L', nx', h1, h2, h3, h4, ⟨h5.bel, h5.stay⟩, h6, h7⟩
/-- The result is what the symbol says. -/
def Is (u : V) : V → List E → Nat → Prop := fun v _ _ => ∀ ρ, v.den ρ = u.den ρ
/-- A callee whose result names no memory. -/
theorem CallK.val {f : FuncId} {vs vs' : List V} {Lc L : List E} {nac nx : Nat} {R : Rn} {u : V} {K : V → List E → Nat → Prop} (spec : Spec P f vs Lc nac (Is u)) (hok : callB P f = true) (hv : renVs R vs = some vs') (hvw : ∀ v ∈ vs, v.wf nac) (hL : roL R nac L Lc) (hLc : injB [] Lc = true)
    (hu : u.chk (fun _ => false) = true) (huw : u.wf nx) (hK : K u [] nx) : CallK P n0 f vs' L nx K := by
  refine ⟨hok, fun ρ w hp _ => (callee_run spec hv hvw hL hLc hp).mono ?_⟩
  rintro e w' ⟨v, ρ', L', nx', rfl, h1, h2, h3, h4, h5, h6⟩
  refine ⟨u, [], nx, ρ, ?_, Nat.le_refl _, huw, Agr.refl _ _, h4, News.nil, hK⟩
  rw [h6 ρ', V.den_labs (q := fun _ => False) (fun l hl => hl.elim) (V.labs_of_chk (fun l hl => by cases hl) hu)]
end

theorem br_t {p : Prop} [Decidable p] {A B : Prop} (hp : p) (h : A) : (decide p = true → A) ∧ (decide p = false → B) := ⟨fun _ => h, fun hh => absurd hp (of_decide_eq_false hh)⟩
theorem br_f {p : Prop} [Decidable p] {A B : Prop} (hp : ¬ p) (h : B) : (decide p = true → A) ∧ (decide p = false → B) := ⟨fun hh => absurd (of_decide_eq_true hh) hp, fun _ => h⟩
theorem br_d {p : Prop} [Decidable p] {A B : Prop} (h1 : p → A) (h2 : ¬ p → B) : (decide p = true → A) ∧ (decide p = false → B) := ⟨fun hh => h1 (of_decide_eq_true hh), fun hh => h2 (of_decide_eq_false hh)⟩
theorem bs_t {p : Prop} [Decidable p] {A B : Prop} (hp : p) (h : B) : (decide p = false → A) ∧ (decide p = true → B) := ⟨fun hh => absurd hp (of_decide_eq_false hh), fun _ => h⟩
theorem bs_f {p : Prop} [Decidable p] {A B : Prop} (hp : ¬ p) (h : A) : (decide p = false → A) ∧ (decide p = true → B) := ⟨fun _ => h, fun hh => absurd (of_decide_eq_true hh) hp⟩
/-- The heads of a region: what goes ahead of the first operation that turns memory. -/
def headN (l : List Oper) : Nat :=
  match l with
  | [] => 0
  | o :: r => match o.op with
    | .store _ _ _ => 0
    | .call ⟨.builtin .append, _, _⟩ => 0
    | .mapUpdate _ _ _ _ => 0
    | .call ⟨.builtin .delete, _, _⟩ => 0
    | _ => headN r + 1
theorem draw_auto {P : Program} {T : List (Nat × TD)} {n0 : Nat} {cx : Cx} {N na : Nat} (hT : TOK P T) (hm : P.follows .mixedOrders = true) {id : Nat} {ops : Array Oper} {K : Kt} {s : S} {L : List E} {nx : Nat} (hB : drawB ops (headN ops.toList) = true) (h : Opq (K .normal) fun K' => drawR P T n0 cx N [] ops.toList (headN ops.toList) K' s L nx) :
    Tri P n0 cx N na (.region id ops true) K s L nx := draw_rule hT hm hB (h (K .normal) fun _ _ _ h => h)
/-- The heads where appends are among them: what goes ahead of the first store. -/
def headS (l : List Oper) : Nat :=
  match l with
  | [] => 0
  | o :: r => match o.op with
    | .store _ _ _ => 0
    | _ => headS r + 1
theorem HD_mk {P : Program} {n0 : Nat} {g : FuncId} {vs : List V} {L : List E} {nx : Nat} {K : V → List E → Nat → Prop} {v : V} {new : List E} {nx' : Nat} (h : ∀ K' : V → List E → Nat → Prop, K' v new nx' → CallK P n0 g vs L nx K') (hK : K v new nx') : HD P n0 g vs L nx K :=
  ⟨v, new, nx', h _ ⟨rfl, rfl, rfl⟩, hK⟩
theorem chk_rowI (p : Nat → Bool) (l : List Int) (lab : Nat) (kd : Kd) : (([⟨lab, kd, l.map C.i⟩] : List E).all fun e => e.cs.all (C.chk p)) = true := by
  simp only [List.all_cons, List.all_nil, Bool.and_true]
  exact List.all_eq_true.2 fun c hc => by obtain ⟨x, _, rfl⟩ := List.mem_map.1 hc; rfl
theorem covE_sem {R : Rn} {nx l : Nat} {L : List E} {e : E} {k : Kd} {cs' : List C} (hr : renL R e.lab = some l) (h1 : e.lab < nx) (h2 : ∀ c ∈ e.cs, c.wf nx) (h3 : find L l = some ⟨l, k, cs'⟩) (hk : kdLe k e.kd) (h4 : ∀ ρ, e.cs.map (C.den (renE R ρ)) = cs'.map (C.den ρ)) : covE R nx L e := by
  unfold covE; rw [hr]; exact ⟨h1, h2, k, cs', h3, hk, h4⟩
theorem covE_id {nx : Nat} {L : List E} {e : E} {cs' : List C} (h1 : e.lab < nx) (h2 : ∀ c ∈ e.cs, c.wf nx) (h3 : find L e.lab = some ⟨e.lab, e.kd, cs'⟩) (h4 : cs' = e.cs) : covE [] nx L e :=
  covE_sem rfl h1 h2 h3 (.inl rfl) (fun ρ => by rw [h4]; exact cells_ren seqO_id ρ)
theorem covE_some {R : Rn} {nx l : Nat} {L : List E} {e : E} {cs' : List C} (hr : renL R e.lab = some l) (h1 : e.lab < nx) (h2 : ∀ c ∈ e.cs, c.wf nx) (h3 : find L l = some ⟨l, e.kd, cs'⟩) (h4 : seqO (e.cs.map (C.ren R)) = some cs') : covE R nx L e :=
  covE_sem hr h1 h2 h3 (.inl rfl) (fun ρ => cells_ren h4 ρ)
theorem covE_mp {R : Rn} {nx l l' : Nat} {own : Bool} {ks : KS} {f f' : MF} {L : List E} (hr : renL R l = some l') (h1 : l < nx) (h3 : find L l' = some ⟨l', .mp own ks f', []⟩) (he : f' = f) : covE R nx L ⟨l, .mp own ks f, []⟩ :=
  covE_sem hr h1 (fun x hx => by cases hx) h3 (.inl (by rw [he])) (fun ρ => rfl)
theorem covE_nil {R : Rn} {nx t z : Nat} {L : List E} {e : E} (hr : renL R e.lab = none) (h1 : e.lab < nx) (h2 : e.cs = []) (h3 : e.kd = .vec t z) : covE R nx L e := by
  unfold covE; rw [hr]; exact ⟨h1, (by rw [h2]; simp), h2, t, z, h3⟩
theorem covS_syn {R : Rn} {nx t : Nat} {s : S} {v : V} (h : look s t = v.ren R) (hs : (look s t).isSome = true) (hw : v.wf nx) : covS1 R nx s (t, v) := by
  obtain ⟨u, hu⟩ := Option.isSome_iff_exists.1 hs
  exact ⟨⟨u, hu, fun ρ => V.ren_den (by rw [← h, hu]) ρ⟩, hw⟩
theorem covS_bool {R : Rn} {nx t : Nat} {s : S} {c : C} {b b' : Bool} (h : look s t = some (V.c c)) (hc : c.toB = some b') (e : b' = b) : covS1 R nx s (t, V.c (.bool b)) :=
  ⟨⟨_, h, fun ρ => by subst e; exact (C.toB_den hc ρ).symm⟩, trivial⟩
theorem roE_id {nx z l : Nat} {L : List E} {k : Kd} {cs cs' : List C} (h1 : l < nx) (h2 : ∀ c ∈ cs, c.wf nx) (h3 : find L l = some ⟨l, k, cs'⟩) (hz : z = 0 ∨ k.z = some z) (h4 : cs' = cs) : roE [] nx L ⟨l, .ro z, cs⟩ :=
  ⟨h1, h2, k, cs', h3, hz, by rw [h4]; exact seqO_id⟩
theorem lkm {α β : Type} {f : α → Option β} {k : α} {o : Option β} {K : Option β → Prop} (h : f k = o) (hK : K o) : ∃ o, f k = o ∧ K o := ⟨o, h, hK⟩
theorem ld {α : Type} {o : Option α} {c : α} {K : α → Prop} (h : o = some c) (hK : K c) : ∃ c, o = some c ∧ K c := ⟨c, h, hK⟩

/- Helpers: rows of integers and of booleans, memory that comes in, what goes out. -/
theorem br_bt {b : Bool} {A B : Prop} (h : b = true) (hA : A) : (b = true → A) ∧ (b = false → B) := ⟨fun _ => hA, fun h2 => by rw [h] at h2; cases h2⟩
theorem br_bf {b : Bool} {A B : Prop} (h : b = false) (hB : B) : (b = true → A) ∧ (b = false → B) := ⟨fun h2 => (by rw [h] at h2; cases h2), fun _ => hB⟩
theorem bs_bt {b : Bool} {A B : Prop} (h : b = true) (hB : B) : (b = false → A) ∧ (b = true → B) := ⟨fun h2 => (by rw [h] at h2; cases h2), fun _ => hB⟩
theorem bs_bf {b : Bool} {A B : Prop} (h : b = false) (hA : A) : (b = false → A) ∧ (b = true → B) := ⟨fun _ => hA, fun h2 => (by rw [h] at h2; cases h2)⟩
theorem intL {l : List Int} {k : Nat} (h : k < l.length) : (l.map C.i)[mulS ((k : Nat) : Int).toNat 1]? = some (C.i (l.getD k 0)) := by
  rw [mulS_eq]; simp [h, List.getD_eq_getElem?_getD]
theorem intLz {l : List Int} {k : Nat} {z : Int} (hz : z = k) (h : k < l.length) : (l.map C.i)[mulS z.toNat 1]? = some (C.i (l.getD k 0)) := by
  subst hz; exact intL h
theorem wf_ints (n : Nat) (l : List Int) : ∀ c ∈ l.map C.i, c.wf n := by
  intro c hc; obtain ⟨x, _, rfl⟩ := List.mem_map.1 hc; trivial
theorem wf_bools (n : Nat) (l : List Bool) : ∀ c ∈ l.map C.bool, c.wf n := by
  intro c hc; obtain ⟨x, _, rfl⟩ := List.mem_map.1 hc; trivial
theorem chk_ints (p : Nat → Bool) (l : List Int) : (l.map C.i).all (C.chk p) = true := List.all_eq_true.2 fun c hc => by
  obtain ⟨x, _, rfl⟩ := List.mem_map.1 hc; rfl
theorem ren_ints (R : Rn) (l : List Int) : seqO ((l.map C.i).map (C.ren R)) = some (l.map C.i) := by
  induction l with
  | nil => rfl
  | cons x r ih => simp only [List.map_cons, C.ren, C.i, seqO] at *; rw [ih]
theorem ren_bools (R : Rn) (l : List Bool) : seqO ((l.map C.bool).map (C.ren R)) = some (l.map C.bool) := by
  induction l with
  | nil => rfl
  | cons x r ih => simp only [List.map_cons, C.ren, seqO] at *; rw [ih]
theorem seqO_fix {R : Rn} {l : List C} (h : ∀ c ∈ l, c.ren R = some c) : seqO (l.map (C.ren R)) = some l := by
  induction l with
  | nil => rfl
  | cons x r ih =>
    rw [List.map_cons, h x (by simp)]
    simp only [seqO]
    rw [ih (fun c hc => h c (by simp [hc]))]
/-- A row that the callee left. -/
theorem Hp.row {n0 : Nat} {ρ : Env} {w : World} {L : List E} {nx l : Nat} {k : Kd} {cs : List C} (h : Hp n0 ρ w L nx) (hf : find L l = some ⟨l, k, cs⟩) : RoAt w (ρ l).1 (cs.map (C.den ρ)) ∧ (k.isRo = false → ∀ a, (ρ l).1 = some a → n0 ≤ a.block) := by
  have hm := find_mem hf
  have hok := h.ok _ hm.1
  refine ⟨(hok.toRo (n0 := n0) (.inl rfl)).1, fun hk a ha => hok.blk_ge hk a.block (by simp [blk, ha])⟩

/- Ranges over a function: the function that is ranged over is walked in the caller's memory, a call of yield is the loop's body. -/
def putL : List Tmp → List V → S → S
  | p :: r, v :: q, s => putL r q ((p, v) :: s)
  | _, _, s => s
/-- The record of a loop becomes o. -/
def updOL (lr : Nat) (o : Obj) (L : List E) : List E :=
  match L with
  | [] => []
  | ⟨lab, kd, cs⟩ :: r => (bif Nat.beq lab lr then ⟨lr, .obj o, []⟩ else ⟨lab, kd, cs⟩) :: updOL lr o r
def updO (lr : Nat) (o : Obj) (L : List E) (K : List E → Prop) : Prop :=
  match L with
  | [] => K []
  | ⟨lab, kd, cs⟩ :: r => match Nat.beq lab lr with
    | true => updO lr o r fun r' => K (⟨lr, .obj o, []⟩ :: r')
    | false => updO lr o r fun r' => K (⟨lab, kd, cs⟩ :: r')
theorem updO_eq (lr : Nat) (o : Obj) : ∀ (L : List E) (K : List E → Prop), updO lr o L K = K (updOL lr o L)
  | [], K => rfl
  | ⟨lab, kd, cs⟩ :: r, K => by
    simp only [updO, updOL]
    cases Nat.beq lab lr <;> simp only [updO_eq lr o r, cond_true, cond_false]
theorem updOL_mem {lr : Nat} {o : Obj} : ∀ {L : List E} {x : E}, x ∈ updOL lr o L → ∃ e ∈ L, (e.lab = lr ∧ x = ⟨lr, .obj o, []⟩) ∨ (e.lab ≠ lr ∧ x = e)
  | ⟨lab, kd, cs⟩ :: r, x, h => by
    simp only [updOL] at h
    rcases List.mem_cons.1 h with h | h
    · refine ⟨_, List.mem_cons_self, ?_⟩
      cases hb : Nat.beq lab lr with
      | true => rw [hb] at h; exact .inl ⟨Nat.eq_of_beq_eq_true hb, h⟩
      | false => rw [hb] at h; exact .inr ⟨fun he => by simp only at he; rw [he] at hb; simp at hb, h⟩
    · obtain ⟨e, h1, h2⟩ := updOL_mem h
      exact ⟨e, List.mem_cons_of_mem _ h1, h2⟩
theorem mem_updOL {lr : Nat} {o : Obj} : ∀ {L : List E} {e : E}, e ∈ L → e.lab ≠ lr → e ∈ updOL lr o L
  | ⟨lab, kd, cs⟩ :: r, e, h, hne => by
    simp only [updOL]
    rcases List.mem_cons.1 h with h | h
    · subst h
      have : Nat.beq lab lr = false := by
        cases hb : Nat.beq lab lr with
        | false => rfl
        | true => exact absurd (Nat.eq_of_beq_eq_true hb) hne
      rw [this]; exact List.mem_cons_self
    · exact List.mem_cons_of_mem _ (mem_updOL h hne)
/-- The record of a loop is o. -/
def hasO (L : List E) (lr : Nat) (o : Obj) (K : Prop) : Prop :=
  match find L lr with
  | some ⟨_, .obj o', _⟩ => o' = o ∧ K
  | _ => False
theorem hasO_find {L : List E} {lr : Nat} {o : Obj} {K : Prop} (h : hasO L lr o K) : (∃ cs, find L lr = some ⟨lr, .obj o, cs⟩) ∧ K := by
  unfold hasO at h
  split at h
  · rename_i l o' cs hf
    obtain ⟨rfl, hK⟩ := h
    have := (find_mem hf).2
    simp only at this
    subst this
    exact ⟨⟨cs, hf⟩, hK⟩
  · exact h.elim
theorem putObj_grown {w : World} {l : Nat} (o : Obj) : w.grownBy (w.putObj l o) (some l) :=
  ⟨rfl, rfl, rfl, by simp, fun k hk hne => World.putObj_heap_other (fun e => hne (by rw [e]))⟩
section
variable {P : Program} {T : List (Nat × TD)} {n0 : Nat} {cx : Cx} {N na : Nat}
theorem Hp.recO {ρ : Env} {w : World} {L : List E} {nx lr : Nat} {o : Obj} {cs : List C} (hp : Hp n0 ρ w L nx) (hf : find L lr = some ⟨lr, .obj o, cs⟩) {l : Nat} (hl : (ρ lr).1 = some ⟨l, 0, none⟩) : n0 ≤ l ∧ w.heap[l]? = some o := by
  obtain ⟨b, e1, e2, e3, _⟩ := hp.ok _ (find_mem hf).1
  simp only at e1
  rw [hl] at e1
  cases e1
  exact ⟨e2, e3⟩
theorem Hp.putObj {ρ : Env} {w : World} {L : List E} {nx lr : Nat} {o : Obj} {cs : List C} (hp : Hp n0 ρ w L nx) (hf : find L lr = some ⟨lr, .obj o, cs⟩) {l : Nat} (hl : (ρ lr).1 = some ⟨l, 0, none⟩) (r : Loop) : Hp n0 ρ (w.putObj l (.loop r)) (updOL lr (.loop r) L) nx := by
  have hm := (find_mem hf).1
  obtain ⟨hn, hh⟩ := hp.recO hf hl
  have hlt := (Array.getElem?_eq_some_iff.1 hh).1
  have hb : ∀ x, blk ρ lr = some x → x = l := fun x hx => by simp only [blk, hl, Option.map_some, Option.some.injEq] at hx; exact hx.symm
  refine ⟨by simpa using hp.base, fun y hy => ?_, fun y hy => ?_, fun y hy y' hy' hyy => ?_, fun y hy y' hy' hro hne hcs b hb1 hb2 => ?_⟩
  · obtain ⟨e, he, ⟨h1, rfl⟩ | ⟨h1, rfl⟩⟩ := updOL_mem hy
    · exact ⟨l, hl, hn, World.putObj_heap_same hlt, ⟨r, rfl⟩, rfl⟩
    · refine (hp.ok y he).kept (putObj_grown _) (fun hcs b hb' heq => ?_)
      have hbl : b = l := Option.some.inj heq
      rw [hbl] at hb'
      exact hp.apart _ hm y he rfl h1 hcs l (by simp [blk, hl]) hb'
  · obtain ⟨e, he, ⟨h1, rfl⟩ | ⟨h1, rfl⟩⟩ := updOL_mem hy
    · exact ⟨(hp.wf _ hm).1, by simp⟩
    · exact hp.wf y he
  · obtain ⟨e, he, ⟨h1, rfl⟩ | ⟨h1, rfl⟩⟩ := updOL_mem hy <;> obtain ⟨e', he', ⟨h2, rfl⟩ | ⟨h2, rfl⟩⟩ := updOL_mem hy'
    · rfl
    · exact absurd hyy h2
    · exact absurd hyy.symm h1
    · exact hp.fn y he y' he' hyy
  · obtain ⟨e, he, ⟨h1, rfl⟩ | ⟨h1, rfl⟩⟩ := updOL_mem hy <;> obtain ⟨e', he', ⟨h2, rfl⟩ | ⟨h2, rfl⟩⟩ := updOL_mem hy'
    · exact hne rfl
    · exact hp.apart _ hm y' he' rfl h2 hcs b hb1 hb2
    · exact hp.apart y he _ hm hro (fun e => h1 e.symm) (fun h => by cases h) b hb1 hb2
    · exact hp.apart y he y' he' hro hne hcs b hb1 hb2
theorem Inv.putObj {ρ : Env} {w : World} {ds : List Deferred} {l : Nat} {r : Loop} (h : Inv cx na ρ w ds) (hl : w.heap[l]? = some (.loop r)) (r' : Loop) : Inv cx na ρ (w.putObj l (.loop r')) ds := by
  refine ⟨h.le, h.agr, fun d hd => ?_, h.nd, by simpa using h.lo, fun l' hl' => ?_, fun k hk => by simpa using h.lt k hk⟩
  · obtain ⟨D, h1, h2, h3⟩ := h.df d hd
    have hne : D ≠ l := fun e => by rw [e, hl] at h3; cases h3
    exact ⟨D, h1, h2, (World.putObj_heap_other hne).trans h3⟩
  · obtain ⟨⟨r2, h1⟩, h2⟩ := h.rd l' hl'
    by_cases he : l' = l
    · subst he; exact ⟨⟨r', World.putObj_heap_same (Array.getElem?_eq_some_iff.1 hl).1⟩, h2⟩
    · exact ⟨⟨r2, (World.putObj_heap_other he).trans h1⟩, h2⟩
theorem Keep.putObj {w : World} {l : Nat} {r : Loop} (hx : cx.x l) (hl : w.heap[l]? = some (.loop r)) (h0 : n0 ≤ l) (r' : Loop) : Keep n0 cx w (w.putObj l (.loop r')) :=
  ⟨⟨rfl, rfl, rfl, by simp, fun k hk => World.putObj_heap_other (by omega)⟩, fun k o h1 h2 h3 => by
    have hne : k ≠ l := fun e => by
      subst e
      rcases h3 with h3 | h3
      · exact h3 hx
      · rw [hl] at h1; cases h1; cases h3
    exact (World.putObj_heap_other hne).trans h1⟩
theorem Keep.toCx {c1 c2 : Cx} {w w' : World} (h : Keep n0 c1 w w') (hx : ∀ k, c1.x k → c2.x k) : Keep n0 c2 w w' :=
  ⟨h.bel, fun k o h1 h2 h3 => h.stay k o h1 h2 (h3.imp (fun h4 h5 => h4 (hx k h5)) id)⟩
/-- Marks more. -/
theorem Inv.marks {ρ : Env} {w0 w : World} {ds mk : List Deferred} (h : Inv cx na ρ w ds) (hlo : cx.lo ≤ w0.heap.size) (h0 : ∀ d ∈ ds, ∀ D, d = { target := .collected D, args := #[] } → D < w0.heap.size)
    (hm : ∀ d ∈ mk, ∃ D, d = { target := .collected D, args := #[] } ∧ w0.heap.size ≤ D ∧ w.heap[D]? = some (.deferred (some []))) (hn : mk.Nodup) : Inv cx na ρ w (mk ++ ds) := by
  refine ⟨h.le, h.agr, fun d hd => ?_, ?_, h.lo, h.rd, h.lt⟩
  · rcases List.mem_append.1 hd with hd | hd
    · obtain ⟨D, h1, h2, h3⟩ := hm d hd
      exact ⟨D, h1, by omega, h3⟩
    · exact h.df d hd
  · refine List.nodup_append.2 ⟨hn, h.nd, fun a ha b hb hab => ?_⟩
    obtain ⟨D, h1, h2, _⟩ := hm a ha
    have := h0 b hb D (hab ▸ h1)
    omega
theorem foldl_put {ρ : Env} {nx : Nat} : ∀ {ps : List Tmp} {vs : List V} {t : Array Value} {s : S}, (∀ p ∈ ps, p < N) → (∀ v ∈ vs, v.wf nx) → SlOK N ρ { tmps := t, defers := [] } s nx →
    SlOK N ρ { tmps := (ps.zip (vs.map (V.den ρ))).foldl (fun t p => t.setIfInBounds p.1 p.2) t, defers := [] } (putL ps vs s) nx
  | [], vs, t, s, _, _, h => by cases vs <;> exact h
  | p :: r, [], t, s, _, _, h => h
  | p :: r, v :: q, t, s, hp, hv, h => by
    simp only [List.map_cons, List.zip_cons_cons, List.foldl_cons, putL]
    refine foldl_put (fun p hp' => hp p (by simp [hp'])) (fun v hv' => hv v (by simp [hv'])) ?_
    have hd : dstB N (some p) = true := Nat.ble_eq_true_of_le (hp p (by simp))
    exact h.put (AgrLt.refl _ _) (Nat.le_refl _) hd (hv v (by simp))
/-- One round, at what the loop's function hands over: the assignments, then the body. -/
def Rnd (P : Program) (n0 : Nat) (cx : Cx) (N : Nat) (s : S) (ps : Array Tmp) (as bd : Code) (lr : Nat) (o ob : Obj) (od : Code → Obj) (vs : List V) (L : List E) (nx : Nat) (K : V → List E → Nat → Prop) : Prop :=
  ∀ cxb : Cx, cxb.x = cx.x → Tri P n0 cxb N nx as (fun e s1 L1 nx1 => match e with
    | .normal => hasO L1 lr o (updO lr ob L1 fun L1' => Tri P n0 cxb N nx bd (fun e _ L2 nx2 => match e with
      | .normal => hasO L2 lr ob (updO lr o L2 fun L3 => K (V.c .tt) L3 nx2)
      | .ret => hasO L2 lr ob (updO lr (od .ret) L2 fun L3 => K (V.c .ff) L3 nx2)
      | .exit id => hasO L2 lr ob (updO lr (od (.exit id)) L2 fun L3 => K (V.c .ff) L3 nx2)
      | _ => False) s1 L1' nx1)
    | _ => False) (putL ps.toList vs s) L nx
/-- What holds when the function that is ranged over has returned. -/
def EndK (lr : Nat) (o : Obj) (od : Code → Obj) (K : Kt) (s : S) (L : List E) (nx : Nat) : Prop :=
  hasO L lr o (rmK lr L fun L0 => K .normal s L0 nx) ∨ hasO L lr (od .ret) (rmK lr L fun L0 => K .ret s L0 nx) ∨ ∃ id, hasO L lr (od (.exit id)) (rmK lr L fun L0 => K (.exit id) s L0 nx)
theorem Tri.rangeFunc (hT : TOK P T) {g : Operand} {ps : Array Tmp} {as bd : Code} {K : Kt} {s : S} {L : List E} {nx : Nat} {f : FuncId} {caps : List (Nat × Nat)} {fn : Func} {code : Code} {Ni : Nat}
    (hg : ev s g = some (V.c (.fn f caps))) (hcb : callB P f = true) (hf : P.funcs[f]? = some fn) (hb : fn.body = some code) (hN : fn.ntmps = Ni) (hres : fn.results.toList = []) (hlen : Nat.ble (caps.length + 1) Ni = true) (hps : (ps.toList.all fun p => Nat.blt p N) = true)
    (h : ∀ (y : Value) (cxi : Cx) (o ob : Obj) (od : Code → Obj), y.oneCell' = true →
      (∀ vs Lc nxc Kc, nx + 1 ≤ nxc → vs.length = ps.toList.length → hasO Lc nx o True → Rnd P n0 cx N s ps as bd nx o ob od vs Lc nxc Kc → YldM P n0 cxi y vs Lc nxc Kc) →
      Tri P n0 cxi Ni (nx + 1) code (fun e s' L' nx' => match e with
        | .normal => EndK nx o od K s L' nx'
        | .ret => EndK nx o od K s L' nx'
        | _ => False) (enterS (V.c (.v y) :: caps.map ptrV) 0) (⟨nx, .obj o, []⟩ :: L) (nx + 1)) : Tri P n0 cx N na (.rangeFunc g ps as bd) K s L nx := by
  refine ⟨fun ρ a w hna hs hp hi => wpIn_rangeFunc ?_⟩
  intro fn' hfn'
  have hgv := hs.ev g _ hg
  have hcaps : ∀ p ∈ caps, p.1 < nx := hgv.2
  have hge : a.eval g = .func (.func f) #[] (caps.map (ptrD ρ)).toArray := hgv.1
  have hps' : ∀ p ∈ ps.toList, p < N := fun p hp' => Nat.le_of_ble_eq_true (List.all_eq_true.1 hps p hp')
  -- what is laid
  have core : ∀ (l : Nat) (mk : List Deferred) (dd : Nat) (W1 : World), (Instr.enterLoop fn' a.tmps ps as bd cx.rd).run P w = .ok (l, mk) W1 → w.heap.size ≤ l → Below w.heap.size w W1 →
      W1.heap[l]? = some (.loop { state := .ready, pending := none, fn := fn', tmps := a.tmps, params := ps, assign := as, body := bd, defers := dd }) →
      (∀ d ∈ mk, ∃ D, d = { target := .collected D, args := #[] } ∧ w.heap.size ≤ D ∧ W1.heap[D]? = some (.deferred (some []))) → mk.Nodup →
      ∃ (l : Nat) (mark : List Deferred) (w₁ : World) (d : Deferred) (w₁' : World) (f : FuncId) (args : Array Value) (w₂ : World),
      (Instr.enterLoop fn' a.tmps ps as bd (FR cx.rd).round).run P w = .ok (l, mark) w₁ ∧
      (resolve a.eval (rangeCall g l) 0).run P w₁ = .ok d w₁' ∧
      (∀ f', Target.leads P w₁' d.target d.args = some f' → (FR cx.rd).fn f') ∧
      (invoke d.target d.args).run P w₁' = .ok (.enter f args) w₂ ∧
      ((FR cx.rd).depth.isSome = true → 1 ≤ 0) ∧
      CallsIn (FR cx.rd) (0 - 1) P f args w₂ (rangePost (FR cx.rd) 0 P l (fun e a' w' => Fin n0 cx N na ρ w a' w' (K e)) { a with defers := mark ++ a.defers }) := by
    intro l mk dd W1 hent hll hbel hl hmk hmn
    obtain ⟨rec, hrec⟩ : ∃ rec : LoopState → Option Code → Loop, rec = fun st pe => { state := st, pending := pe, fn := fn', tmps := a.tmps, params := ps, assign := as, body := bd, defers := dd } := ⟨_, rfl⟩
    have hl : W1.heap[l]? = some (.loop (rec .ready none)) := by rw [hrec]; exact hl
    have hlt : l < W1.heap.size := (Array.getElem?_eq_some_iff.1 hl).1
    let ρ1 := ρ.put nx (some ⟨l, 0, none⟩) 0
    have hag1 : Agr nx (nx + 1) ρ ρ1 := Env.put_agr _ _ _ _
    have hρl : (ρ1 nx).1 = some ⟨l, 0, none⟩ := by simp only [ρ1, Env.put_same]
    have h0 : n0 ≤ l := Nat.le_trans hp.base hll
    have hp1 : Hp n0 ρ1 W1 (⟨nx, .obj (.loop (rec .ready none)), []⟩ :: L) (nx + 1) := by
      refine hp.news' (new := [⟨nx, .obj (.loop (rec .ready none)), []⟩]) ⟨?_, ?_, ?_, ?_, ?_⟩ hbel hag1 (Nat.le_succ _)
      · intro e he; rw [List.mem_singleton.1 he]; exact ⟨l, hρl, h0, hl, ⟨_, rfl⟩, rfl⟩
      · intro e he; rw [List.mem_singleton.1 he]; exact ⟨⟨Nat.le_refl _, Nat.lt_succ_self _⟩, by simp⟩
      · intro e he e' he' _; rw [List.mem_singleton.1 he, List.mem_singleton.1 he']
      · intro e he e' he' _ hne; rw [List.mem_singleton.1 he, List.mem_singleton.1 he'] at hne; exact absurd rfl hne
      · intro e he; rw [List.mem_singleton.1 he]
        refine .inl fun b hb => ?_
        simp only [blk, hρl, Option.map_some, Option.some.injEq] at hb
        omega
    let cxi : Cx := { x := fun k => cx.x k ∨ k = l, rd := none, nb := nx + 1, ρ0 := ρ1, lo := W1.heap.size }
    have hinv : Inv cxi (nx + 1) ρ1 W1 [] := ⟨Nat.le_refl _, AgrLt.refl _ _, fun d hd => (by cases hd), List.nodup_nil, Nat.le_refl _, fun l hl => (by cases hl), fun k hk => by
      rcases hk with hk | hk
      · exact Nat.lt_of_lt_of_le (hi.lt k hk) hbel.size
      · rw [hk]; exact hlt⟩
    have hxl : cxi.x l := Or.inr rfl
    have hxs : ∀ k, cx.x k → cxi.x k := fun k hk => Or.inl hk
    let y : Value := .func (.yield l) #[] #[]
    -- a round
    have hY : ∀ vs Lc nxc Kc, nx + 1 ≤ nxc → vs.length = ps.toList.length → hasO Lc nx (.loop (rec .ready none)) True → Rnd P n0 cx N s ps as bd nx (.loop (rec .ready none)) (.loop (rec .busy none)) (fun c => .loop (rec .done (some c))) vs Lc nxc Kc → YldM P n0 cxi y vs Lc nxc Kc := by
      intro vs Lc nxc Kc hnx hvl hho hR
      refine ⟨l, rfl, fun ρc wc hpc hvw hag hltc => ?_⟩
      have hag : AgrLt (nx + 1) ρ1 ρc := hag
      obtain ⟨⟨cs, hfo⟩, _⟩ := hasO_find hho
      have hcl : (ρc nx).1 = some ⟨l, 0, none⟩ := by rw [hag nx (Nat.lt_succ_self _)]; exact hρl
      have hwl := (hpc.recO hfo hcl).2
      have hy := run_yield (P := P) (args := (vs.map (V.den ρc)).toArray) hwl (by rw [hrec]; simpa using hvl)
      refine ⟨fn', _, as, bd, by rw [hy, hrec], roundIn_of_wpIn (F := Fence.wide) (n := 0) trivial ?_⟩
      let cxb : Cx := { x := cx.x, rd := some l, nb := nx + 1, ρ0 := ρ1, lo := 0 }
      have hnx' : ¬ cx.x l := fun hx => by have := hi.lt l hx; omega
      have hib : Inv cxb nxc ρc wc [] := ⟨hnx, hag, fun d hd => (by cases hd), List.nodup_nil, Nat.zero_le _, fun l' hl' => (by cases hl'; exact ⟨⟨_, hwl⟩, hnx'⟩), fun k hk => hltc k (.inl hk)⟩
      have hs1 : SlOK N ρc { tmps := (ps.zip (vs.map (V.den ρc)).toArray).foldl (fun t (p, v) => t.setIfInBounds p v) a.tmps, defers := [] } (putL ps.toList vs s) nxc := by
        have hs0 : SlOK N ρc { tmps := a.tmps, defers := [] } s nxc := ⟨hs.size, fun t v hv => by
          obtain ⟨h1, h2⟩ := hs.ok t v hv
          have h3 : AgrLt nx ρ ρc := fun k hk => (hag k (by omega)).trans (hag1 k (by omega))
          exact ⟨by rw [h1, V.den_agr h3 h2], V.wf_mono (by omega) h2⟩⟩
        have := foldl_put (ρ := ρc) (ps := ps.toList) (vs := vs) hps' hvw hs0
        rw [← Array.foldl_toList]
        simpa using this
      have h1 := (hR cxb rfl).run ρc _ wc (Nat.le_refl _) hs1 hpc hib
      refine wpIn_mono h1 ?_
      rintro e a1 w1 ⟨ρ2, s1, L1, nx1, q1, q2, q3, q4, q5, q6⟩
      cases e with
      | normal =>
        obtain ⟨⟨cs1, hf1⟩, q7⟩ := hasO_find q6
        rw [updO_eq] at q7
        have hl2 : (ρ2 nx).1 = some ⟨l, 0, none⟩ := by rw [q2 nx (by omega)]; exact hcl
        have hw1 := (q4.recO hf1 hl2).2
        have hp2 := q4.putObj hf1 hl2 (rec .busy none)
        have hb1 := run_beginRound (P := P) hw1 (by rw [hrec])
        refine ⟨w1.putObj l (.loop (rec .busy none)), by rw [hb1, hrec], ?_⟩
        have hk1 : Keep n0 cxi wc (w1.putObj l (.loop (rec .busy none))) := (q5.1.toCx (c2 := cxi) hxs).trans (Keep.putObj (cx := cxi) hxl hw1 h0 _)
        refine wpIn_mono (q7.run ρ2 a1 _ q1 q3 hp2 (q5.2.putObj hw1 _)) ?_
        rintro e a3 w3 ⟨ρ3, s2, L2, nx2, r1, r2, r3, r4, r5, r6⟩
        have hl3 : (ρ3 nx).1 = some ⟨l, 0, none⟩ := by rw [r2 nx (by omega)]; exact hl2
        have fin : ∀ (jump : Option Code) (u : C), u.den ρ3 = .bool jump.isNone → u.wf nx2 → hasO L2 nx (.loop (rec .busy none)) (updO nx (.loop (rec (if jump.isNone then .ready else .done) jump)) L2 fun L3 => Kc (V.c u) L3 nx2) →
            ∃ v w', (Instr.endRound l jump).run P w3 = .ok v w' ∧ ∃ v' L' nx' ρ', Ending.returned v = .returned (v'.den ρ') ∧ nxc ≤ nx' ∧ v'.wf nx' ∧ AgrLt nxc ρc ρ' ∧ Keep n0 cxi wc w' ∧ Hp n0 ρ' w' L' nx' ∧ Kc v' L' nx' := by
          intro jump u hu huw ho
          obtain ⟨⟨cs2, hf2⟩, ho2⟩ := hasO_find ho
          rw [updO_eq] at ho2
          have hw3 := (r4.recO hf2 hl3).2
          have he := run_endRound (P := P) jump hw3
          refine ⟨_, _, he, V.c u, _, nx2, ρ3, by simp only [V.den, A.den, hu], r1, huw, q2.trans r2 (Nat.le_refl _), ?_, ?_, ho2⟩
          · exact (hk1.trans (r5.1.toCx (c2 := cxi) hxs)).trans (Keep.putObj (cx := cxi) hxl hw3 h0 _)
          · have := r4.putObj hf2 hl3 (rec (if jump.isNone then .ready else .done) jump)
            rw [hrec] at this ⊢
            exact this
        cases e with
        | normal => exact fin none .tt rfl trivial r6
        | ret => exact fin (some .ret) .ff rfl trivial r6
        | exit id => exact fin (some (.exit id)) .ff rfl trivial r6
        | goto t => exact r6.elim
        | panic c => exact r6.elim
        | outgrown => exact r6.elim
      | _ => exact q6.elim
    have hvs : ∀ v ∈ (V.c (.v y) :: caps.map ptrV), v.wf (nx + 1) := by
      intro v hv
      rcases List.mem_cons.1 hv with rfl | hv
      · show y.oneCell' = true; rfl
      · obtain ⟨p, hp', rfl⟩ := List.mem_map.1 hv
        exact Nat.lt_succ_of_lt (hcaps p hp')
    have hcall := calls_vc (cx := cxi) (Q := fun v L' nx' => EndK nx (.loop (rec .ready none)) (fun c => .loop (rec .done (some c))) K s L' nx') hT hf hb hN (by have := Nat.le_of_ble_eq_true hlen; simpa using this) hp1 hvs rfl rfl hinv
      ((h y cxi _ _ _ rfl hY).mono fun e s' L' nx' hh => by
        cases e with
        | normal => rw [hres]; exact hh
        | ret => rw [hres]; exact hh
        | _ => exact hh)
    refine ⟨l, mk, W1, { target := .fn (.func f) (caps.map (ptrD ρ)).toArray, args := #[y] }, W1, f, #[y] ++ (caps.map (ptrD ρ)).toArray, W1, hent, ?_, fun _ _ => trivial, ?_, fun hh => (by simp [FR, Fence.wide] at hh), ?_⟩
    · simp only [resolve, hge]
      simp [go_sem, y]
    · simp [invoke, go_sem, callB_run hcb]
    have hargs : ((V.c (.v y) :: caps.map ptrV).map (V.den ρ1)).toArray = #[y] ++ (caps.map (ptrD ρ)).toArray := by
      apply Array.ext'
      simp only [List.map_cons, List.map_map, Array.toList_append]
      simp only [V.den, A.den, C.den, List.singleton_append, List.cons.injEq, true_and]
      refine List.map_congr_left fun p hp' => ?_
      simp only [Function.comp, ptrV, V.den, A.den, C.den, ptrD, hag1.lt p.1 (hcaps p hp')]
    rw [← hargs]
    refine (callsIn_wide (n := 0)).2 (hcall.mono ?_)
    rintro e w3 ⟨v, ρ', L', nx', rfl, h1, hwf, hagr, hkeep, hp3, hEnd⟩
    have hl3 : (ρ' nx).1 = some ⟨l, 0, none⟩ := by rw [hagr nx (Nat.lt_succ_self _)]; exact hρl
    have hagn : AgrLt nx ρ ρ' := fun k hk => (hagr k (by omega)).trans (hag1 k (by omega))
    -- behind it
    have fin : ∀ (jump : Option Code) (st : LoopState) (e : Exit), st ≠ .busy → hasO L' nx (.loop (rec st jump)) (rmK nx L' fun L0 => K e s L0 nx') →
        ∃ w4, (Instr.endLoop l).run P w3 = .ok jump w4 ∧ Fin n0 cx N na ρ w { a with defers := mk ++ a.defers } w4 (K e) := by
      intro jump st e hst ho
      obtain ⟨⟨cs, hfo⟩, ho2⟩ := hasO_find ho
      rw [rmK_eq] at ho2
      have hw3 := (hp3.recO hfo hl3).2
      have he := run_endLoop (P := P) hw3 (by rw [hrec]; exact hst)
      have hp4 := hp3.putObj hfo hl3 (rec .exhausted jump)
      refine ⟨w3.putObj l (.loop (rec .exhausted jump)), by rw [he, hrec], ?_⟩
      have hk4 : Keep n0 cx w (w3.putObj l (.loop (rec .exhausted jump))) := by
        refine ⟨((hbel.mono hp.base).trans hkeep.bel).trans (Keep.putObj (cx := cxi) hxl hw3 h0 _).bel, fun k o g1 g2 g3 => ?_⟩
        have hk := (Array.getElem?_eq_some_iff.1 g1).1
        have hne : k ≠ l := by omega
        refine (World.putObj_heap_other hne).trans (hkeep.stay k o ((hbel.block k hk).trans g1) g2 (g3.imp (fun g4 g5 => ?_) id))
        rcases g5 with g5 | g5
        · exact g4 g5
        · exact hne g5
      have hi4 := hi.keep (hagn.mono hna) hk4
      refine ⟨ρ', s, _, nx', by omega, hagn.mono hna, ⟨hs.size, (hs.agr hagn (by omega)).ok⟩, hp4.mono (fun e he => ?_) (Nat.le_refl _), ⟨hk4, ?_⟩, ho2⟩
      · obtain ⟨h5, h6⟩ := rmL_mem he
        exact mem_updOL h5 h6
      · refine hi4.marks (w0 := w) hi.lo (fun d hd D hD => ?_) (fun d hd => ?_) hmn
        · obtain ⟨D', h5, _, h6⟩ := hi.df d hd
          rw [hD] at h5
          cases h5
          exact (Array.getElem?_eq_some_iff.1 h6).1
        · obtain ⟨D, h5, h6, h7⟩ := hmk d hd
          have h8 := hkeep.stay D _ h7 rfl (.inr rfl)
          have hne : D ≠ l := fun e => by rw [e, hw3] at h8; cases h8
          exact ⟨D, h5, h6, (World.putObj_heap_other hne).trans h8⟩
    rcases hEnd with hE | hE | ⟨id, hE⟩
    · obtain ⟨w4, h5, h6⟩ := fin none .ready .normal (by simp) hE
      exact ⟨none, w4, h5, h6⟩
    · obtain ⟨w4, h5, h6⟩ := fin (some .ret) .done .ret (by simp) hE
      exact ⟨some .ret, w4, h5, wpIn_ret h6⟩
    · obtain ⟨w4, h5, h6⟩ := fin (some (.exit id)) .done (.exit id) (by simp) hE
      exact ⟨some (.exit id), w4, h5, wpIn_exit h6⟩
  cases hrd : cx.rd with
  | none =>
    have := core (w.heap.size + 1) [{ target := .collected w.heap.size, args := #[] }] w.heap.size _ (by rw [hrd]; exact run_enterLoop_outer _ _ _ _ _) (by omega) (((Below.refl _ w).alloc (Nat.le_refl _) _).alloc (by simp) _)
      (by have := World.alloc_heap_new (w.alloc (.deferred (some []))) (.loop { state := .ready, pending := none, fn := fn', tmps := a.tmps, params := ps, assign := as, body := bd, defers := w.heap.size }); rwa [World.size_alloc] at this)
      (fun d hd => by
        rw [List.mem_singleton.1 hd]
        exact ⟨_, rfl, Nat.le_refl _, (Below.heap_alloc _ _ _ (by simp)).trans (World.alloc_heap_new w _)⟩) (by simp)
    rw [hrd] at this
    exact this
  | some l0 =>
    obtain ⟨⟨r0, hr0⟩, _⟩ := hi.rd l0 hrd
    have := core w.heap.size [] r0.defers _ (by rw [hrd]; exact run_enterLoop_inner hr0 _ _ _ _ _) (Nat.le_refl _) ((Below.refl _ w).alloc (Nat.le_refl _) _) (World.alloc_heap_new w _) (fun d hd => by cases hd) List.nodup_nil
    rw [hrd] at this
    exact this
end

end Go.Proofs.Ytjijjncddjkdlaa

