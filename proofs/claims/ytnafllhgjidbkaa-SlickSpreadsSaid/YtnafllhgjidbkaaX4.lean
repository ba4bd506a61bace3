/- Texts of the proof, part 4: A1, A2, T25, AD, M1, M2, L6, T28, T49, T30, T45, T46, T50, T33, LK, T48, T34. -/
import Derived.Test.YtnafllhgjidbkaaX3
import Derived.WalkKit
import Derived.Below
import Derived.Laws.OwnMore
import Derived.Maps.AppendAt
import Derived.Laws.IdiomCopy
import Derived.Laws.CopyRow
import Derived.IntWalk
import Derived.StillTail
import Derived.Scope
import Derived.Test.YtnafllhgjidbkaaRows
import Derived.KernelRfl
import Derived.WalkSpells
import Derived.WalkLawsBesides
import Derived.Deep.QuietTactic
import Derived.BigQuiet
import Derived.Lib.Hide
import Derived.OwnWalk
import Derived.RangeFuncNested
import Derived.RangeFuncBound
import Derived.RangeFuncCalls
import Derived.RangeFuncLeaves
import Derived.RangeFuncBox
import Derived.Shelf.Abstract
import Derived.Shelf.RegionOpen
import Derived.OwnWalkIn
import Derived.TacticsInMore
import Derived.LoopNIn
import Derived.LoopIn
import Derived.Sort.QuietIn
import Derived.StillTailTactics
import Derived.OrdersIn
import Derived.Deep.RegionHeld3
import Derived.Deep.Cut
/- Blocks that a call begins with, and worlds that come behind them. -/
namespace Go.Proofs.Ytnafllhgjidbkaa
open Go.RowKit Go.Shelf
set_option linter.unusedVariables false
set_option linter.unusedSimpArgs false
theorem Below.link {a b c : World} (h1 : Below a.heap.size a b) (h2 : Below b.heap.size b c) : Below a.heap.size a c := h1.trans (h2.mono h1.size)
theorem Aft.step {W w1 : World} (x : Aft W) (hb : Below x.val.heap.size x.val w1) : ∃ y : Aft W, y.val = w1 ∧ Below x.val.heap.size x.val y.val :=
  ⟨⟨w1, x.bel.trans (hb.mono x.bel.size)⟩, rfl, hb⟩
theorem Aft.heapH {W : World} (x : Aft W) {b : Nat} {o : Obj} (h : W.heap[b]? = some o) : x.val.heap[b]? = some o := (x.bel.block _ (heap_lt h)).trans h
theorem Aft.off {w W : World} (f : Below w.heap.size w W) (x : Aft W) : Below w.heap.size w x.val := f.trans (x.bel.mono f.size)
theorem Aft.size_le {W : World} (x : Aft W) : W.heap.size ≤ x.val.heap.size := x.bel.size
theorem one_new {w : World} (c0 : Array Value) (t0 : TypeId) :
    Below w.heap.size w (w.alloc (.cells c0 t0)) ∧ (w.alloc (.cells c0 t0)).heap.size = w.heap.size + 1 ∧ (w.alloc (.cells c0 t0)).heap[w.heap.size]? = some (.cells c0 t0 (0, 0)) :=
  ⟨(Below.refl _ _).alloc (Nat.le_refl _) _, by simp, World.alloc_heap_new _ _⟩
theorem two_new {w : World} (c0 c1 : Array Value) (t0 t1 : TypeId) :
    Below w.heap.size w ((w.alloc (.cells c0 t0)).alloc (.cells c1 t1)) ∧ ((w.alloc (.cells c0 t0)).alloc (.cells c1 t1)).heap.size = w.heap.size + 2 ∧
    ((w.alloc (.cells c0 t0)).alloc (.cells c1 t1)).heap[w.heap.size]? = some (.cells c0 t0 (0, 0)) ∧ ((w.alloc (.cells c0 t0)).alloc (.cells c1 t1)).heap[w.heap.size + 1]? = some (.cells c1 t1 (0, 0)) := by
  refine ⟨((Below.refl _ _).alloc (Nat.le_refl _) _).alloc (by simp) _, by simp, heap_alloc_old (World.alloc_heap_new _ _) _, ?_⟩
  have := World.alloc_heap_new (w.alloc (.cells c0 t0)) (.cells c1 t1); rwa [World.size_alloc] at this
theorem five_new {w : World} (c0 c1 c2 c3 c4 : Array Value) (t0 t1 t2 t3 t4 : TypeId) :
    Below w.heap.size w (((((w.alloc (.cells c0 t0)).alloc (.cells c1 t1)).alloc (.cells c2 t2)).alloc (.cells c3 t3)).alloc (.cells c4 t4)) ∧ (((((w.alloc (.cells c0 t0)).alloc (.cells c1 t1)).alloc (.cells c2 t2)).alloc (.cells c3 t3)).alloc (.cells c4 t4)).heap.size = w.heap.size + 5 ∧
    (((((w.alloc (.cells c0 t0)).alloc (.cells c1 t1)).alloc (.cells c2 t2)).alloc (.cells c3 t3)).alloc (.cells c4 t4)).heap[w.heap.size]? = some (.cells c0 t0 (0, 0)) ∧
    (((((w.alloc (.cells c0 t0)).alloc (.cells c1 t1)).alloc (.cells c2 t2)).alloc (.cells c3 t3)).alloc (.cells c4 t4)).heap[w.heap.size + 1]? = some (.cells c1 t1 (0, 0)) ∧
    (((((w.alloc (.cells c0 t0)).alloc (.cells c1 t1)).alloc (.cells c2 t2)).alloc (.cells c3 t3)).alloc (.cells c4 t4)).heap[w.heap.size + 1 + 1]? = some (.cells c2 t2 (0, 0)) ∧
    (((((w.alloc (.cells c0 t0)).alloc (.cells c1 t1)).alloc (.cells c2 t2)).alloc (.cells c3 t3)).alloc (.cells c4 t4)).heap[w.heap.size + 1 + 1 + 1]? = some (.cells c3 t3 (0, 0)) ∧
    (((((w.alloc (.cells c0 t0)).alloc (.cells c1 t1)).alloc (.cells c2 t2)).alloc (.cells c3 t3)).alloc (.cells c4 t4)).heap[w.heap.size + 1 + 1 + 1 + 1]? = some (.cells c4 t4 (0, 0)) := by
  obtain ⟨f0, f1, f2, f3, f4, f5⟩ := four_new (w := w) c0 c1 c2 c3 t0 t1 t2 t3
  refine ⟨f0.alloc (by omega) _, by rw [World.size_alloc, f1], heap_alloc_old f2 _, heap_alloc_old f3 _, heap_alloc_old f4 _, heap_alloc_old f5 _, ?_⟩
  have := World.alloc_heap_new ((((w.alloc (.cells c0 t0)).alloc (.cells c1 t1)).alloc (.cells c2 t2)).alloc (.cells c3 t3)) (.cells c4 t4)
  rwa [f1] at this
/-- A place for a struct of three, written. -/
theorem res3 {W : World} {b : Nat} {v0 v1 v2 : Value} {t : TypeId} (h : W.heap[b]? = some (.cells #[v0, v1, v2] t (0, 0))) (a0 a1 a2 : Value) :
    (((W.setCell ⟨b, 0, none⟩ a0).setCell ⟨b, 1, none⟩ a1).setCell ⟨b, 2, none⟩ a2).heap[b]? = some (.cells #[a0, a1, a2] t (0, 0)) := by
  have e3 := heap_setCell_same (heap_setCell_same (heap_setCell_same h (i := 0) a0) (i := 1) a1) (i := 2) a2
  rwa [set3] at e3
/-- A region that draws its order, met in a world behind W. -/
theorem wp_region_aftW {P : Program} {id : Nat} {Q : Exit → Act → World → Prop} {a : Act} {W : World} (x0 : Aft W) {l : List Oper} (hm : P.follows .mixedOrders = true) (hB : Region.lexB .any l.toArray = true)
    (h : wpQuiet P l.toArray (fun w' => ∃ x : Aft W, w' = x.val) (fun a' => ∀ w', (∃ x : Aft W, w' = x.val) → Q .normal a' w') l a) : (Code.region id l.toArray true).wp P Q a x0.val :=
  wp_region_quiet (C := fun w' => ∃ x : Aft W, w' = x.val) hm hB ⟨⟨_, x0.bel.drew⟩, rfl⟩ (by simpa using h)
theorem wp_region_stillD {P : Program} {id : Nat} {Q : Exit → Act → World → Prop} {a : Act} {w : World} {l : List Oper} (n : Nat) (hm : P.follows .mixedOrders = true) (hB : Region.lexTailB .any l.toArray n = true)
    (h : wpStill P l.toArray w.drew (fun a' => wpList P l.toArray Q (l.drop n) a' w.drew) (l.take n) a) : (Code.region id l.toArray true).wp P Q a w := wp_region_still_tail n hm hB h
end Go.Proofs.Ytnafllhgjidbkaa

/- Results in memory, and appending to a slice of the call's own. -/
namespace Go.Proofs.Ytnafllhgjidbkaa
open Go.RowKit Go.Shelf
set_option linter.unusedVariables false
set_option linter.unusedSimpArgs false
/-- A struct of three in a place for results. -/
theorem res3c {W : World} {b : Nat} {v0 v1 v2 : Value} {t : TypeId} (h : W.heap[b]? = some (.cells #[v0, v1, v2] t (0, 0))) : W.cell? ⟨b, 0, none⟩ = some v0 ∧ W.cell? ⟨b, 1, none⟩ = some v1 ∧ W.cell? ⟨b, 2, none⟩ = some v2 :=
  ⟨cell_of_heap h 0, cell_of_heap h 1, cell_of_heap h 2⟩
theorem own_empty (w : World) (base p : Nat) (hp : w.heap.size = p) (hb : base ≤ p) : (w.alloc (.cells #[] 3)).ownsRow base 3 1 (.slice (some ⟨p, 0, none⟩) 0 0) 0 [] := by
  subst hp
  exact ⟨rfl, .inr ⟨w.heap.size, 0, #[], rfl, hb, World.alloc_heap_new _ _, Nat.le_refl _, by simp [maxLen], rfl, rfl⟩⟩
theorem news_of {w : World} {a : Addr} {l : List Int} (h : IntsAt w (some a) l) : ∀ j u, (l.map (Value.int .i64))[j]? = some u → w.cell? (a.add j) = some u := by
  intro j u hj
  obtain ⟨hj1, hj2⟩ := List.getElem?_eq_some_iff.1 hj
  have hj' : j < l.length := by simpa using hj1
  obtain ⟨b, off, ha, hb, hc⟩ := h.get hj'
  obtain rfl : a = ⟨b, off, none⟩ := by simpa using ha
  have : (⟨b, off, none⟩ : Addr).add j = ⟨b, off + j, none⟩ := by
    unfold Addr.add; split
    · rename_i h; subst h; rfl
    · rfl
  rw [this, hc, ← hj2]
  simp [List.getD_eq_getElem?_getD, List.getElem?_eq_getElem hj']
theorem ints_one {l : List Int} : ∀ u ∈ l.map (Value.int .i64), u.oneCell' = true := by
  intro u hu; obtain ⟨x, _, rfl⟩ := List.mem_map.1 hu; rfl

theorem own_ints {w : World} {base : Nat} {v : Value} {l : List Int} (h : w.ownsRow base 3 1 v l.length (l.map (Value.int .i64))) : ∃ ao c, v = .slice ao l.length c ∧ IntsAt w ao l ∧ ∀ a, ao = some a → base ≤ a.block := by
  obtain ⟨ao, c, hv, hi⟩ := ints_of_own h
  refine ⟨ao, c, hv, hi, ?_⟩
  obtain ⟨h1, ⟨rfl, h2⟩ | ⟨g, cap, cur, rfl, hb, hh, hn, hm, hs, ht⟩⟩ := h
  · intro a ha; injection hv with e1 e2 e3; rw [← e1] at ha; cases ha
  · cases hv; intro a ha; cases ha; exact hb

end Go.Proofs.Ytnafllhgjidbkaa

namespace Go.Proofs.Ytnafllhgjidbkaa
open Go.RowKit Go.Shelf
set_option linter.unusedVariables false
set_option linter.unusedSimpArgs false

def eqSlk (s t : Slk) : Bool := decide (s.K = t.K ∧ s.Away = t.Away ∧ s.Oil = t.Oil)
theorem eqSlk_refl (s : Slk) : eqSlk s s = true := by simp [eqSlk]

set_option maxHeartbeats 1000000 in
theorem equal_any (ao bo : Option Addr) (ca cb : Nat) (s t : Slk) (w : World) (ha : IntsAt w ao s.Oil) (hb : IntsAt w bo t.Oil) (hla : s.Oil.length ≤ 1000000) (hlb : t.Oil.length ≤ 1000000) :
    Calls Try.prog 22 #[.agg #[.int .i64 s.K, .slice ao s.Oil.length ca, .int .i64 s.Away], .agg #[.int .i64 t.K, .slice bo t.Oil.length cb, .int .i64 t.Away]] w fun e w' => e = .returned (.bool (eqSlk s t)) ∧ Below w.heap.size w w' := by
  have hbx : ∀ o1 o2, Below w.heap.size w ((w.alloc o1).alloc o2) := fun o1 o2 => ((Below.refl _ _).alloc (Nat.le_refl _) _).alloc (by simp) _
  by_cases h1 : s.K = t.K
  · have q1 : (s.K == t.K) = true := by simp [h1]
    by_cases h2 : s.Away = t.Away
    · have q2 : (s.Away == t.Away) = true := by simp [h2]
      have HR := Lib.hid (show eqSlk s t = sameB s.Oil t.Oil by unfold eqSlk sameB; simp [h1, h2])
      have HC := Lib.hid (fun W (hW : Below w.heap.size w W) => sameInts_any ao bo ca cb s.Oil t.Oil W (ha.below (Nat.le_refl _) hW) (hb.below (Nat.le_refl _) hW) hla hlb)
      clear h1 h2 ha hb
      generalize sameB s.Oil t.Oil = r at *
      generalize eqSlk s t = rr at *
      go_enter Try.func22, Try.ntmps22
      go_wp2_with fail
      refine (HC.out _ (hbx _ _)).mono ?_
      rintro e w1 ⟨rfl, hb1⟩
      have HB : Hid (Below w.heap.size w w1) := (hbx _ _).trans (hb1.mono (by simp <;> omega))
      clear hb1
      cases r
      · go_wp2
        go_ret
        exact ⟨by rw [HR.out]; rfl, HB.out⟩
      · go_wp2
        go_ret
        exact ⟨by rw [HR.out]; rfl, HB.out⟩
    · have q2 : (s.Away == t.Away) = false := by simp [h2]
      have HR := Lib.hid (show eqSlk s t = false by unfold eqSlk; simp [h2])
      generalize eqSlk s t = rr at *
      clear h1 h2 ha hb
      go_enter Try.func22, Try.ntmps22
      go_wp2
      go_ret
      exact ⟨by rw [HR.out]; rfl, hbx _ _⟩
  · have q1 : (s.K == t.K) = false := by simp [h1]
    have HR := Lib.hid (show eqSlk s t = false by unfold eqSlk; simp [h1])
    generalize eqSlk s t = rr at *
    clear h1 ha hb
    go_enter Try.func22, Try.ntmps22
    go_wp2
    go_ret
    exact ⟨by rw [HR.out]; rfl, hbx _ _⟩
end Go.Proofs.Ytnafllhgjidbkaa

/- Contracts of the old kind, as the calculus takes them. -/
namespace Go.Proofs.Ytnafllhgjidbkaa
open Go.RowKit
set_option linter.unusedVariables false
set_option linter.unusedSimpArgs false
theorem own_base {w : World} {b b' e sz n : Nat} {v : Value} {xs : List Value} (h : w.ownsRow b e sz v n xs) (hb : b' ≤ b) : w.ownsRow b' e sz v n xs := by
  obtain ⟨h1, h2 | ⟨g, cap, cur, hv, hg, hh, hn, hm, hs, ht⟩⟩ := h
  · exact ⟨h1, .inl h2⟩
  · exact ⟨h1, .inr ⟨g, cap, cur, hv, by omega, hh, hn, hm, hs, ht⟩⟩
theorem CallK.old {n0 nx : Nat} {f : FuncId} {vs : List V} {L : List E} {K : V → List E → Nat → Prop} {u : V} (hok : callB Try.prog f = true) (hu : u.wf nx)
    (h : ∀ ρ w, Hp n0 ρ w L nx → Calls Try.prog f (vs.map (V.den ρ)).toArray w fun e w' => e = .returned (u.den ρ) ∧ Below w.heap.size w w') (hK : K u [] nx) : CallK Try.prog n0 f vs L nx K := by
  refine ⟨hok, fun ρ w hp _ => (h ρ w hp).mono ?_⟩
  rintro e w' ⟨rfl, hbw⟩
  exact ⟨_, [], nx, ρ, rfl, Nat.le_refl _, hu, Agr.refl _ _, hbw, News.nil, hK⟩
theorem CallK.oldS {n0 nx : Nat} {f : FuncId} {vs : List V} {L : List E} {K : V → List E → Nat → Prop} {u : V} (hok : callB Try.prog f = true) (hu : u.wf nx)
    (h : ∀ ρ w, Hp n0 ρ w L nx → Calls Try.prog f (vs.map (V.den ρ)).toArray w fun e w' => e = .returned (u.den ρ) ∧ w = w') (hK : K u [] nx) : CallK Try.prog n0 f vs L nx K :=
  CallK.old hok hu (fun ρ w hp => (h ρ w hp).mono (by rintro e w' ⟨rfl, rfl⟩; exact ⟨rfl, Below.refl _ _⟩)) hK
theorem CallK.oldVec {n0 nx : Nat} {f : FuncId} {vs : List V} {L : List E} {K : V → List E → Nat → Prop} {l : List Int} (hok : callB Try.prog f = true)
    (h : ∀ ρ w, Hp n0 ρ w L nx → Calls Try.prog f (vs.map (V.den ρ)).toArray w fun e w' => ∃ rv, e = .returned rv ∧ w'.ownsRow w.heap.size 3 1 rv l.length (l.map (Value.int .i64)) ∧ Below w.heap.size w w')
    (hK : K (V.c (.sl nx l.length)) [⟨nx, .vec 3 1, l.map C.i⟩] (nx + 1)) : CallK Try.prog n0 f vs L nx K := by
  refine ⟨hok, fun ρ w hp _ => (h ρ w hp).mono ?_⟩
  rintro e w' ⟨rv, rfl, hown, hbw⟩
  obtain ⟨ao, c, rfl, hi, hblk⟩ := own_ints hown
  refine ⟨V.c (.sl nx l.length), [⟨nx, .vec 3 1, l.map C.i⟩], nx + 1, ρ.put nx ao c, ?_, Nat.le_succ _, Nat.lt_succ_self nx, Env.put_agr _ _ _ _, hbw, News.one ?_ rfl (wf_ints _ _) ?_, hK⟩
  · simp [V.den, A.den, C.den, Env.put_same]
  · refine ⟨l.length, ?_⟩
    simp only [Env.put_same]
    rw [den_ints]
    exact own_base hown hp.base
  · intro b hb
    simp only [blk, Env.put_same, Option.map_eq_some_iff] at hb
    obtain ⟨a, ha, rfl⟩ := hb
    exact hblk a ha
theorem CallK.oldRo {n0 nx : Nat} {f : FuncId} {vs : List V} {L : List E} {K : V → List E → Nat → Prop} {l : List Int} {u : V} (hok : callB Try.prog f = true) (hu : u.wf (nx + 1))
    (h : ∀ ρ w, Hp n0 ρ w L nx → Calls Try.prog f (vs.map (V.den ρ)).toArray w fun e w' => ∃ ao c, e = .returned (u.den (ρ.put nx ao c)) ∧ IntsAt w' ao l ∧ (∀ a, ao = some a → w.heap.size ≤ a.block) ∧ Below w.heap.size w w')
    (hK : K u [⟨nx, .ro 0, l.map C.i⟩] (nx + 1)) : CallK Try.prog n0 f vs L nx K := by
  refine ⟨hok, fun ρ w hp _ => (h ρ w hp).mono ?_⟩
  rintro e w' ⟨ao, c, rfl, hi, hblk, hbw⟩
  refine ⟨u, [⟨nx, .ro 0, l.map C.i⟩], nx + 1, ρ.put nx ao c, rfl, Nat.le_succ _, hu, Env.put_agr _ _ _ _, hbw, News.one (show EOK n0 (ρ.put nx ao c) w' ⟨nx, .ro 0, l.map C.i⟩ from ⟨?_, .inl rfl⟩) rfl (wf_ints _ _) ?_, hK⟩
  · simp only [Env.put_same]
    rw [den_ints]
    exact hi
  · intro b hb
    simp only [blk, Env.put_same, Option.map_eq_some_iff] at hb
    obtain ⟨a, ha, rfl⟩ := hb
    exact hblk a ha
theorem CallK.oldSlk {n0 nx : Nat} {f : FuncId} {vs : List V} {L : List E} {K : V → List E → Nat → Prop} {s : Slk} (hok : callB Try.prog f = true)
    (h : ∀ ρ w, Hp n0 ρ w L nx → Calls Try.prog f (vs.map (V.den ρ)).toArray w fun e w' => ∃ rv, e = .returned rv ∧ SlkNew w.heap.size w' rv s ∧ Below w.heap.size w w')
    (hK : K (V.agg [C.i s.K, C.sl nx s.Oil.length, C.i s.Away]) [⟨nx, .ro 0, s.Oil.map C.i⟩] (nx + 1)) : CallK Try.prog n0 f vs L nx K := by
  refine CallK.oldRo (l := s.Oil) (u := V.agg [C.i s.K, C.sl nx s.Oil.length, C.i s.Away]) hok (by simp [V.wf, A.wf, C.wf, C.i]) (fun ρ w hp => (h ρ w hp).mono ?_) hK
  rintro e w' ⟨rv, rfl, ⟨ao, c, rfl, hi, hn, hblk⟩, hbw⟩
  refine ⟨ao, c, ?_, hi, hblk, hbw⟩
  simp [V.den, A.den, C.den, C.i, Env.put_same]
theorem ints_of {n0 : Nat} {ρ : Env} {w : World} {L : List E} {nx a : Nat} {k : Kd} {l : List Int} (hp : Hp n0 ρ w L nx) (ha : find L a = some ⟨a, k, l.map C.i⟩) : IntsAt w (ρ a).1 l := by
  have h := (hp.row ha).1
  rw [den_ints] at h
  exact h
theorem slk_of {n0 : Nat} {ρ : Env} {w : World} {L : List E} {nx a : Nat} {k : Kd} {s : Slk} (hp : Hp n0 ρ w L nx) (ha : find L a = some ⟨a, k, s.Oil.map C.i⟩) (hn : s.Oil.length < 1152921504606846976) :
    SlkAt w ((V.agg [C.i s.K, C.sl a s.Oil.length, C.i s.Away]).den ρ) s :=
  ⟨_, _, rfl, ints_of hp ha, hn⟩
theorem own_of {n0 : Nat} {ρ : Env} {w : World} {L : List E} {nx a : Nat} {t : TypeId} {cs : List C} (hp : Hp n0 ρ w L nx) (ha : find L a = some ⟨a, .own t, cs⟩) :
    ∃ b, (ρ a).1 = some ⟨b, 0, none⟩ ∧ w.heap[b]? = some (.cells (cs.map (C.den ρ)).toArray t (0, 0)) := by
  obtain ⟨hm, hl⟩ := find_mem ha
  obtain ⟨b, h1, _, h2⟩ := hp.ok _ hm
  exact ⟨b, h1, h2⟩
theorem rvalid_k {n0 nx a b : Nat} {ka kb : Kd} {L : List E} {K : V → List E → Nat → Prop} {B : Bay} (hll : B.Land.length ≤ 100) (hsl : B.Share.length ≤ 100)
    (ha : find L a = some ⟨a, ka, B.Land.map C.bool⟩) (hb : find L b = some ⟨b, kb, shareC B.Share⟩) (hK : K (V.c (.bool (validB B))) [] nx) :
    CallK Try.prog n0 26 [V.agg [C.i B.W, C.i B.H, C.sl a B.Land.length, C.sl b B.Share.length]] L nx K :=
  CallK.old (u := V.c (.bool (validB B))) (by kernel_rfl) trivial (fun ρ w hp => rvalid_any _ B w (bay_of hp ha hb hll hsl)) hK
theorem is_k {n0 nx a b c : Nat} {ka kb kc : Kd} {L : List E} {K : V → List E → Nat → Prop} {B : Bay} {s : Slk} (hval : validP B) (hll : B.Land.length ≤ 100) (hsl : B.Share.length ≤ 100) (hn : s.Oil.length < 1152921504606846976)
    (ha : find L a = some ⟨a, ka, B.Land.map C.bool⟩) (hb : find L b = some ⟨b, kb, shareC B.Share⟩) (hc : find L c = some ⟨c, kc, s.Oil.map C.i⟩) (hK : K (V.c (.bool (fitsB B s))) [] nx) :
    CallK Try.prog n0 27 [V.agg [C.i B.W, C.i B.H, C.sl a B.Land.length, C.sl b B.Share.length], V.agg [C.i s.K, C.sl c s.Oil.length, C.i s.Away]] L nx K :=
  CallK.old (u := V.c (.bool (fitsB B s))) (by kernel_rfl) trivial (fun ρ w hp => is_any _ _ B s w (bay_of hp ha hb hll hsl) (slk_of hp hc hn) hval) hK
end Go.Proofs.Ytnafllhgjidbkaa

namespace Go.Proofs.Ytnafllhgjidbkaa
set_option linter.unusedVariables false
set_option linter.unusedSimpArgs false

/-! ### What moves do to all that there is, to what is away and to what is on land -/
theorem mvN_add (B : Bay) (s : Slk) (i : Nat) : ∀ k, mvN B (mvN B s i) k = mvN B s (i + k)
  | 0 => rfl
  | k + 1 => by show mv B (mvN B (mvN B s i) k) = mv B (mvN B s (i + k)); rw [mvN_add B s i k]
theorem aft_ok {B : Bay} {s : Slk} {n : Nat} (hval : validP B) (hfit : fitsP B s) (hn : s.K + n ≤ 5) : aftE B s n = 0 ∧ aftS B s n = mvN B s n := by
  have h : okE B s = 0 := by unfold okE; rw [if_pos (validB_true hval), if_pos (fitsB_true hfit)]
  have h0 := hfit.1.1
  have hE : aftE B s n = 0 := by unfold aftE; rw [if_neg (by rw [h]; decide), if_neg (by omega), if_neg (by omega)]
  refine ⟨hE, ?_⟩
  unfold aftS; rw [if_pos hE, Int.toNat_natCast]
theorem okE_ok {B : Bay} {s : Slk} (hval : validP B) (hfit : fitsP B s) : okE B s = 0 := by unfold okE; rw [if_pos (validB_true hval), if_pos (fitsB_true hfit)]
theorem fits_pre {B : Bay} {s : Slk} (hval : validP B) (hfit : fitsP B s) : s.Oil.length = B.Share.length := by
  have h1 := hval.2.2.2.1
  have h2 := hfit.2.1
  omega
theorem mvN_tot {B : Bay} {s : Slk} (hval : validP B) (hfit : fitsP B s) : ∀ n, (mvN B s n).Away + (mvN B s n).Oil.sum = (s.Away + s.Oil.sum) * 16 ^ n
  | 0 => by simp [mvN]
  | n + 1 => by
    have ih := mvN_tot hval hfit n
    have h1 := mv_tot (s := mvN B s n) hval (by rw [mvN_len]; exact fits_pre hval hfit)
    show (mv B (mvN B s n)).Away + (mv B (mvN B s n)).Oil.sum = _
    rw [Int.pow_succ, ← Int.mul_assoc, ← ih]; omega
theorem stepF_away {oil : Int} {st : List Int × Int} {x : Int × Int} (h0 : 0 ≤ oil) (hx : 0 ≤ x.2) : st.2 ≤ (stepF oil st x).2 := by
  unfold stepF
  have := Int.mul_nonneg h0 hx
  split
  · show st.2 ≤ st.2 + oil * x.2; omega
  · exact Int.le_refl _
theorem foldF_away {oil : Int} (h0 : 0 ≤ oil) : ∀ (xs : List (Int × Int)) (st : List Int × Int), (∀ x ∈ xs, 0 ≤ x.2) → st.2 ≤ (xs.foldl (stepF oil) st).2
  | [], st, _ => Int.le_refl _
  | x :: xs, st, h => Int.le_trans (stepF_away h0 (h x (by simp))) (foldF_away h0 xs _ (fun y hy => h y (by simp [hy])))
theorem mvUp_away {B : Bay} {s : Slk} (hval : validP B) (hlen : s.Oil.length = B.Share.length) (hO : ∀ k, k < s.Oil.length → 0 ≤ s.Oil.getD k 0) : ∀ k, k ≤ s.Oil.length → 16 * s.Away ≤ (mvUp B s k).2
  | 0, _ => Int.le_refl _
  | k + 1, h => by
    rw [mvUp_succ]
    exact Int.le_trans (mvUp_away hval hlen hO k (by omega)) (foldF_away (hO k (by omega)) _ _ (fun x hx => (flow_bd hval (by omega) x hx).2.1))
theorem mvN_away {B : Bay} {s : Slk} (hval : validP B) (hfit : fitsP B s) : ∀ n : Nat, s.K + n ≤ 5 → s.Away * 16 ^ n ≤ (mvN B s n).Away
  | 0, _ => by simp [mvN]
  | n + 1, h => by
    have ih := mvN_away hval hfit n (by omega)
    have hf := mvN_fits hval hfit n (by omega)
    have h1 := mvUp_away (s := mvN B s n) hval (fits_pre hval hf) (fun k hk => ((fits_bd hval hf).2.2.1 k hk).1) _ (Nat.le_refl _)
    show _ ≤ (mvUp B (mvN B s n) (mvN B s n).Oil.length).2
    rw [Int.pow_succ, ← Int.mul_assoc]; omega
theorem term_nonneg {B : Bay} {oil : List Int} (hval : validP B) (hlen : oil.length = B.Share.length) (hO : ∀ k, k < oil.length → 0 ≤ oil.getD k 0) (x y : Int) {k : Nat} (hk : k < 5) : 0 ≤ term B oil x y k := by
  have hp := mul36 hval.1.1 hval.1.2 hval.2.1.1 hval.2.1.2
  have hS := hval.2.2.2.1
  unfold term shV
  by_cases h : inBay B (x - dxs.getD k 0) (y - dys.getD k 0)
  · rw [if_pos h]
    obtain ⟨_, _, hlt, _⟩ := cell_in hval h
    exact Int.mul_nonneg ((ok_iff_at _).1 (hval.2.2.2.2 _ hlt).1 k hk).1 (hO _ (by omega))
  · rw [if_neg h]; simp
theorem mv_land {B : Bay} {s : Slk} (hval : validP B) (hlen : s.Oil.length = B.Share.length) (hO : ∀ k, k < s.Oil.length → 0 ≤ s.Oil.getD k 0) {j : Nat} (hj : j < s.Oil.length) (hl : B.Land.getD j false = true) : 16 * s.Oil.getD j 0 ≤ (mv B s).Oil.getD j 0 := by
  rw [gath_eq hval hlen hj]
  unfold gath
  have t := fun k hk => term_nonneg (oil := s.Oil) hval hlen hO (gx j B) (gy j B) (k := k) hk
  have t0 := t 0 (by omega)
  have t1 := t 1 (by omega)
  have t2 := t 2 (by omega)
  have t3 := t 3 (by omega)
  have t4 := t 4 (by omega)
  have : landPart B s.Oil j = 16 * s.Oil.getD j 0 := by unfold landPart; rw [if_pos hl]
  omega
theorem mvN_land {B : Bay} {s : Slk} (hval : validP B) (hfit : fitsP B s) {j : Nat} (hj : j < s.Oil.length) (hl : B.Land.getD j false = true) : ∀ n : Nat, s.K + n ≤ 5 → s.Oil.getD j 0 * 16 ^ n ≤ (mvN B s n).Oil.getD j 0
  | 0, _ => by simp [mvN]
  | n + 1, h => by
    have ih := mvN_land hval hfit hj hl n (by omega)
    have hf := mvN_fits hval hfit n (by omega)
    have h1 := mv_land (s := mvN B s n) hval (fits_pre hval hf) (fun k hk => ((fits_bd hval hf).2.2.1 k hk).1) (j := j) (by rw [mvN_len]; exact hj) hl
    show _ ≤ (mv B (mvN B s n)).Oil.getD j 0
    rw [Int.pow_succ, ← Int.mul_assoc]; omega
theorem lands_le {B : Bay} {s : Slk} (hval : validP B) (hfit : fitsP B s) {n : Nat} (hn : s.K + n ≤ 5) {j : Nat} (hj : j < s.Oil.length) :
    (landsL B s.Oil true).getD j 0 * 16 ^ n ≤ (landsL B (mvN B s n).Oil true).getD j 0 := by
  rw [lands_get B _ true hj, lands_get B _ true (by rw [mvN_len]; exact hj)]
  by_cases hl : B.Land.getD j false = true
  · rw [if_pos hl, if_pos hl]; exact mvN_land hval hfit hj hl n hn
  · rw [if_neg hl, if_neg hl]; simp
end Go.Proofs.Ytnafllhgjidbkaa

namespace Go.Proofs.Ytnafllhgjidbkaa
set_option linter.unusedVariables false
set_option linter.unusedSimpArgs false

/-! ### The moves of a sum -/
def addL (l m : List Int) : List Int := List.zipWith (· + ·) l m
def addS (s t : Slk) : Slk := ⟨s.K, addL s.Oil t.Oil, s.Away + t.Away⟩
theorem addL_len {l m : List Int} (h : l.length = m.length) : (addL l m).length = l.length := by simp [addL, h]
theorem addL_get {l m : List Int} (h : l.length = m.length) (j : Nat) : (addL l m).getD j 0 = l.getD j 0 + m.getD j 0 := by
  unfold addL
  by_cases hj : j < l.length
  · have hj' : j < m.length := by omega
    simp [List.getD_eq_getElem?_getD, List.getElem?_zipWith, List.getElem?_eq_getElem hj, List.getElem?_eq_getElem hj']
  · have hj' : ¬ j < m.length := by omega
    have e1 : l[j]? = none := List.getElem?_eq_none (by omega)
    have e2 : m[j]? = none := List.getElem?_eq_none (by omega)
    simp [List.getD_eq_getElem?_getD, List.getElem?_zipWith, e1, e2]
theorem addL_sum : ∀ {l m : List Int}, l.length = m.length → (addL l m).sum = l.sum + m.sum
  | [], [], _ => rfl
  | a :: l, b :: m, h => by
    have := addL_sum (l := l) (m := m) (by simpa using h)
    unfold addL at this ⊢
    simp only [List.zipWith_cons_cons, List.sum_cons]
    omega
theorem list_ext_getD {l m : List Int} (h : l.length = m.length) (hg : ∀ j, j < l.length → l.getD j 0 = m.getD j 0) : l = m := by
  apply List.ext_getElem h
  intro i h1 h2
  have := hg i h1
  simpa [List.getD_eq_getElem?_getD, List.getElem?_eq_getElem h1, List.getElem?_eq_getElem h2] using this
theorem term_add (B : Bay) {l m : List Int} (h : l.length = m.length) (x y : Int) (k : Nat) : term B (addL l m) x y k = term B l x y k + term B m x y k := by
  unfold term; rw [addL_get h, Int.mul_add]
theorem gath_add (B : Bay) {l m : List Int} (h : l.length = m.length) (j : Nat) : gath B (addL l m) j = gath B l j + gath B m j := by
  unfold gath
  simp only [term_add B h]
  have : landPart B (addL l m) j = landPart B l j + landPart B m j := by
    unfold landPart
    rw [addL_get h]
    split <;> omega
  omega
theorem slk_ext {s t : Slk} (h1 : s.K = t.K) (h2 : s.Oil = t.Oil) (h3 : s.Away = t.Away) : s = t := by
  cases s; cases t; simp at h1 h2 h3; simp [h1, h2, h3]
theorem mv_addS {B : Bay} {s t : Slk} (hval : validP B) (hs : s.Oil.length = B.Share.length) (ht : t.Oil.length = B.Share.length) : mv B (addS s t) = addS (mv B s) (mv B t) := by
  have hl : s.Oil.length = t.Oil.length := by omega
  have hal : (addS s t).Oil.length = B.Share.length := by show (addL s.Oil t.Oil).length = _; rw [addL_len hl, hs]
  have hO : (mv B (addS s t)).Oil = (addS (mv B s) (mv B t)).Oil := by
    show _ = addL (mv B s).Oil (mv B t).Oil
    have hml : (mv B s).Oil.length = (mv B t).Oil.length := by rw [mv_len, mv_len, hl]
    refine list_ext_getD (by rw [mv_len, addL_len hml, mv_len, hal, hs]) (fun j hj => ?_)
    rw [mv_len] at hj
    rw [gath_eq hval hal hj, addL_get hml, gath_eq hval hs (by omega), gath_eq hval ht (by omega)]
    exact gath_add B hl j
  refine slk_ext rfl hO ?_
  have h1 := mv_tot (s := addS s t) hval hal
  have h2 := mv_tot (s := s) hval hs
  have h3 := mv_tot (s := t) hval ht
  rw [hO] at h1
  have h4 : (addS (mv B s) (mv B t)).Oil.sum = (mv B s).Oil.sum + (mv B t).Oil.sum := addL_sum (by rw [mv_len, mv_len, hl])
  have h5 : (addS s t).Oil.sum = s.Oil.sum + t.Oil.sum := addL_sum hl
  have h6 : (addS s t).Away = s.Away + t.Away := rfl
  rw [h4, h5, h6] at h1
  show _ = (mv B s).Away + (mv B t).Away
  omega
theorem mvN_addS {B : Bay} {s t : Slk} (hval : validP B) (hs : s.Oil.length = B.Share.length) (ht : t.Oil.length = B.Share.length) : ∀ n, mvN B (addS s t) n = addS (mvN B s n) (mvN B t n)
  | 0 => rfl
  | n + 1 => by
    show mv B (mvN B (addS s t) n) = addS (mv B (mvN B s n)) (mv B (mvN B t n))
    rw [mvN_addS hval hs ht n, mv_addS hval (by rw [mvN_len]; exact hs) (by rw [mvN_len]; exact ht)]
end Go.Proofs.Ytnafllhgjidbkaa

namespace Go.Proofs.Ytnafllhgjidbkaa
open Go.RowKit Go.Shelf
set_option linter.unusedVariables false
set_option linter.unusedSimpArgs false

theorem cells3 {W : World} {b : Nat} {x y z : Value} {t : TypeId} {f : Nat × Nat} (h : W.heap[b]? = some (.cells #[x, y, z] t f)) : W.cell? ⟨b, 0, none⟩ = some x ∧ W.cell? ⟨b, 1, none⟩ = some y ∧ W.cell? ⟨b, 2, none⟩ = some z :=
  ⟨cell_of_heap h 0, cell_of_heap h 1, cell_of_heap h 2⟩
theorem cells4 {W : World} {b : Nat} {x y z u : Value} {t : TypeId} {f : Nat × Nat} (h : W.heap[b]? = some (.cells #[x, y, z, u] t f)) : W.cell? ⟨b, 0, none⟩ = some x ∧ W.cell? ⟨b, 1, none⟩ = some y ∧ W.cell? ⟨b, 2, none⟩ = some z ∧ W.cell? ⟨b, 3, none⟩ = some u :=
  ⟨cell_of_heap h 0, cell_of_heap h 1, cell_of_heap h 2, cell_of_heap h 3⟩
theorem drewN_below (B : Nat) (w : World) (n : Nat) : Below B w (w.drewN n) := ⟨rfl, rfl, rfl, Nat.le_refl _, fun _ _ => rfl⟩

theorem is_any2 (B : Bay) (s : Slk) (la sa ao : Option Addr) (lc sc c : Nat) (w : World) (hv : BayAt w (.agg #[.int .i64 B.W, .int .i64 B.H, .slice la B.Land.length lc, .slice sa B.Share.length sc]) B) (hi : IntsAt w ao s.Oil) (hval : validP B) :
    Calls Try.prog 27 #[.agg #[.int .i64 B.W, .int .i64 B.H, .slice la B.Land.length lc, .slice sa B.Share.length sc], .agg #[.int .i64 s.K, .slice ao s.Oil.length c, .int .i64 s.Away]] w fun e w' => e = .returned (.bool (fitsB B s)) ∧ Below w.heap.size w w' := by
  by_cases hn : s.Oil.length < 1152921504606846976
  · exact is_any _ _ B s w hv ⟨ao, c, rfl, hi, hn⟩ hval
  · obtain ⟨hp1, hp2⟩ := mul36 hval.1.1 hval.1.2 hval.2.1.1 hval.2.1.2
    have hlen : ¬ (s.Oil.length : Int) = B.W * B.H := by omega
    have hb : ((s.Oil.length : Int) == B.W * B.H) = false := by simp [hlen]
    have hf := Lib.hid (fitsB_false (B := B) (s := s) (fun h => hlen h.2.1))
    clear hi hlen hval hv hn
    go_enter Try.func27, Try.ntmps27
    go_wp2
    go_ret
    exact ⟨ret_bool hf.out.symm, ((Below.refl _ _).alloc (Nat.le_refl _) _).alloc (by simp) _⟩

theorem tmod_bd {n K : Int} (hn : 0 ≤ n) (hK : 0 ≤ K ∧ K ≤ 5) : ∃ i : Nat, Int.tmod n (5 - K + 1) = i ∧ K + i ≤ 5 := by
  have h1 : 0 ≤ Int.tmod n (5 - K + 1) := Int.tmod_nonneg _ hn
  have h2 : Int.tmod n (5 - K + 1) < 5 - K + 1 := Int.tmod_lt_of_pos _ (by omega)
  exact ⟨(Int.tmod n (5 - K + 1)).toNat, by omega, by omega⟩

set_option maxRecDepth 100000 in
set_option maxHeartbeats 2000000 in
theorem mass_any (B : Bay) (s : Slk) (la sa ao : Option Addr) (lc sc c : Nat) (n m : Int) (w : World) (hl : BoolsAt w la B.Land) (hsh : FivesAt w sa B.Share) (hi : IntsAt w ao s.Oil) (hn : 0 ≤ n ∧ n ≤ 255) (hm : 0 ≤ m ∧ m ≤ 255) :
    Calls Try.prog 6 #[.agg #[.int .i64 B.W, .int .i64 B.H, .slice la B.Land.length lc, .slice sa B.Share.length sc], .agg #[.int .i64 s.K, .slice ao s.Oil.length c, .int .i64 s.Away], .agg #[.int .u8 n, .int .u8 m]] w fun e w' => e = .returned (.bool true) ∧ Below w.heap.size w w' := by
  have HLo := Lib.hid (fun W => Long_any B W la sa lc sc)
  obtain ⟨f0, f1, f2, f3, f4⟩ := three_new (w := w) #[.int .i64 B.W, .int .i64 B.H, .slice la B.Land.length lc, .slice sa B.Share.length sc] #[.int .i64 s.K, .slice ao s.Oil.length c, .int .i64 s.Away] #[.int .u8 n, .int .u8 m] 25 28 45
  have HI := Lib.hid hi
  have HL := Lib.hid hl
  have HSH := Lib.hid hsh
  have F := Lib.hid (And.intro f0 (And.intro f1 (And.intro f2 (And.intro f3 f4))))
  clear hi hl hsh f0 f1 f2 f3 f4
  go_enter Try.func6, Try.ntmps6
  go_wp2_with fail
  generalize hW : (((w.alloc _).alloc _).alloc _) = W at *
  clear hW
  obtain ⟨f0, f1, f2, f3, f4⟩ := F.out
  clear F
  obtain ⟨d0, d1, d2, d3⟩ := cells4 f2
  have m0 := cell_of_heap f4 0
  have m1 := cell_of_heap f4 1
  simp at m0 m1
  have l0 := heap_lt f2
  have l1 := heap_lt f3
  have l2 := heap_lt f4
  have G0 := Lib.hid f2
  have G1 := Lib.hid f3
  have HB : Hid (Below w.heap.size w W) := f0
  clear f0 f1 f2 f3 f4
  go_quiet (fail)
  go_wp2_with fail
  refine (HLo.out _).mono ?_
  rintro e w1 ⟨rfl, hb1⟩
  have HB1 : Hid (Below w.heap.size w w1) := HB.out.trans ((drewN_below _ _ _).trans (hb1.mono HB.out.size))
  have G0' := Lib.hid ((hb1.block _ l0).trans G0.out)
  have G1' := Lib.hid ((hb1.block _ l1).trans G1.out)
  obtain ⟨e0, e1, e2, e3⟩ := cells4 G0'.out
  obtain ⟨s0, s1, s2⟩ := cells3 G1'.out
  clear d0 d1 d2 d3 m0 m1 l0 l1 l2 G0 G1 HB hb1 HLo
  have sane : Hid (∀ w2, Below w.heap.size w w2 → Calls Try.prog 17 #[] w2 fun e w' => e = .returned (.bool true) ∧ Below w.heap.size w w') := fun w2 h => (Sane_any w2).mono fun e w' h' => ⟨h'.1, h.trans (h'.2.mono h.size)⟩
  by_cases hL : 100 < B.Land.length ∨ 100 < B.Share.length
  · rw [decide_eq_true hL]
    clear hL
    go_wp2_with fail
    refine (sane.out _ HB1.out).mono ?_
    rintro e w2 ⟨rfl, hb2⟩
    go_wp2
    go_ret
    exact ⟨rfl, hb2⟩
  rw [decide_eq_false hL]
  have hB : Hid (∀ W, Below w.heap.size w W → BayAt W (.agg #[.int .i64 B.W, .int .i64 B.H, .slice la B.Land.length lc, .slice sa B.Share.length sc]) B) := fun W h => ⟨la, lc, sa, sc, rfl, HL.out.below (Nat.le_refl _) h, HSH.out.below (Nat.le_refl _) h, by omega, by omega⟩
  clear hL
  go_wp2_with fail
  refine (rvalid_any _ B _ (hB.out _ HB1.out)).mono ?_
  rintro e w2 ⟨rfl, hb2⟩
  have HB2 : Hid (Below w.heap.size w w2) := HB1.out.trans (hb2.mono HB1.out.size)
  have H0 := Lib.hid ((hb2.block _ (heap_lt G0'.out)).trans G0'.out)
  have H1 := Lib.hid ((hb2.block _ (heap_lt G1'.out)).trans G1'.out)
  clear e0 e1 e2 e3 s0 s1 s2 G0' G1' hb2 HB1
  obtain ⟨e0, e1, e2, e3⟩ := cells4 H0.out
  obtain ⟨s0, s1, s2⟩ := cells3 H1.out
  by_cases hval : validP B
  rotate_left
  · rw [validB_false hval]
    clear hval
    go_wp2_with fail
    refine (sane.out _ HB2.out).mono ?_
    rintro e w3 ⟨rfl, hb3⟩
    go_wp2
    go_ret
    exact ⟨rfl, hb3⟩
  rw [validB_true hval]
  have HVAL := Lib.hid hval
  clear hval
  go_wp2_with fail
  refine (is_any2 B s la sa ao lc sc c _ (hB.out _ HB2.out) (HI.out.below (Nat.le_refl _) HB2.out) HVAL.out).mono ?_
  rintro e w3 ⟨rfl, hb3⟩
  have HB3 : Hid (Below w.heap.size w w3) := HB2.out.trans (hb3.mono HB2.out.size)
  have G0 := Lib.hid ((hb3.block _ (heap_lt H0.out)).trans H0.out)
  have G1 := Lib.hid ((hb3.block _ (heap_lt H1.out)).trans H1.out)
  clear e0 e1 e2 e3 s0 s1 s2 H0 H1 hb3 HB2
  obtain ⟨e0, e1, e2, e3⟩ := cells4 G0.out
  obtain ⟨s0, s1, s2⟩ := cells3 G1.out
  by_cases hfit : fitsP B s
  rotate_left
  · rw [fitsB_false hfit]
    clear hfit
    go_wp2_with fail
    refine (sane.out _ HB3.out).mono ?_
    rintro e w4 ⟨rfl, hb4⟩
    go_wp2
    go_ret
    exact ⟨rfl, hb4⟩
  rw [fitsB_true hfit]
  obtain ⟨i, hi, hKi⟩ := tmod_bd hn.1 hfit.1
  obtain ⟨k, hk, hKk⟩ := tmod_bd (K := s.K + i) hm.1 ⟨by have := hfit.1; omega, by omega⟩
  have hk' : Int.tmod m (5 - s.K - i + 1) = k := by rw [← hk]; congr 1; omega
  have hK := hfit.1
  have hval := HVAL.out
  obtain ⟨b36, -, bO, bA, bS⟩ := fits_bd hval hfit
  have hxf := mvN_fits hval hfit i (by omega)
  obtain ⟨x36, -, xO, xA, xS⟩ := fits_bd hval hxf
  have hxl : (mvN B s i).Oil.length = s.Oil.length := mvN_len B s i
  have hxK : (mvN B s i).K = s.K + i := mvN_K B s i
  have hpb := pow_bd (i : Int) (by omega) (by omega)
  rw [Int.toNat_natCast] at hpb
  have C1 := Lib.hid (fun W (h : Below w.heap.size w W) => After_any _ _ B s i W (hB.out W h) ⟨ao, c, rfl, HI.out.below (Nat.le_refl _) h, by omega⟩ (by omega))
  have C2 := Lib.hid (fun W a' c' (h : Below w.heap.size w W) (hi' : IntsAt W a' (mvN B s i).Oil) => After_any _ (.agg #[.int .i64 (mvN B s i).K, .slice a' (mvN B s i).Oil.length c', .int .i64 (mvN B s i).Away]) B (mvN B s i) k W (hB.out W h) ⟨a', c', rfl, hi', by omega⟩ (by omega))
  have C3 := Lib.hid (fun W (h : Below w.heap.size w W) => After_any _ _ B s ((i + k : Nat) : Int) W (hB.out W h) ⟨ao, c, rfl, HI.out.below (Nat.le_refl _) h, by omega⟩ (by omega))
  rw [(aft_ok hval hfit (n := i) (by omega)).1, (aft_ok hval hfit (n := i) (by omega)).2] at C1
  rw [(aft_ok hval hxf (n := k) (by omega)).1, (aft_ok hval hxf (n := k) (by omega)).2] at C2
  rw [(aft_ok hval hfit (n := i + k) (by omega)).1, (aft_ok hval hfit (n := i + k) (by omega)).2, ← mvN_add] at C3
  have hcast : ((i + k : Nat) : Int) = (i : Int) + k := Int.natCast_add _ _
  rw [hcast] at C3
  have T1 := Lib.hid (fun W (h : Below w.heap.size w W) => Total_any _ _ B s W (hB.out W h) ⟨ao, c, rfl, HI.out.below (Nat.le_refl _) h, by omega⟩)
  have T2 := Lib.hid (fun W a' c' (h : Below w.heap.size w W) (hi' : IntsAt W a' (mvN B s i).Oil) => Total_any _ (.agg #[.int .i64 (mvN B s i).K, .slice a' (mvN B s i).Oil.length c', .int .i64 (mvN B s i).Away]) B (mvN B s i) W (hB.out W h) ⟨a', c', rfl, hi', by omega⟩)
  have E1 := Lib.hid (fun W (h : Below w.heap.size w W) => Beached_any _ _ B s W (hB.out W h) ⟨ao, c, rfl, HI.out.below (Nat.le_refl _) h, by omega⟩)
  have E2 := Lib.hid (fun W a' c' (h : Below w.heap.size w W) (hi' : IntsAt W a' (mvN B s i).Oil) => Beached_any _ (.agg #[.int .i64 (mvN B s i).K, .slice a' (mvN B s i).Oil.length c', .int .i64 (mvN B s i).Away]) B (mvN B s i) W (hB.out W h) ⟨a', c', rfl, hi', by omega⟩)
  have ht1 : totV B s = s.Away + s.Oil.sum := by unfold totV; rw [if_pos (okE_ok hval hfit)]
  have ht2 : totV B (mvN B s i) = (s.Away + s.Oil.sum) * 16 ^ i := by unfold totV; rw [if_pos (okE_ok hval hxf), mvN_tot hval hfit]
  have hb1 : beachL B s = landsL B s.Oil true := by unfold beachL; rw [if_pos (okE_ok hval hfit)]
  have hb2 : beachL B (mvN B s i) = landsL B (mvN B s i).Oil true := by unfold beachL; rw [if_pos (okE_ok hval hxf)]
  rw [ht1, okE_ok hval hfit] at T1
  rw [ht2, okE_ok hval hxf] at T2
  rw [hb1, okE_ok hval hfit] at E1
  rw [hb2, okE_ok hval hxf] at E2
  have hTb : 0 ≤ (s.Away + s.Oil.sum) * 16 ^ i ∧ (s.Away + s.Oil.sum) * 16 ^ i ≤ 80000000000 := by
    rw [← mvN_tot hval hfit]; omega
  have hAb := mvN_away hval hfit i (by omega)
  have hA0 : 0 ≤ s.Away * 16 ^ i := Int.mul_nonneg bA.1 (by omega)
  have hlen1 : (landsL B s.Oil true).length = s.Oil.length := lands_len ..
  have hlen2 : (landsL B (mvN B s i).Oil true).length = s.Oil.length := by rw [lands_len, hxl]
  have hle : ∀ j, j < s.Oil.length → 0 ≤ (landsL B s.Oil true).getD j 0 ∧ 0 ≤ (landsL B s.Oil true).getD j 0 * 16 ^ i ∧ (landsL B s.Oil true).getD j 0 * 16 ^ i ≤ (landsL B (mvN B s i).Oil true).getD j 0 ∧ (landsL B (mvN B s i).Oil true).getD j 0 ≤ 37748736000 := fun j hj => by
    have h1 := lands_bd (B := B) (land := true) (by omega) bO j (by rw [hlen1]; exact hj)
    have h2 := lands_bd (B := B) (land := true) (by omega) xO j (by rw [hlen2]; exact hj)
    exact ⟨h1.1, Int.mul_nonneg h1.1 (by omega), lands_le hval hfit (by omega) hj, h2.2⟩
  have S16 := Lib.hid (fun W => sixteen_any i W (by omega))
  have hyl : (mvN B (mvN B s i) k).Oil.length = s.Oil.length := by rw [mvN_len, mvN_len]
  have HLE := Lib.hid hle
  have HL1 := Lib.hid hlen1
  have HL2 := Lib.hid hlen2
  have HXL := Lib.hid hxl
  have HYL := Lib.hid hyl
  have HNUM := Lib.hid (And.intro b36 (And.intro bA (And.intro x36 (And.intro xA (And.intro hpb (And.intro hTb (And.intro hAb hA0)))))))
  clear b36 bA bS x36 xA xS hpb hTb hAb hA0
  clear hfit hk hval hxf hxl hxK ht1 ht2 hb1 hb2 hlen1 hlen2 hle hcast bO xO hyl HVAL
  generalize mvN B (mvN B s i) k = y at *
  generalize mvN B s i = x at *
  generalize (16 : Int) ^ i = p at *
  generalize s.Away + s.Oil.sum = T at *
  generalize landsL B s.Oil true = bs at *
  generalize landsL B x.Oil true = bx at *
  go_wp2_with fail
  refine (C1.out _ HB3.out).mono ?_
  rintro e w4 ⟨rv, rfl, ⟨ax, cx, rfl, hix, -, hfx⟩, hb4⟩
  have HB4 : Hid (Below w.heap.size w w4) := HB3.out.trans (hb4.mono HB3.out.size)
  have H0 := Lib.hid ((hb4.block _ (heap_lt G0.out)).trans G0.out)
  have H1 := Lib.hid ((hb4.block _ (heap_lt G1.out)).trans G1.out)
  clear e0 e1 e2 e3 s0 s1 s2 G0 G1 hb4 HB3 C1
  obtain ⟨e0, e1, e2, e3⟩ := cells4 H0.out
  obtain ⟨s0, s1, s2⟩ := cells3 H1.out
  have l0 := heap_lt H0.out
  have l1 := heap_lt H1.out
  have HIX := Lib.hid hix
  clear hix
  go_wp2_with fail
  have K0 := Lib.hid (heap_alloc_old H0.out (.cells #[.int .i64 x.K, .slice ax x.Oil.length cx, .int .i64 x.Away] 28))
  have K1 := Lib.hid (heap_alloc_old H1.out (.cells #[.int .i64 x.K, .slice ax x.Oil.length cx, .int .i64 x.Away] 28))
  have K2 := Lib.hid (World.alloc_heap_new w4 (.cells #[.int .i64 x.K, .slice ax x.Oil.length cx, .int .i64 x.Away] 28))
  have HX1 := Lib.hid (HIX.out.below (Nat.le_refl _) ((Below.refl _ _).alloc (Nat.le_refl _) (.cells #[.int .i64 x.K, .slice ax x.Oil.length cx, .int .i64 x.Away] 28)))
  have HB5 : Hid (Below w.heap.size w (w4.alloc (.cells #[.int .i64 x.K, .slice ax x.Oil.length cx, .int .i64 x.Away] 28))) := HB4.out.alloc HB4.out.size _
  refine (C2.out _ ax cx HB5.out HX1.out).mono ?_
  rintro e w5 ⟨rv, rfl, ⟨ay, cy, rfl, hiy, -, hfy⟩, hb5⟩
  have HB6 : Hid (Below w.heap.size w w5) := HB5.out.trans (hb5.mono HB5.out.size)
  have G0 := Lib.hid ((hb5.block _ (heap_lt K0.out)).trans K0.out)
  have G1 := Lib.hid ((hb5.block _ (heap_lt K1.out)).trans K1.out)
  have G2 := Lib.hid ((hb5.block _ (heap_lt K2.out)).trans K2.out)
  have HX2 := Lib.hid (HX1.out.below (Nat.le_refl _) hb5)
  have HIY := Lib.hid hiy
  generalize w4.heap.size = bx' at *
  clear e0 e1 e2 e3 s0 s1 s2 H0 H1 K0 K1 K2 HX1 hb5 HB5 C2 HB4 hiy HIX l0 l1 hfx hfy
  obtain ⟨e0, e1, e2, e3⟩ := cells4 G0.out
  obtain ⟨s0, s1, s2⟩ := cells3 G1.out
  obtain ⟨x0, x1, x2⟩ := cells3 G2.out
  have l0 := heap_lt G0.out
  have l1 := heap_lt G1.out
  have l2 := heap_lt G2.out
  go_wp2_with fail
  have K0 := Lib.hid (heap_alloc_old G0.out (.cells #[.int .i64 y.K, .slice ay y.Oil.length cy, .int .i64 y.Away] 28))
  have K1 := Lib.hid (heap_alloc_old G1.out (.cells #[.int .i64 y.K, .slice ay y.Oil.length cy, .int .i64 y.Away] 28))
  have K2 := Lib.hid (heap_alloc_old G2.out (.cells #[.int .i64 y.K, .slice ay y.Oil.length cy, .int .i64 y.Away] 28))
  have K3 := Lib.hid (World.alloc_heap_new w5 (.cells #[.int .i64 y.K, .slice ay y.Oil.length cy, .int .i64 y.Away] 28))
  have hal := (Below.refl w5.heap.size w5).alloc (Nat.le_refl _) (.cells #[.int .i64 y.K, .slice ay y.Oil.length cy, .int .i64 y.Away] 28)
  have HX1 := Lib.hid (HX2.out.below (Nat.le_refl _) hal)
  have HY1 := Lib.hid (HIY.out.below (Nat.le_refl _) hal)
  have HB5 : Hid (Below w.heap.size w (w5.alloc (.cells #[.int .i64 y.K, .slice ay y.Oil.length cy, .int .i64 y.Away] 28))) := HB6.out.alloc HB6.out.size _
  refine (C3.out _ HB5.out).mono ?_
  rintro e w6 ⟨rv, rfl, ⟨az, cz, rfl, hiz, -, hfz⟩, hb6⟩
  have HB7 : Hid (Below w.heap.size w w6) := HB5.out.trans (hb6.mono HB5.out.size)
  have H0 := Lib.hid ((hb6.block _ (heap_lt K0.out)).trans K0.out)
  have H1 := Lib.hid ((hb6.block _ (heap_lt K1.out)).trans K1.out)
  have H2 := Lib.hid ((hb6.block _ (heap_lt K2.out)).trans K2.out)
  have H3 := Lib.hid ((hb6.block _ (heap_lt K3.out)).trans K3.out)
  have HXX := Lib.hid (HX1.out.below (Nat.le_refl _) hb6)
  have HYY := Lib.hid (HY1.out.below (Nat.le_refl _) hb6)
  have HZZ := Lib.hid hiz
  generalize w5.heap.size = by' at *
  clear e0 e1 e2 e3 s0 s1 s2 x0 x1 x2 G0 G1 G2 K0 K1 K2 K3 HX1 HY1 hb6 HB5 C3 HB6 hiz HIY HX2 l0 l1 l2 hal hfz
  obtain ⟨e0, e1, e2, e3⟩ := cells4 H0.out
  obtain ⟨s0, s1, s2⟩ := cells3 H1.out
  obtain ⟨x0, x1, x2⟩ := cells3 H2.out
  obtain ⟨y0, y1, y2⟩ := cells3 H3.out
  have l0 := heap_lt H0.out
  have l1 := heap_lt H1.out
  have l2 := heap_lt H2.out
  have l3 := heap_lt H3.out
  go_wp2_with fail
  have hal := (Below.refl w6.heap.size w6).alloc (Nat.le_refl _) (.cells #[.int .i64 y.K, .slice az y.Oil.length cz, .int .i64 y.Away] 28)
  have hQ := equal_any ay az cy cz y y _ (HYY.out.below (Nat.le_refl _) hal) (HZZ.out.below (Nat.le_refl _) hal) (by have := HYL.out; have := HNUM.out.1; omega) (by have := HYL.out; have := HNUM.out.1; omega)
  rw [eqSlk_refl] at hQ
  refine hQ.mono ?_
  rintro e w7 ⟨rfl, hb7⟩
  have hb8 : Below w6.heap.size w6 w7 := hal.trans (hb7.mono hal.size)
  have HB8 : Hid (Below w.heap.size w w7) := HB7.out.trans (hb8.mono HB7.out.size)
  have G0 := Lib.hid ((hb8.block _ l0).trans H0.out)
  have G1 := Lib.hid ((hb8.block _ l1).trans H1.out)
  have G2 := Lib.hid ((hb8.block _ l2).trans H2.out)
  have HX := Lib.hid (HXX.out.below (Nat.le_refl _) hb8)
  clear e0 e1 e2 e3 s0 s1 s2 x0 x1 x2 y0 y1 y2 H0 H1 H2 H3 HB7 HYY HZZ HXX l0 l1 l2 l3 hal hQ hb7 hb8
  obtain ⟨e0, e1, e2, e3⟩ := cells4 G0.out
  obtain ⟨s0, s1, s2⟩ := cells3 G1.out
  obtain ⟨x0, x1, x2⟩ := cells3 G2.out
  go_wp2_with fail
  refine (T1.out _ HB8.out).mono ?_
  rintro e w8 ⟨rfl, hb8⟩
  have HB9 : Hid (Below w.heap.size w w8) := HB8.out.trans (hb8.mono HB8.out.size)
  have H0 := Lib.hid ((hb8.block _ (heap_lt G0.out)).trans G0.out)
  have H1 := Lib.hid ((hb8.block _ (heap_lt G1.out)).trans G1.out)
  have H2 := Lib.hid ((hb8.block _ (heap_lt G2.out)).trans G2.out)
  have HX1 := Lib.hid (HX.out.below (Nat.le_refl _) hb8)
  clear e0 e1 e2 e3 s0 s1 s2 x0 x1 x2 G0 G1 G2 HB8 HX hb8 T1
  obtain ⟨e0, e1, e2, e3⟩ := cells4 H0.out
  obtain ⟨s0, s1, s2⟩ := cells3 H1.out
  obtain ⟨x0, x1, x2⟩ := cells3 H2.out
  go_wp2_with fail
  refine (T2.out _ ax cx HB9.out HX1.out).mono ?_
  rintro e w9 ⟨rfl, hb8⟩
  have HB8 : Hid (Below w.heap.size w w9) := HB9.out.trans (hb8.mono HB9.out.size)
  have G0 := Lib.hid ((hb8.block _ (heap_lt H0.out)).trans H0.out)
  have G1 := Lib.hid ((hb8.block _ (heap_lt H1.out)).trans H1.out)
  have G2 := Lib.hid ((hb8.block _ (heap_lt H2.out)).trans H2.out)
  have HX := Lib.hid (HX1.out.below (Nat.le_refl _) hb8)
  clear e0 e1 e2 e3 s0 s1 s2 x0 x1 x2 H0 H1 H2 HB9 HX1 hb8 T2
  obtain ⟨e0, e1, e2, e3⟩ := cells4 G0.out
  obtain ⟨s0, s1, s2⟩ := cells3 G1.out
  obtain ⟨x0, x1, x2⟩ := cells3 G2.out
  go_wp2_with fail
  refine (E1.out _ HB8.out).mono ?_
  rintro e w10 ⟨rv, rfl, ⟨a1, c1, rfl, hi1, hf1⟩, hb8⟩
  have HB9 : Hid (Below w.heap.size w w10) := HB8.out.trans (hb8.mono HB8.out.size)
  have H0 := Lib.hid ((hb8.block _ (heap_lt G0.out)).trans G0.out)
  have H1 := Lib.hid ((hb8.block _ (heap_lt G1.out)).trans G1.out)
  have H2 := Lib.hid ((hb8.block _ (heap_lt G2.out)).trans G2.out)
  have HX1 := Lib.hid (HX.out.below (Nat.le_refl _) hb8)
  have HA1 := Lib.hid hi1
  clear e0 e1 e2 e3 s0 s1 s2 x0 x1 x2 G0 G1 G2 HB8 HX hb8 E1 hi1 hf1
  obtain ⟨e0, e1, e2, e3⟩ := cells4 H0.out
  obtain ⟨s0, s1, s2⟩ := cells3 H1.out
  obtain ⟨x0, x1, x2⟩ := cells3 H2.out
  go_wp2_with fail
  refine (E2.out _ ax cx HB9.out HX1.out).mono ?_
  rintro e w11 ⟨rv, rfl, ⟨a2, c2, rfl, hi2, hf2⟩, hb8⟩
  have HB8 : Hid (Below w.heap.size w w11) := HB9.out.trans (hb8.mono HB9.out.size)
  have G1 := Lib.hid ((hb8.block _ (heap_lt H1.out)).trans H1.out)
  have G2 := Lib.hid ((hb8.block _ (heap_lt H2.out)).trans H2.out)
  have HA2 := Lib.hid (HA1.out.below (Nat.le_refl _) hb8)
  have HA3 := Lib.hid hi2
  have l1 := heap_lt G1.out
  have l2 := heap_lt G2.out
  clear e0 e1 e2 e3 s0 s1 s2 x0 x1 x2 H0 H1 H2 HB9 HX1 hb8 E2 hi2 hf2 HA1
  obtain ⟨s0, s1, s2⟩ := cells3 G1.out
  obtain ⟨x0, x1, x2⟩ := cells3 G2.out
  have SS : ∀ x : Aft w11, Calls Try.prog 32 #[.int .i64 i] x.val fun e w' => e = .returned (.int .i64 p) ∧ x.val = w' := fun x => S16.out x.val
  have HSS := Lib.hid SS
  rw [HL1.out, HL2.out]
  obtain ⟨b36, bA, x36, xA, hpb, hTb, hAb, hA0⟩ := HNUM.out
  have hlt : (x.Away < s.Away * p) = False := by simp; omega
  clear SS
  go_wp2_with fail
  refine wp_region_aft (by kernel_rfl) (by kernel_rfl) ?_
  repeat (go_big_quiet_step ((go_at_call 32; rename_i x; exact Calls.aft_same (HSS.out x))))
  refine wpQuiet_nil ?_
  rintro w12 ⟨x5', hx5⟩
  have hb5 : Below w11.heap.size w11 w12 := by rw [hx5]; exact x5'.bel
  clear hx5 x5'
  have HB9 : Hid (Below w.heap.size w w12) := HB8.out.trans (hb5.mono HB8.out.size)
  have HA4 := Lib.hid (HA2.out.below (Nat.le_refl _) hb5)
  have HA5 := Lib.hid (HA3.out.below (Nat.le_refl _) hb5)
  clear s0 s1 s2 x0 x1 x2 l1 l2 hlt hAb hA0 hTb bA xA HA2 HA3 G1 G2 hb5 HB8 HSS
  go_wp2_with fail
  go_loopw [22] (fun iv wr => ∃ j : Nat, j ≤ s.Oil.length ∧ iv = .int .i64 j ∧ Below w12.heap.size w12 wr) (fun iv _ => s.Oil.length - (intOf iv).toNat)
  case atStart => exact ⟨0, Nat.zero_le _, rfl, Below.refl _ _⟩
  case round =>
    obtain ⟨j, hj, rfl, hb⟩ := hrel
    by_cases hlt : j < s.Oil.length
    · obtain ⟨bp, op, rfl, hp1, hp2⟩ := (HA4.out.below (Nat.le_refl _) hb).get (k := j) (by rw [HL1.out]; exact hlt)
      obtain ⟨bq, oq, rfl, hq1, hq2⟩ := (HA5.out.below (Nat.le_refl _) hb).get (k := j) (by rw [HL2.out]; exact hlt)
      obtain ⟨z0, z1, z2, z3⟩ := HLE.out j hlt
      generalize bs.getD j 0 = u at *
      generalize bx.getD j 0 = v at *
      have hlt2 : (v < u * p) = False := by simp; omega
      have hltj : (j : Int) < s.Oil.length := by omega
      have HSS : Hid (∀ x : Aft wr, Calls Try.prog 32 #[.int .i64 i] x.val fun e w' => e = .returned (.int .i64 p) ∧ x.val = w') := fun x => S16.out x.val
      have HBR := Lib.hid hb
      clear hb
      go_wp2_with fail
      refine wp_region_aft (by kernel_rfl) (by kernel_rfl) ?_
      repeat (go_big_quiet_step ((go_at_call 32; rename_i x; exact Calls.aft_same (HSS.out x))))
      refine wpQuiet_nil ?_
      rintro w13 ⟨x5', hx5⟩
      have hb5 : Hid (Below wr.heap.size wr w13) := by rw [hx5]; exact x5'.bel
      clear hx5 x5'
      go_wp2
      go_roundw
      case rel => exact ⟨j + 1, by omega, by go_num, HBR.out.trans (hb5.out.mono HBR.out.size)⟩
      case measure => simp [intOf]; omega
    · obtain rfl : j = s.Oil.length := by omega
      have HBR : Hid (Below w.heap.size w wr) := HB9.out.trans (hb.mono HB9.out.size)
      clear hb
      go_wp2_with fail
      refine (sane.out _ HBR.out).mono ?_
      rintro e w14 ⟨rfl, hb14⟩
      go_wp2
      go_ret
      exact ⟨rfl, hb14⟩
end Go.Proofs.Ytnafllhgjidbkaa

namespace Go.Proofs.Ytnafllhgjidbkaa
open Go.RowKit Go.Shelf
set_option linter.unusedVariables false
set_option linter.unusedSimpArgs false

theorem slks_two {w : World} {ao bo : Option Addr} {c d : Nat} {s t : Slk} (hi : IntsAt w ao s.Oil) (ht : IntsAt w bo t.Oil) (hn : s.Oil.length < 1152921504606846976) (hm : t.Oil.length < 1152921504606846976) :
    SlksAt (w.alloc (.cells #[.int .i64 s.K, .slice ao s.Oil.length c, .int .i64 s.Away, .int .i64 t.K, .slice bo t.Oil.length d, .int .i64 t.Away] 28)) (some ⟨w.heap.size, 0, none⟩) [s, t] := by
  intro k hk
  have hh := World.alloc_heap_new w (.cells #[.int .i64 s.K, .slice ao s.Oil.length c, .int .i64 s.Away, .int .i64 t.K, .slice bo t.Oil.length d, .int .i64 t.Away] 28)
  have hb := (Below.refl w.heap.size w).alloc (Nat.le_refl _) (.cells #[.int .i64 s.K, .slice ao s.Oil.length c, .int .i64 s.Away, .int .i64 t.K, .slice bo t.Oil.length d, .int .i64 t.Away] 28)
  have : k = 0 ∨ k = 1 := by have : k < 2 := hk; omega
  rcases this with rfl | rfl
  · exact ⟨w.heap.size, 0, ao, c, rfl, by simp, cell_of_heap hh 0, cell_of_heap hh 1, cell_of_heap hh 2, hi.below (Nat.le_refl _) hb, hn⟩
  · exact ⟨w.heap.size, 0, bo, d, rfl, by simp, cell_of_heap hh 3, cell_of_heap hh 4, cell_of_heap hh 5, ht.below (Nat.le_refl _) hb, hm⟩
theorem askE_two (B : Bay) (s t : Slk) : askE B [s, t] = if validB B = true then (if fitsB B s = true ∧ fitsB B t = true then 0 else 21) else 20 := by
  unfold askE
  split
  · have : allFitB B [s, t] = decide (fitsB B s = true ∧ fitsB B t = true) := by
      unfold allFitB allFit
      have : (∀ k, k < [s, t].length → fitsB B ([s, t].getD k ⟨0, [], 0⟩) = true) ↔ (fitsB B s = true ∧ fitsB B t = true) := by
        constructor
        · intro h; exact ⟨h 0 (by simp), h 1 (by simp)⟩
        · intro h k hk
          have : k = 0 ∨ k = 1 := by have : k < 2 := hk; omega
          rcases this with rfl | rfl
          · exact h.1
          · exact h.2
      simp only [this]
    rw [this]
    simp
  · rfl
noncomputable def sumE (B : Bay) (s t : Slk) : Int := if validB B = true then (if fitsB B s = true ∧ fitsB B t = true ∧ s.K = t.K ∧ fitsB B (addS s t) = true then 0 else 21) else 20
noncomputable def sumS (B : Bay) (s t : Slk) : Slk := if sumE B s t = 0 then addS s t else ⟨0, [], 0⟩
end Go.Proofs.Ytnafllhgjidbkaa

/- The reference's sum of two slicks. -/
namespace Go.Proofs.Ytnafllhgjidbkaa
open Go.RowKit
set_option linter.unusedVariables false
set_option linter.unusedSimpArgs false
theorem ren_shares (R : Rn) (l : List Five) : seqO ((shareC l).map (C.ren R)) = some (shareC l) := seqO_fix fun c hc => by
  obtain ⟨j, _, hc⟩ := List.mem_flatMap.1 hc
  simp only [fiveC, List.mem_cons, List.not_mem_nil, or_false] at hc
  rcases hc with rfl | rfl | rfl | rfl | rfl <;> rfl
theorem find_take {L : List E} {l : Nat} {k : Kd} {xs : List Int} {n : Nat} (hn : n = xs.length) (h : find L l = some ⟨l, k, (xs.take n).map C.i⟩) : find L l = some ⟨l, k, xs.map C.i⟩ := by
  subst hn; rwa [List.take_length] at h
theorem take_more {l : List Int} {k : Nat} {x : Int} (h : k < l.length) (hx : l.getD k 0 = x) : (l.take k).map C.i ++ [C.i x] = (l.take (k + 1)).map C.i := by
  rw [List.take_add_one, List.map_append, ← hx]
  simp [List.getD_eq_getElem?_getD, h]
theorem rsE_bay {B : Bay} {s t : Slk} (h : validB B = false) : sumE B s t = 20 := by unfold sumE; rw [h]; rfl
theorem rsE_no {B : Bay} {s t : Slk} (h : validB B = true) (hn : ¬ (fitsB B s = true ∧ fitsB B t = true ∧ s.K = t.K ∧ fitsB B (addS s t) = true)) : sumE B s t = 21 := by unfold sumE; rw [if_pos h, if_neg hn]
theorem rsE_ok {B : Bay} {s t : Slk} (h : validB B = true) (hn : fitsB B s = true ∧ fitsB B t = true ∧ s.K = t.K ∧ fitsB B (addS s t) = true) : sumE B s t = 0 := by unfold sumE; rw [if_pos h, if_pos hn]
theorem rsS_no {B : Bay} {s t : Slk} (h : sumE B s t ≠ 0) : sumS B s t = ⟨0, [], 0⟩ := by unfold sumS; rw [if_neg h]
theorem rsS_ok {B : Bay} {s t : Slk} (h : sumE B s t = 0) : sumS B s t = addS s t := by unfold sumS; rw [if_pos h]
def slkQ (S : Slk) (Er : Int) (v : V) (L' : List E) : Prop :=
  ∃ o : C, v = V.tup [A.agg [C.i S.K, o, C.i S.Away], A.c (C.i Er)] ∧ ((o = C.nil ∧ S.Oil = []) ∨ ∃ l, o = C.sl l S.Oil.length ∧ find L' l = some ⟨l, .vec 3 1, S.Oil.map C.i⟩)
theorem slkQ_zero {S : Slk} {Er : Int} {L' : List E} (h : S = ⟨0, [], 0⟩) : slkQ S Er (V.tup [A.agg [C.i 0, C.nil, C.i 0], A.c (C.i Er)]) L' := by
  subst h; exact ⟨C.nil, rfl, .inl ⟨rfl, rfl⟩⟩
set_option maxRecDepth 100000 in
theorem rsum_spec (B : Bay) (s t : Slk) (hll : B.Land.length ≤ 100) (hsl : B.Share.length ≤ 100) (hsn : s.Oil.length < 1152921504606846976) (htn : t.Oil.length < 1152921504606846976) :
    Spec Try.prog 41 [V.agg [C.i B.W, C.i B.H, C.sl 0 B.Land.length, C.sl 1 B.Share.length], V.agg [C.i s.K, C.sl 2 s.Oil.length, C.i s.Away], V.agg [C.i t.K, C.sl 3 t.Oil.length, C.i t.Away]]
      [⟨0, .ro 0, B.Land.map C.bool⟩, ⟨1, .ro 0, shareC B.Share⟩, ⟨2, .ro 0, s.Oil.map C.i⟩, ⟨3, .ro 0, t.Oil.map C.i⟩] 4
      (fun v L' _ => slkQ (sumS B s t) (sumE B s t) v L') := by
  cases hval : validB B
  · have hE := rsE_bay (s := s) (t := t) hval
    have hS := rsS_no (B := B) (s := s) (t := t) (by rw [hE]; decide)
    have hb : (!validB B) = true := by rw [hval]; rfl
    rw [hE]
    refine Spec.of tok Try.func41 rfl rfl rfl fun n0 => vc_ok tok ?_
    repeat ((conv => whnf); first
        | (refine And.intro (by first | omega | exact Nat.le_of_ble_eq_true rfl | (dsimp only [inK]; omega) | (simp only [mulS_eq]; omega) | (simp only [mulS_eq, setL_length]; omega) | (simp only [setL_length, List.length_map]; omega) | exact ⟨by omega, by omega, by first | exact Nat.le_of_ble_eq_true rfl | (dsimp only; omega) | (simp only [setL_length]; omega) | (simp only [setL_length, List.length_map]; omega)⟩ | exact ⟨by omega, by first | rfl | omega, by omega, Nat.le_of_ble_eq_true rfl, Nat.le_of_ble_eq_true rfl⟩ | exact ⟨rfl, rfl, rfl, Nat.le_of_ble_eq_true rfl, by first | rfl | omega | exact Nat.le_of_ble_eq_true rfl | (simp; done) | (simp; omega), by first | rfl | omega | exact Nat.le_of_ble_eq_true rfl | (simp; done) | (simp; omega), by omega, Nat.le_of_ble_eq_true rfl⟩ | exact Eq.refl true) ?_)
        | (refine Exists.intro _ (And.intro rfl ?_))
        | (refine And.intro (And.intro rfl (chk_rowI _ _ _ _)) ?_)
        | (refine br_t (by omega) ?_)
        | (refine br_f (by omega) ?_)
        | (refine bs_t (by omega) ?_)
        | (refine bs_f (by omega) ?_)
        | (refine fun (K' : K3) hK' => ?_)
        | (refine hK' _ _ _ ?_; clear hK' K')
        | (refine draw_auto tok mixed (by kernel_rfl) ?_)
        | (refine rvalid_k hll hsl rfl rfl ?_)
        | (refine br_bt hb ?_)
        | (refine And.intro (And.intro rfl rfl) ?_))
    exact slkQ_zero hS
  have hb : (!validB B) = false := by rw [hval]; rfl
  have hvp : validP B := by simpa [validB] using hval
  have refuse : ¬ (fitsB B s = true ∧ fitsB B t = true ∧ s.K = t.K ∧ fitsB B (addS s t) = true) → sumE B s t = 21 ∧ sumS B s t = ⟨0, [], 0⟩ := fun h => ⟨rsE_no hval h, rsS_no (by rw [rsE_no hval h]; decide)⟩
  cases hfs : fitsB B s
  · obtain ⟨hE, hS⟩ := refuse (by simp [hfs])
    have hb1 : (!fitsB B s) = true := by rw [hfs]; rfl
    rw [hE]
    refine Spec.of tok Try.func41 rfl rfl rfl fun n0 => vc_ok tok ?_
    repeat ((conv => whnf); first
        | (refine And.intro (by first | omega | exact Nat.le_of_ble_eq_true rfl | (dsimp only [inK]; omega) | (simp only [mulS_eq]; omega) | (simp only [mulS_eq, setL_length]; omega) | (simp only [setL_length, List.length_map]; omega) | exact ⟨by omega, by omega, by first | exact Nat.le_of_ble_eq_true rfl | (dsimp only; omega) | (simp only [setL_length]; omega) | (simp only [setL_length, List.length_map]; omega)⟩ | exact ⟨by omega, by first | rfl | omega, by omega, Nat.le_of_ble_eq_true rfl, Nat.le_of_ble_eq_true rfl⟩ | exact ⟨rfl, rfl, rfl, Nat.le_of_ble_eq_true rfl, by first | rfl | omega | exact Nat.le_of_ble_eq_true rfl | (simp; done) | (simp; omega), by first | rfl | omega | exact Nat.le_of_ble_eq_true rfl | (simp; done) | (simp; omega), by omega, Nat.le_of_ble_eq_true rfl⟩ | exact Eq.refl true) ?_)
        | (refine Exists.intro _ (And.intro rfl ?_))
        | (refine And.intro (And.intro rfl (chk_rowI _ _ _ _)) ?_)
        | (refine br_t (by omega) ?_)
        | (refine br_f (by omega) ?_)
        | (refine bs_t (by omega) ?_)
        | (refine bs_f (by omega) ?_)
        | (refine fun (K' : K3) hK' => ?_)
        | (refine hK' _ _ _ ?_; clear hK' K')
        | (refine draw_auto tok mixed (by kernel_rfl) ?_)
        | (refine rvalid_k hll hsl rfl rfl ?_)
        | (refine br_bf hb ?_)
        | (refine is_k (s := s) hvp hll hsl hsn rfl rfl rfl ?_)
        | (refine br_bt hb1 ?_)
        | (refine bs_bt hb1 ?_)
        | (refine And.intro (And.intro rfl rfl) ?_))
    exact slkQ_zero hS
  have hb1 : (!fitsB B s) = false := by rw [hfs]; rfl
  cases hft : fitsB B t
  · obtain ⟨hE, hS⟩ := refuse (by simp [hft])
    have hb2 : (!fitsB B t) = true := by rw [hft]; rfl
    rw [hE]
    refine Spec.of tok Try.func41 rfl rfl rfl fun n0 => vc_ok tok ?_
    repeat ((conv => whnf); first
        | (refine And.intro (by first | omega | exact Nat.le_of_ble_eq_true rfl | (dsimp only [inK]; omega) | (simp only [mulS_eq]; omega) | (simp only [mulS_eq, setL_length]; omega) | (simp only [setL_length, List.length_map]; omega) | exact ⟨by omega, by omega, by first | exact Nat.le_of_ble_eq_true rfl | (dsimp only; omega) | (simp only [setL_length]; omega) | (simp only [setL_length, List.length_map]; omega)⟩ | exact ⟨by omega, by first | rfl | omega, by omega, Nat.le_of_ble_eq_true rfl, Nat.le_of_ble_eq_true rfl⟩ | exact ⟨rfl, rfl, rfl, Nat.le_of_ble_eq_true rfl, by first | rfl | omega | exact Nat.le_of_ble_eq_true rfl | (simp; done) | (simp; omega), by first | rfl | omega | exact Nat.le_of_ble_eq_true rfl | (simp; done) | (simp; omega), by omega, Nat.le_of_ble_eq_true rfl⟩ | exact Eq.refl true) ?_)
        | (refine Exists.intro _ (And.intro rfl ?_))
        | (refine And.intro (And.intro rfl (chk_rowI _ _ _ _)) ?_)
        | (refine br_t (by omega) ?_)
        | (refine br_f (by omega) ?_)
        | (refine bs_t (by omega) ?_)
        | (refine bs_f (by omega) ?_)
        | (refine fun (K' : K3) hK' => ?_)
        | (refine hK' _ _ _ ?_; clear hK' K')
        | (refine draw_auto tok mixed (by kernel_rfl) ?_)
        | (refine rvalid_k hll hsl rfl rfl ?_)
        | (refine br_bf hb ?_)
        | (refine is_k (s := s) hvp hll hsl hsn rfl rfl rfl ?_)
        | (refine is_k (s := t) hvp hll hsl htn rfl rfl rfl ?_)
        | (refine br_bf hb1 ?_)
        | (refine bs_bf hb1 ?_)
        | (refine br_bt hb2 ?_)
        | (refine bs_bt hb2 ?_)
        | (refine And.intro (And.intro rfl rfl) ?_))
    exact slkQ_zero hS
  have hb2 : (!fitsB B t) = false := by rw [hft]; rfl
  by_cases hk : s.K = t.K
  case neg =>
    obtain ⟨hE, hS⟩ := refuse (by simp [hk])
    rw [hE]
    refine Spec.of tok Try.func41 rfl rfl rfl fun n0 => vc_ok tok ?_
    repeat ((conv => whnf); first
        | (refine And.intro (by first | omega | exact Nat.le_of_ble_eq_true rfl | (dsimp only [inK]; omega) | (simp only [mulS_eq]; omega) | (simp only [mulS_eq, setL_length]; omega) | (simp only [setL_length, List.length_map]; omega) | exact ⟨by omega, by omega, by first | exact Nat.le_of_ble_eq_true rfl | (dsimp only; omega) | (simp only [setL_length]; omega) | (simp only [setL_length, List.length_map]; omega)⟩ | exact ⟨by omega, by first | rfl | omega, by omega, Nat.le_of_ble_eq_true rfl, Nat.le_of_ble_eq_true rfl⟩ | exact ⟨rfl, rfl, rfl, Nat.le_of_ble_eq_true rfl, by first | rfl | omega | exact Nat.le_of_ble_eq_true rfl | (simp; done) | (simp; omega), by first | rfl | omega | exact Nat.le_of_ble_eq_true rfl | (simp; done) | (simp; omega), by omega, Nat.le_of_ble_eq_true rfl⟩ | exact Eq.refl true) ?_)
        | (refine Exists.intro _ (And.intro rfl ?_))
        | (refine And.intro (And.intro rfl (chk_rowI _ _ _ _)) ?_)
        | (refine br_t (by omega) ?_)
        | (refine br_f (by omega) ?_)
        | (refine bs_t (by omega) ?_)
        | (refine bs_f (by omega) ?_)
        | (refine fun (K' : K3) hK' => ?_)
        | (refine hK' _ _ _ ?_; clear hK' K')
        | (refine draw_auto tok mixed (by kernel_rfl) ?_)
        | (refine rvalid_k hll hsl rfl rfl ?_)
        | (refine br_bf hb ?_)
        | (refine is_k (s := s) hvp hll hsl hsn rfl rfl rfl ?_)
        | (refine is_k (s := t) hvp hll hsl htn rfl rfl rfl ?_)
        | (refine br_bf hb1 ?_)
        | (refine bs_bf hb1 ?_)
        | (refine br_bf hb2 ?_)
        | (refine bs_bf hb2 ?_)
        | (refine And.intro (And.intro rfl rfl) ?_))
    exact slkQ_zero hS
  have fs := fitsB_iff.1 hfs
  have ft := fitsB_iff.1 hft
  have hlen : s.Oil.length = t.Oil.length := by have := fs.2.1; have := ft.2.1; omega
  have hal : (addS s t).Oil.length = s.Oil.length := addL_len hlen
  have hp36 := mul36 hvp.1.1 hvp.1.2 hvp.2.1.1 hvp.2.1.2
  have h36 : s.Oil.length ≤ 36 := by have := fs.2.1; omega
  have hrs := amt_range fs.2.2.1
  have hrt := amt_range ft.2.2.1
  have hps := pow_bd s.K fs.1.1 fs.1.2
  have hpt := pow_bd t.K ft.1.1 ft.1.2
  have hls : lim s.K ≤ 37748736000 := by unfold lim; omega
  have hlt : lim t.K ≤ 37748736000 := by unfold lim; omega
  have hss := sum_bd s.Oil hrs
  have hst := sum_bd t.Oil hrt
  have fa := fs.2.2.2
  have ta := ft.2.2.2
  have main : ∀ (S : Slk) (Er : Int), ((fitsB B (addS s t) = true ∧ S = addS s t ∧ Er = 0) ∨ (fitsB B (addS s t) = false ∧ S = ⟨0, [], 0⟩ ∧ Er = 21)) →
      Spec Try.prog 41 [V.agg [C.i B.W, C.i B.H, C.sl 0 B.Land.length, C.sl 1 B.Share.length], V.agg [C.i s.K, C.sl 2 s.Oil.length, C.i s.Away], V.agg [C.i t.K, C.sl 3 t.Oil.length, C.i t.Away]]
      [⟨0, .ro 0, B.Land.map C.bool⟩, ⟨1, .ro 0, shareC B.Share⟩, ⟨2, .ro 0, s.Oil.map C.i⟩, ⟨3, .ro 0, t.Oil.map C.i⟩] 4
      (fun v L' _ => slkQ S Er v L') := by
    intro S Er hSE
    refine Spec.of tok Try.func41 rfl rfl rfl fun n0 => vc_ok tok ?_
    repeat ((conv => whnf); first
        | (refine And.intro (by first | omega | exact Nat.le_of_ble_eq_true rfl | (dsimp only [inK]; omega) | (simp only [mulS_eq]; omega) | (simp only [mulS_eq, setL_length]; omega) | (simp only [setL_length, List.length_map]; omega) | exact ⟨by omega, by omega, by first | exact Nat.le_of_ble_eq_true rfl | (dsimp only; omega) | (simp only [setL_length]; omega) | (simp only [setL_length, List.length_map]; omega)⟩ | exact ⟨by omega, by first | rfl | omega, by omega, Nat.le_of_ble_eq_true rfl, Nat.le_of_ble_eq_true rfl⟩ | exact ⟨rfl, rfl, rfl, Nat.le_of_ble_eq_true rfl, by first | rfl | omega | exact Nat.le_of_ble_eq_true rfl | (simp; done) | (simp; omega), by first | rfl | omega | exact Nat.le_of_ble_eq_true rfl | (simp; done) | (simp; omega), by omega, Nat.le_of_ble_eq_true rfl⟩ | exact Eq.refl true) ?_)
        | (refine Exists.intro _ (And.intro rfl ?_))
        | (refine And.intro (And.intro rfl (chk_rowI _ _ _ _)) ?_)
        | (refine br_t (by omega) ?_)
        | (refine br_f (by omega) ?_)
        | (refine bs_t (by omega) ?_)
        | (refine bs_f (by omega) ?_)
        | (refine fun (K' : K3) hK' => ?_)
        | (refine hK' _ _ _ ?_; clear hK' K')
        | (refine draw_auto tok mixed (by kernel_rfl) ?_)
        | (refine rvalid_k hll hsl rfl rfl ?_)
        | (refine br_bf hb ?_)
        | (refine is_k (s := s) hvp hll hsl hsn rfl rfl rfl ?_)
        | (refine is_k (s := t) hvp hll hsl htn rfl rfl rfl ?_)
        | (refine br_bf hb1 ?_)
        | (refine bs_bf hb1 ?_)
        | (refine br_bf hb2 ?_)
        | (refine bs_bf hb2 ?_)
        | (refine And.intro (And.intro rfl rfl) ?_))
    refine Tri.loop (γ := Nat) (fun k => k ≤ s.Oil.length)
      (fun k => [(3, V.c (.ptr 4 0)), (4, V.c (.ptr 5 0)), (5, V.c (.ptr 6 0)), (6, V.c (.ptr 7 0)), (8, V.c (.ptr 8 0)), (9, V.i (k : Int))])
      (fun k => [⟨0, .ro 0, B.Land.map C.bool⟩, ⟨1, .ro 0, shareC B.Share⟩, ⟨2, .ro 0, s.Oil.map C.i⟩, ⟨3, .ro 0, t.Oil.map C.i⟩, ⟨4, .own 25, [C.i B.W, C.i B.H, C.sl 0 B.Land.length, C.sl 1 B.Share.length]⟩, ⟨5, .own 28, [C.i s.K, C.sl 2 s.Oil.length, C.i s.Away]⟩, ⟨6, .own 28, [C.i t.K, C.sl 3 t.Oil.length, C.i t.Away]⟩, ⟨7, .own 28, [C.i 0, C.nil, C.i 0]⟩,
        ⟨8, .own 28, [C.i s.K, C.sl 9 k, C.i (s.Away + t.Away)]⟩, ⟨9, .vec 3 1, ((addS s t).Oil.take k).map C.i⟩]) 10 (fun k => s.Oil.length - k) 0 (R0 := [(9, none)]) ?_ ?_ ?_
    · exact Nat.zero_le _
    · skip
      refine ⟨?_, ?_, rfl, rfl, Nat.le_of_ble_eq_true rfl⟩
      · repeat (first | exact trivial | refine And.intro (covS_syn (by first | rfl) rfl (by first | exact trivial | exact Nat.le_of_ble_eq_true rfl)) ?_ | refine And.intro (covS_bool rfl rfl (by first | rfl)) ?_)
      · repeat (first | exact trivial | refine And.intro (covE_nil rfl (Nat.le_of_ble_eq_true rfl) rfl rfl) ?_ | refine And.intro (covE_some rfl (Nat.le_of_ble_eq_true rfl) (by first | exact wf_ints _ _ | exact wf_bools _ _ | exact wf_shares _ _ | simp [C.wf]) rfl (by first | exact ren_ints _ _ | exact ren_bools _ _ | exact ren_shares _ _ | (refine (ren_ints _ _).trans (congrArg some ?_); fail) | rfl)) ?_)
    · rintro k hk
      refine vc_ok tok ?_
      by_cases hlt : k < s.Oil.length
      · have hr1 := hrs k hlt
        have hr2 := hrt k (by omega)
        repeat ((conv => whnf); first
            | (refine And.intro (by first | omega | exact Nat.le_of_ble_eq_true rfl | (dsimp only [inK]; omega) | (simp only [mulS_eq]; omega) | (simp only [mulS_eq, setL_length]; omega) | (simp only [setL_length, List.length_map]; omega) | exact ⟨by omega, by omega, by first | exact Nat.le_of_ble_eq_true rfl | (dsimp only; omega) | (simp only [setL_length]; omega) | (simp only [setL_length, List.length_map]; omega)⟩ | exact ⟨by omega, by first | rfl | omega, by omega, Nat.le_of_ble_eq_true rfl, Nat.le_of_ble_eq_true rfl⟩ | exact ⟨rfl, rfl, rfl, Nat.le_of_ble_eq_true rfl, by first | rfl | omega | exact Nat.le_of_ble_eq_true rfl | (simp; done) | (simp; omega), by first | rfl | omega | exact Nat.le_of_ble_eq_true rfl | (simp; done) | (simp; omega), by omega, Nat.le_of_ble_eq_true rfl⟩ | exact Eq.refl true) ?_)
            | (with_reducible refine ld (intL hlt) ?_)
            | (with_reducible refine ld (intL (l := t.Oil) (by omega)) ?_)
            | (refine Exists.intro _ (And.intro rfl ?_))
            | (refine And.intro (And.intro rfl (chk_rowI _ _ _ _)) ?_)
            | (refine br_t (by omega) ?_)
            | (refine br_f (by omega) ?_)
            | (refine bs_t (by omega) ?_)
            | (refine bs_f (by omega) ?_)
            | (refine fun (K' : K3) hK' => ?_)
            | (refine hK' _ _ _ ?_; clear hK' K')
            | (refine draw_auto tok mixed (by kernel_rfl) ?_)
            | (refine And.intro (And.intro rfl rfl) ?_))
        have htm : ((addS s t).Oil.take k).map C.i ++ [C.i (s.Oil.getD k 0 + t.Oil.getD k 0)] = ((addS s t).Oil.take (k + 1)).map C.i := take_more (by omega) (addL_get hlen k)
        refine ⟨k + 1, [(9, some 11)], by omega, by omega, ?_⟩
        refine ⟨?_, ?_, rfl, rfl, Nat.le_of_ble_eq_true rfl⟩
        · repeat (first | exact trivial | refine And.intro (covS_syn (by first | rfl) rfl (by first | exact trivial | exact Nat.le_of_ble_eq_true rfl)) ?_ | refine And.intro (covS_bool rfl rfl (by first | rfl)) ?_)
        · repeat (first | exact trivial | refine And.intro (covE_nil rfl (Nat.le_of_ble_eq_true rfl) rfl rfl) ?_ | refine And.intro (covE_some rfl (Nat.le_of_ble_eq_true rfl) (by first | exact wf_ints _ _ | exact wf_bools _ _ | exact wf_shares _ _ | simp [C.wf]) rfl (by first | exact ren_ints _ _ | exact ren_bools _ _ | exact ren_shares _ _ | (refine (ren_ints _ _).trans (congrArg some ?_); exact htm.symm) | rfl)) ?_)
      · obtain rfl : k = (addS s t).Oil.length := by omega
        have hlt : ¬ (((addS s t).Oil.length : Int) < (s.Oil.length : Int)) := by omega
        rcases hSE with ⟨hf, rfl, rfl⟩ | ⟨hf, rfl, rfl⟩
        · have hb3 : (!fitsB B (addS s t)) = false := by rw [hf]; rfl
          repeat ((conv => whnf); first
              | (refine And.intro (by first | omega | exact Nat.le_of_ble_eq_true rfl | (dsimp only [inK]; omega) | (simp only [mulS_eq]; omega) | (simp only [mulS_eq, setL_length]; omega) | (simp only [setL_length, List.length_map]; omega) | exact ⟨by omega, by omega, by first | exact Nat.le_of_ble_eq_true rfl | (dsimp only; omega) | (simp only [setL_length]; omega) | (simp only [setL_length, List.length_map]; omega)⟩ | exact ⟨by omega, by first | rfl | omega, by omega, Nat.le_of_ble_eq_true rfl, Nat.le_of_ble_eq_true rfl⟩ | exact ⟨rfl, rfl, rfl, Nat.le_of_ble_eq_true rfl, by first | rfl | omega | exact Nat.le_of_ble_eq_true rfl | (simp; done) | (simp; omega), by first | rfl | omega | exact Nat.le_of_ble_eq_true rfl | (simp; done) | (simp; omega), by omega, Nat.le_of_ble_eq_true rfl⟩ | exact Eq.refl true) ?_)
              | (refine Exists.intro _ (And.intro rfl ?_))
              | (refine And.intro (And.intro rfl (chk_rowI _ _ _ _)) ?_)
              | (refine br_t (by omega) ?_)
              | (refine br_f (by omega) ?_)
              | (refine bs_t (by omega) ?_)
              | (refine bs_f (by omega) ?_)
              | (refine fun (K' : K3) hK' => ?_)
              | (refine hK' _ _ _ ?_; clear hK' K')
              | (refine draw_auto tok mixed (by kernel_rfl) ?_)
              | (refine is_k (s := addS s t) hvp hll hsl (by omega) rfl rfl (find_take rfl rfl) ?_)
              | (refine br_bf hb3 ?_)
              | (refine And.intro (And.intro rfl rfl) ?_))
          exact .inr ⟨9, rfl, find_take rfl rfl⟩
        · have hb3 : (!fitsB B (addS s t)) = true := by rw [hf]; rfl
          repeat ((conv => whnf); first
              | (refine And.intro (by first | omega | exact Nat.le_of_ble_eq_true rfl | (dsimp only [inK]; omega) | (simp only [mulS_eq]; omega) | (simp only [mulS_eq, setL_length]; omega) | (simp only [setL_length, List.length_map]; omega) | exact ⟨by omega, by omega, by first | exact Nat.le_of_ble_eq_true rfl | (dsimp only; omega) | (simp only [setL_length]; omega) | (simp only [setL_length, List.length_map]; omega)⟩ | exact ⟨by omega, by first | rfl | omega, by omega, Nat.le_of_ble_eq_true rfl, Nat.le_of_ble_eq_true rfl⟩ | exact ⟨rfl, rfl, rfl, Nat.le_of_ble_eq_true rfl, by first | rfl | omega | exact Nat.le_of_ble_eq_true rfl | (simp; done) | (simp; omega), by first | rfl | omega | exact Nat.le_of_ble_eq_true rfl | (simp; done) | (simp; omega), by omega, Nat.le_of_ble_eq_true rfl⟩ | exact Eq.refl true) ?_)
              | (refine Exists.intro _ (And.intro rfl ?_))
              | (refine And.intro (And.intro rfl (chk_rowI _ _ _ _)) ?_)
              | (refine br_t (by omega) ?_)
              | (refine br_f (by omega) ?_)
              | (refine bs_t (by omega) ?_)
              | (refine bs_f (by omega) ?_)
              | (refine fun (K' : K3) hK' => ?_)
              | (refine hK' _ _ _ ?_; clear hK' K')
              | (refine draw_auto tok mixed (by kernel_rfl) ?_)
              | (refine is_k (s := addS s t) hvp hll hsl (by omega) rfl rfl (find_take rfl rfl) ?_)
              | (refine br_bt hb3 ?_)
              | (refine And.intro (And.intro rfl rfl) ?_))
          exact .inl ⟨rfl, rfl⟩
  cases hfa : fitsB B (addS s t)
  · obtain ⟨hE, hS⟩ := refuse (by simp [hfa])
    rw [hE, hS]
    exact main _ _ (.inr ⟨hfa, rfl, rfl⟩)
  · have hE := rsE_ok hval ⟨hfs, hft, hk, hfa⟩
    rw [hE, rsS_ok hE]
    exact main _ _ (.inl ⟨hfa, rfl, rfl⟩)
theorem Aft3_of {w w' : World} {n0 nx : Nat} {ρ : Env} {S : Slk} {Er : Int} {v : V} {L : List E} (hq : slkQ S Er v L) (hp : Hp n0 ρ w' L nx) (h0 : w.heap.size ≤ n0) (hn : S.Oil.length < 1152921504606846976) (hb : Below w.heap.size w w') : Aft3 w S Er (.returned (v.den ρ)) w' := by
  obtain ⟨o, rfl, ⟨rfl, h⟩ | ⟨l, rfl, hf⟩⟩ := hq
  · refine ⟨.agg #[.int .i64 S.K, .slice none 0 0, .int .i64 S.Away], rfl, ⟨none, 0, by rw [h]; rfl, ?_, hn, by simp⟩, hb⟩
    intro hc; rw [h] at hc; exact absurd rfl hc
  · obtain ⟨g1, g2⟩ := hp.row hf
    rw [den_ints] at g1
    exact ⟨_, rfl, ⟨(ρ l).1, (ρ l).2, rfl, g1, hn, fun a ha => Nat.le_trans h0 (g2 rfl a ha)⟩, hb⟩
theorem sumS_len {B : Bay} {s t : Slk} (hsn : s.Oil.length < 1152921504606846976) : (sumS B s t).Oil.length < 1152921504606846976 := by
  unfold sumS
  split
  · show (List.zipWith _ _ _).length < _
    rw [List.length_zipWith]; omega
  · simp
theorem rsum_any (v sv tv : Value) (B : Bay) (s t : Slk) (w : World) (hv : BayAt w v B) (hs : SlkAt w sv s) (ht : SlkAt w tv t) :
    Calls Try.prog 41 #[v, sv, tv] w (Aft3 w (sumS B s t) (sumE B s t)) := by
  obtain ⟨la, lc, sa, sc, rfl, hl, hsh, hll, hsl⟩ := hv
  obtain ⟨ao, c, rfl, hi, hn⟩ := hs
  obtain ⟨bo, d, rfl, hj, hm⟩ := ht
  let ρ : Env := fun l => match l with | 0 => (la, lc) | 1 => (sa, sc) | 2 => (ao, c) | _ => (bo, d)
  have hp : Hp w.heap.size ρ w [⟨0, .ro 0, B.Land.map C.bool⟩, ⟨1, .ro 0, shareC B.Share⟩, ⟨2, .ro 0, s.Oil.map C.i⟩, ⟨3, .ro 0, t.Oil.map C.i⟩] 4 := by
    refine Hp.ros (fun e he => ?_) rfl
    simp only [List.mem_cons, List.not_mem_nil, or_false] at he
    rcases he with rfl | rfl | rfl | rfl
    · exact ⟨rfl, by simp, wf_bools _ _, by rw [den_bools]; exact hl⟩
    · exact ⟨rfl, by simp, wf_shares _ _, by rw [den_shares]; exact hsh⟩
    · exact ⟨rfl, by simp, wf_ints _ _, by rw [den_ints]; exact hi⟩
    · exact ⟨rfl, by simp, wf_ints _ _, by rw [den_ints]; exact hj⟩
  have h := rsum_spec B s t hll hsl hn hm ρ w hp (by
    intro v hv
    simp only [List.mem_cons, List.not_mem_nil, or_false] at hv
    rcases hv with rfl | rfl | rfl <;> simp [V.wf, A.wf, C.wf, C.i])
  refine (show Calls Try.prog 41 #[.agg #[.int .i64 B.W, .int .i64 B.H, .slice la B.Land.length lc, .slice sa B.Share.length sc], .agg #[.int .i64 s.K, .slice ao s.Oil.length c, .int .i64 s.Away], .agg #[.int .i64 t.K, .slice bo t.Oil.length d, .int .i64 t.Away]] w _ from h).mono ?_
  rintro e w' ⟨v, ρ', L', nx', rfl, h1, h2, h3, h4, h5, hq⟩
  exact Aft3_of hq h5 (Nat.le_refl _) (sumS_len hn) h4
end Go.Proofs.Ytnafllhgjidbkaa

/- Prices: which lists are prices, and what a slick costs. -/
namespace Go.Proofs.Ytnafllhgjidbkaa
open Go.RowKit Go.Shelf
set_option linter.unusedVariables false
set_option linter.unusedSimpArgs false
def priceP (B : Bay) (l : List Int) : Prop := (l.length : Int) = B.W * B.H + 1 ∧ amtB l 1000 = true
open Classical in
noncomputable def priceB (B : Bay) (l : List Int) : Bool := decide (priceP B l)
theorem priceB_true {B : Bay} {l : List Int} (h : priceP B l) : priceB B l = true := by simp [priceB, h]
theorem priceB_false {B : Bay} {l : List Int} (h : ¬ priceP B l) : priceB B l = false := by simp [priceB, h]
def dotR (a b : List Int) (k : Nat) : Int := sumR k (fun i => a.getD i 0 * b.getD i 0)
def costZ (s : Slk) (l : List Int) : Int := s.Away * l.getD s.Oil.length 0 + dotR s.Oil l s.Oil.length

theorem priced_any (v : Value) (B : Bay) (po : Option Addr) (pc : Nat) (l : List Int) (w : World) (hv : BayAt w v B) (hp : IntsAt w po l) (hn : l.length ≤ 1000) (hval : validP B) :
    Calls Try.prog 78 #[v, .slice po l.length pc] w fun e w' => e = .returned (.bool (priceB B l)) ∧ Below w.heap.size w w' := by
  obtain ⟨la, lc, sa, sc, rfl, hl, hsh, hll, hsl⟩ := hv
  obtain ⟨hp1, hp2⟩ := mul36 hval.1.1 hval.1.2 hval.2.1.1 hval.2.1.2
  have HP := Lib.hid (fun W (h : Below w.heap.size w W) => hp.below (Nat.le_refl _) h)
  clear hl hsh hp hval
  have FF := Lib.hid (one_new (w := w) #[.int .i64 B.W, .int .i64 B.H, .slice la B.Land.length lc, .slice sa B.Share.length sc] 25)
  by_cases hlen : (l.length : Int) = B.W * B.H + 1
  · have hb : ((l.length : Int) == B.W * B.H + 1) = true := by simp [hlen]
    have HA : Hid (priceB B l = amtB l 1000) := by
      unfold Hid
      cases h : amtB l 1000
      · exact priceB_false (fun hh => by have := hh.2; rw [h] at this; cases this)
      · exact priceB_true ⟨hlen, h⟩
    clear hlen
    go_enter Try.func78, Try.ntmps78
    go_wp2_with fail
    generalize hW : (w.alloc _) = W at *
    clear hW
    obtain ⟨f0, f1, f2⟩ := FF.out
    clear FF
    obtain ⟨x0, hx0⟩ : ∃ x : Aft W, x.val = W := ⟨⟨W, Below.refl _ W⟩, rfl⟩
    have F0 : Hid (Below w.heap.size w W) := f0
    have FZ : Hid (W.heap.size = w.heap.size + 1) := f1
    have G0 : Hid (W.heap[w.heap.size]? = some (.cells #[.int .i64 B.W, .int .i64 B.H, .slice la B.Land.length lc, .slice sa B.Share.length sc] 25 (0, 0))) := f2
    have d0_0 : ∀ x : Aft W, x.val.cell? ⟨w.heap.size, 0, none⟩ = some (.int .i64 B.W) := fun x => cell_of_heap (x.heapH f2) 0
    have d0_1 : ∀ x : Aft W, x.val.cell? ⟨w.heap.size, 1, none⟩ = some (.int .i64 B.H) := fun x => cell_of_heap (x.heapH f2) 1
    have d0_2 : ∀ x : Aft W, x.val.cell? ⟨w.heap.size, 2, none⟩ = some (.slice la B.Land.length lc) := fun x => cell_of_heap (x.heapH f2) 2
    have d0_3 : ∀ x : Aft W, x.val.cell? ⟨w.heap.size, 3, none⟩ = some (.slice sa B.Share.length sc) := fun x => cell_of_heap (x.heapH f2) 3
    rw [← hx0]
    clear hx0 f0 f1 f2
    refine (amounts_any po pc l 1000 _ (HP.out _ (Aft.off F0.out x0)) (by omega)).mono ?_
    rintro e w1 ⟨rfl, hb⟩
    obtain ⟨x1, rfl, h0'⟩ := x0.step (hb)
    have h0 := Lib.hid h0'
    clear hb h0'
    go_wp2
    go_ret
    exact ⟨ret_bool HA.out.symm, Aft.off F0.out x1⟩
  · have hb : ((l.length : Int) == B.W * B.H + 1) = false := by simp [hlen]
    have HA := Lib.hid (priceB_false (B := B) (l := l) (fun hh => hlen hh.1))
    clear hlen
    go_enter Try.func78, Try.ntmps78
    go_wp2_with fail
    generalize hW : (w.alloc _) = W at *
    clear hW
    obtain ⟨f0, f1, f2⟩ := FF.out
    clear FF
    obtain ⟨x0, hx0⟩ : ∃ x : Aft W, x.val = W := ⟨⟨W, Below.refl _ W⟩, rfl⟩
    have F0 : Hid (Below w.heap.size w W) := f0
    have FZ : Hid (W.heap.size = w.heap.size + 1) := f1
    have G0 : Hid (W.heap[w.heap.size]? = some (.cells #[.int .i64 B.W, .int .i64 B.H, .slice la B.Land.length lc, .slice sa B.Share.length sc] 25 (0, 0))) := f2
    have d0_0 : ∀ x : Aft W, x.val.cell? ⟨w.heap.size, 0, none⟩ = some (.int .i64 B.W) := fun x => cell_of_heap (x.heapH f2) 0
    have d0_1 : ∀ x : Aft W, x.val.cell? ⟨w.heap.size, 1, none⟩ = some (.int .i64 B.H) := fun x => cell_of_heap (x.heapH f2) 1
    have d0_2 : ∀ x : Aft W, x.val.cell? ⟨w.heap.size, 2, none⟩ = some (.slice la B.Land.length lc) := fun x => cell_of_heap (x.heapH f2) 2
    have d0_3 : ∀ x : Aft W, x.val.cell? ⟨w.heap.size, 3, none⟩ = some (.slice sa B.Share.length sc) := fun x => cell_of_heap (x.heapH f2) 3
    rw [← hx0]
    clear hx0 f0 f1 f2
    go_wp2
    go_ret
    exact ⟨ret_bool HA.out.symm, Aft.off F0.out x0⟩

theorem arePrices_any (v : Value) (B : Bay) (po : Option Addr) (pc : Nat) (l : List Int) (w : World) (hv : BayAt w v B) (hp : IntsAt w po l) (hn : l.length ≤ 1000) (hval : validP B) :
    Calls Try.prog 44 #[v, .slice po l.length pc] w fun e w' => e = .returned (.bool (priceB B l)) ∧ Below w.heap.size w w' := by
  obtain ⟨la, lc, sa, sc, rfl, hl, hsh, hll, hsl⟩ := hv
  obtain ⟨hp1, hp2⟩ := mul36 hval.1.1 hval.1.2 hval.2.1.1 hval.2.1.2
  have HP := Lib.hid (fun W (h : Below w.heap.size w W) => hp.below (Nat.le_refl _) h)
  clear hl hsh hp hval
  have FF := Lib.hid (one_new (w := w) #[.int .i64 B.W, .int .i64 B.H, .slice la B.Land.length lc, .slice sa B.Share.length sc] 25)
  by_cases hlen : (l.length : Int) = B.W * B.H + 1
  · have hb : ((l.length : Int) != B.W * B.H + 1) = false := by simp [hlen]
    have HLEN := Lib.hid hlen
    clear hlen
    go_enter Try.func44, Try.ntmps44
    go_wp2_with fail
    generalize hW : (w.alloc _) = W at *
    clear hW
    obtain ⟨f0, f1, f2⟩ := FF.out
    clear FF
    obtain ⟨x0, hx0⟩ : ∃ x : Aft W, x.val = W := ⟨⟨W, Below.refl _ W⟩, rfl⟩
    have F0 : Hid (Below w.heap.size w W) := f0
    have FZ : Hid (W.heap.size = w.heap.size + 1) := f1
    have G0 : Hid (W.heap[w.heap.size]? = some (.cells #[.int .i64 B.W, .int .i64 B.H, .slice la B.Land.length lc, .slice sa B.Share.length sc] 25 (0, 0))) := f2
    have d0_0 : ∀ x : Aft W, x.val.cell? ⟨w.heap.size, 0, none⟩ = some (.int .i64 B.W) := fun x => cell_of_heap (x.heapH f2) 0
    have d0_1 : ∀ x : Aft W, x.val.cell? ⟨w.heap.size, 1, none⟩ = some (.int .i64 B.H) := fun x => cell_of_heap (x.heapH f2) 1
    have d0_2 : ∀ x : Aft W, x.val.cell? ⟨w.heap.size, 2, none⟩ = some (.slice la B.Land.length lc) := fun x => cell_of_heap (x.heapH f2) 2
    have d0_3 : ∀ x : Aft W, x.val.cell? ⟨w.heap.size, 3, none⟩ = some (.slice sa B.Share.length sc) := fun x => cell_of_heap (x.heapH f2) 3
    rw [← hx0]
    clear hx0 f0 f1 f2
    go_loop [5] (fun i => ∃ k : Nat, k ≤ l.length ∧ i = .int .i64 k ∧ ∀ j, j < k → okB 1000 (l.getD j 0) = true) (fun i => l.length - (intOf i).toNat)
    case atStart => exact ⟨0, Nat.zero_le _, rfl, by intro j hj; omega⟩
    case round =>
      obtain ⟨k, hk, rfl, hall⟩ := hrel
      have HALL := Lib.hid hall
      clear hall
      by_cases hlt : k < l.length
      · obtain ⟨bs, os, rfl, hbs, hcs⟩ := (HP.out _ (Aft.off F0.out x0)).get hlt
        generalize hx : l.getD k 0 = x at hcs
        have HX := Lib.hid hx
        clear hx
        by_cases h0 : x < 0
        · have HA := Lib.hid (priceB_false (B := B) (l := l) (fun hh => by have := okB_iff.1 (amtB_iff.1 hh.2 k hlt); rw [HX.out] at this; omega))
          go_wp2
          go_ret
          exact ⟨ret_bool HA.out.symm, Aft.off F0.out x0⟩
        by_cases h1 : 1000 < x
        · have HA := Lib.hid (priceB_false (B := B) (l := l) (fun hh => by have := okB_iff.1 (amtB_iff.1 hh.2 k hlt); rw [HX.out] at this; omega))
          go_wp2
          go_ret
          exact ⟨ret_bool HA.out.symm, Aft.off F0.out x0⟩
        go_wp2
        go_round
        case rel =>
          refine ⟨k + 1, by omega, by go_num, ?_⟩
          intro j hj
          by_cases hjk : j = k
          · subst hjk; rw [HX.out]; exact okB_iff.2 ⟨by omega, by omega⟩
          · exact HALL.out j (by omega)
        case measure => simp [intOf]; omega
      · have HA := Lib.hid (priceB_true (B := B) (l := l) ⟨HLEN.out, amtB_iff.2 (fun j hj => HALL.out j (by omega))⟩)
        go_wp2
        go_ret
        exact ⟨ret_bool HA.out.symm, Aft.off F0.out x0⟩
  · have hb : ((l.length : Int) != B.W * B.H + 1) = true := by simpa using hlen
    have HA := Lib.hid (priceB_false (B := B) (l := l) (fun hh => hlen hh.1))
    clear hlen
    go_enter Try.func44, Try.ntmps44
    go_wp2_with fail
    generalize hW : (w.alloc _) = W at *
    clear hW
    obtain ⟨f0, f1, f2⟩ := FF.out
    clear FF
    obtain ⟨x0, hx0⟩ : ∃ x : Aft W, x.val = W := ⟨⟨W, Below.refl _ W⟩, rfl⟩
    have F0 : Hid (Below w.heap.size w W) := f0
    have FZ : Hid (W.heap.size = w.heap.size + 1) := f1
    have G0 : Hid (W.heap[w.heap.size]? = some (.cells #[.int .i64 B.W, .int .i64 B.H, .slice la B.Land.length lc, .slice sa B.Share.length sc] 25 (0, 0))) := f2
    have d0_0 : ∀ x : Aft W, x.val.cell? ⟨w.heap.size, 0, none⟩ = some (.int .i64 B.W) := fun x => cell_of_heap (x.heapH f2) 0
    have d0_1 : ∀ x : Aft W, x.val.cell? ⟨w.heap.size, 1, none⟩ = some (.int .i64 B.H) := fun x => cell_of_heap (x.heapH f2) 1
    have d0_2 : ∀ x : Aft W, x.val.cell? ⟨w.heap.size, 2, none⟩ = some (.slice la B.Land.length lc) := fun x => cell_of_heap (x.heapH f2) 2
    have d0_3 : ∀ x : Aft W, x.val.cell? ⟨w.heap.size, 3, none⟩ = some (.slice sa B.Share.length sc) := fun x => cell_of_heap (x.heapH f2) 3
    rw [← hx0]
    clear hx0 f0 f1 f2
    go_wp2
    go_ret
    exact ⟨ret_bool HA.out.symm, Aft.off F0.out x0⟩

theorem dotR_succ (a b : List Int) (k : Nat) : dotR a b (k + 1) = dotR a b k + a.getD k 0 * b.getD k 0 := sumR_succ _ _
set_option maxHeartbeats 400000 in
theorem Priced_any (ao po : Option Addr) (c pc : Nat) (s : Slk) (l : List Int) (w : World) (hi : IntsAt w ao s.Oil) (hp : IntsAt w po l) (hn : l.length = s.Oil.length + 1) (h100 : s.Oil.length ≤ 100)
    (hA : 0 ≤ s.Away * l.getD s.Oil.length 0 ∧ s.Away * l.getD s.Oil.length 0 ≤ 10000000000000000) (hO : ∀ k, k < s.Oil.length → 0 ≤ s.Oil.getD k 0 * l.getD k 0 ∧ s.Oil.getD k 0 * l.getD k 0 ≤ 10000000000000000) :
    Calls Try.prog 47 #[.agg #[.int .i64 s.K, .slice ao s.Oil.length c, .int .i64 s.Away], .slice po l.length pc] w fun e w' => e = .returned (.int .i64 (costZ s l)) ∧ Below w.heap.size w w' := by
  have HI := Lib.hid (fun W (h : Below w.heap.size w W) => hi.below (Nat.le_refl _) h)
  obtain ⟨bq, oq, rfl, hbq, hcq⟩ := hp.get (show s.Oil.length < l.length by omega)
  have HPA : Hid (∀ W, Below w.heap.size w W → ∀ k, k < l.length → W.cell? ⟨bq, oq + k, none⟩ = some (.int .i64 (l.getD k 0))) := fun W h k hk => by
    obtain ⟨b', o', e, _, hc⟩ := (hp.below (Nat.le_refl _) h).get hk; cases e; exact hc
  have hq0 : (s.Oil.length : Int) < l.length := by omega
  have HO := Lib.hid hO
  have HN := Lib.hid hn
  clear hO hn
  clear hi hp hcq
  have hc := fun (W : World) h => HPA.out W h s.Oil.length (by omega)
  have HC : Hid (costZ s l = s.Away * l.getD s.Oil.length 0 + dotR s.Oil l s.Oil.length) := rfl
  generalize costZ s l = CC at *
  generalize hln : l.getD s.Oil.length 0 = p at *
  have HLN := Lib.hid hln
  have HCW := Lib.hid hc
  clear hln hc
  have FF := Lib.hid (one_new (w := w) #[.int .i64 s.K, .slice ao s.Oil.length c, .int .i64 s.Away] 28)
  go_enter Try.func47, Try.ntmps47
  go_wp2_with fail
  generalize hW : (w.alloc _) = W at *
  clear hW
  obtain ⟨f0, f1, f2⟩ := FF.out
  clear FF
  obtain ⟨x0, hx0⟩ : ∃ x : Aft W, x.val = W := ⟨⟨W, Below.refl _ W⟩, rfl⟩
  have F0 : Hid (Below w.heap.size w W) := f0
  have FZ : Hid (W.heap.size = w.heap.size + 1) := f1
  have G0 : Hid (W.heap[w.heap.size]? = some (.cells #[.int .i64 s.K, .slice ao s.Oil.length c, .int .i64 s.Away] 28 (0, 0))) := f2
  have d0_0 : ∀ x : Aft W, x.val.cell? ⟨w.heap.size, 0, none⟩ = some (.int .i64 s.K) := fun x => cell_of_heap (x.heapH f2) 0
  have d0_1 : ∀ x : Aft W, x.val.cell? ⟨w.heap.size, 1, none⟩ = some (.slice ao s.Oil.length c) := fun x => cell_of_heap (x.heapH f2) 1
  have d0_2 : ∀ x : Aft W, x.val.cell? ⟨w.heap.size, 2, none⟩ = some (.int .i64 s.Away) := fun x => cell_of_heap (x.heapH f2) 2
  rw [← hx0]
  clear hx0 f0 f1 f2
  have hc : ∀ x : Aft W, x.val.cell? ⟨bq, oq + s.Oil.length, none⟩ = some (.int .i64 p) := fun x => HCW.out _ (Aft.off F0.out x)
  refine wp_region_aftW x0 (by kernel_rfl) (by kernel_rfl) ?_
  repeat (go_big_quiet_step (fail))
  refine wpQuiet_nil ?_
  rintro _ ⟨x1, rfl⟩
  go_wp2_with fail
  clear hc
  have hw : IntKind.i64.wrap (s.Away * p) = s.Away * p := IntWalk.i64_in _ (by omega)
  try rw [hw]
  clear hw
  generalize s.Away * p = a0 at *
  go_loopw [5, 6] (fun t i wr => ∃ (k : Nat) (x : Aft W), wr = x.val ∧ k ≤ s.Oil.length ∧ i = .int .i64 k ∧ t = .int .i64 (a0 + dotR s.Oil l k) ∧ 0 ≤ dotR s.Oil l k ∧ dotR s.Oil l k ≤ k * 10000000000000000) (fun _ i _ => s.Oil.length - (intOf i).toNat)
  case atStart => exact ⟨0, x1, rfl, Nat.zero_le _, rfl, by simp [dotR, sumR_zero], by simp [dotR, sumR_zero], by simp [dotR, sumR_zero]⟩
  case round =>
    obtain ⟨k, x2, rfl, hk, rfl, rfl, hs0, hs1⟩ := hrel
    by_cases hlt : k < s.Oil.length
    · have hkl : (k : Int) < l.length := by omega
      obtain ⟨bs, os, rfl, hbs, hcs⟩ := (HI.out _ (Aft.off F0.out x2)).get hlt
      have hc1 : ∀ x : Aft W, x.val.cell? ⟨bs, os + k, none⟩ = some (.int .i64 (s.Oil.getD k 0)) := fun x => by
        obtain ⟨b', o', e, _, hc⟩ := (HI.out _ (Aft.off F0.out x)).get hlt; cases e; exact hc
      have hc2 : ∀ x : Aft W, x.val.cell? ⟨bq, oq + k, none⟩ = some (.int .i64 (l.getD k 0)) := fun x => HPA.out _ (Aft.off F0.out x) k (by omega)
      have hx := HO.out k hlt
      have hts := Lib.hid (dotR_succ s.Oil l k)
      generalize s.Oil.getD k 0 = u at *
      generalize l.getD k 0 = y at *
      generalize dotR s.Oil l k = t at *
      clear hcs
      go_wp2_with fail
      refine wp_region_aftW x2 (by kernel_rfl) (by kernel_rfl) ?_
      repeat (go_big_quiet_step (fail))
      refine wpQuiet_nil ?_
      rintro _ ⟨x3, rfl⟩
      have hw : IntKind.i64.wrap (u * y) = u * y := IntWalk.i64_in _ (by omega)
      try rw [hw]
      have hw2 : IntKind.i64.wrap (a0 + t + u * y) = a0 + t + u * y := IntWalk.i64_in _ (by omega)
      try rw [hw2]
      clear hw hw2
      generalize u * y = uy at *
      go_wp2
      go_roundw
      case rel => exact ⟨k + 1, x3, rfl, by omega, by go_num, by rw [hts.out]; go_num, by rw [hts.out]; omega, by rw [hts.out]; omega⟩
      case measure => simp [intOf]; omega
    · obtain rfl : k = s.Oil.length := by omega
      go_wp2
      go_ret
      exact ⟨ret_int (by rw [HC.out]), Aft.off F0.out x2⟩
end Go.Proofs.Ytnafllhgjidbkaa

/- Whether two slicks stand for the same amounts: the closure, EqualFunc, inRange. -/
namespace Go.Proofs.Ytnafllhgjidbkaa
open Go.RowKit Go.Shelf
set_option linter.unusedVariables false
set_option linter.unusedSimpArgs false
def prB (a b p q : Int) : Bool := decide (a * p = b * q)
theorem big_mul {a p : Int} (h0 : 0 ≤ a) (h1 : a ≤ 37748736000) (h2 : 1 ≤ p) (h3 : p ≤ 1048576) : 0 ≤ a * p ∧ a * p ≤ 39582418599936000 := by
  refine ⟨Int.mul_nonneg h0 (by omega), ?_⟩
  have h4 : a * p ≤ 37748736000 * p := Int.mul_le_mul_of_nonneg_right h1 (by omega)
  have h5 : (37748736000 : Int) * p ≤ 37748736000 * 1048576 := Int.mul_le_mul_of_nonneg_left h3 (by omega)
  omega
set_option maxRecDepth 100000 in
set_option maxHeartbeats 1000000 in
theorem same1_any (a b K J : Int) (bt bs : Nat) (w : World) (ht : w.cell? ⟨bt, 0, none⟩ = some (.int .i64 K)) (hs : w.cell? ⟨bs, 0, none⟩ = some (.int .i64 J)) (ha : 0 ≤ a ∧ a ≤ 37748736000) (hb : 0 ≤ b ∧ b ≤ 37748736000) (hK : 0 ≤ K ∧ K ≤ 5) (hJ : 0 ≤ J ∧ J ≤ 5) :
    Calls Try.prog 75 #[.int .i64 a, .int .i64 b, .pointer (some ⟨bt, 0, none⟩), .pointer (some ⟨bs, 0, none⟩)] w fun e w' => e = .returned (.bool (prB a b (16 ^ K.toNat) (16 ^ J.toNat))) ∧ Below w.heap.size w w' := by
  have lt := World.block_lt_of_cell? w _ ht
  have ls := World.block_lt_of_cell? w _ hs
  obtain ⟨p1, p2⟩ := pow_bd K hK.1 hK.2
  obtain ⟨q1, q2⟩ := pow_bd J hJ.1 hJ.2
  have hpK := fun W => power_any K W hK.1 hK.2
  have hpJ := fun W => power_any J W hJ.1 hJ.2
  have c1 : ∀ x : Aft w, x.val.cell? ⟨bt, 0, none⟩ = some (.int .i64 K) := fun x => (x.bel.cell (p := ⟨bt, 0, none⟩) lt).trans ht
  have c2 : ∀ x : Aft w, x.val.cell? ⟨bs, 0, none⟩ = some (.int .i64 J) := fun x => (x.bel.cell (p := ⟨bs, 0, none⟩) ls).trans hs
  generalize (16 : Int) ^ K.toNat = p at *
  generalize (16 : Int) ^ J.toNat = q at *
  obtain ⟨m0, m1⟩ := big_mul ha.1 ha.2 p1 p2
  obtain ⟨m2, m3⟩ := big_mul hb.1 hb.2 q1 q2
  have w1 : Hid (IntKind.i64.wrap (a * p) = a * p) := IntWalk.i64_in _ (by omega)
  have w2 : Hid (IntKind.i64.wrap (b * q) = b * q) := IntWalk.i64_in _ (by omega)
  have HPK := Lib.hid hpK
  have HPJ := Lib.hid hpJ
  clear ht hs hpK hpJ
  go_enter Try.func75, Try.ntmps75
  go_wp2_with fail
  refine wp_region_aft (by kernel_rfl) (by kernel_rfl) ?_
  repeat (go_big_quiet_step (first | (go_at_call 74; rename_i x; exact Calls.aft_same (HPK.out x.val)) | (go_at_call 74; rename_i x; exact Calls.aft_same (HPJ.out x.val))))
  refine wpQuiet_nil ?_
  rintro _ ⟨x, rfl⟩
  try simp only [w1.out, w2.out]
  go_wp2
  go_ret
  exact ⟨ret_bool (by simp [prB]; first | rfl | exact Bool.beq_eq_decide_eq _ _), x.bel⟩
/-- Lists that stand for the same amounts. -/
def eqfP (l m : List Int) (p q : Int) : Prop := l.length = m.length ∧ ∀ k, k < l.length → prB (l.getD k 0) (m.getD k 0) p q = true
open Classical in
noncomputable def eqfB (l m : List Int) (p q : Int) : Bool := decide (eqfP l m p q)
theorem eqfB_true {l m : List Int} {p q : Int} (h : eqfP l m p q) : eqfB l m p q = true := by simp [eqfB, h]
theorem eqfB_false {l m : List Int} {p q : Int} (h : ¬ eqfP l m p q) : eqfB l m p q = false := by simp [eqfB, h]
set_option maxRecDepth 100000 in
set_option maxHeartbeats 1000000 in
theorem equalFunc_any (ao bo : Option Addr) (c d : Nat) (l m : List Int) (K J : Int) (bt bs : Nat) (w : World) (hl : IntsAt w ao l) (hm : IntsAt w bo m) (ht : w.cell? ⟨bt, 0, none⟩ = some (.int .i64 K)) (hs : w.cell? ⟨bs, 0, none⟩ = some (.int .i64 J))
    (hln : l.length ≤ 1000000) (hmn : m.length ≤ 1000000) (ha : ∀ k, k < l.length → 0 ≤ l.getD k 0 ∧ l.getD k 0 ≤ 37748736000) (hb : ∀ k, k < m.length → 0 ≤ m.getD k 0 ∧ m.getD k 0 ≤ 37748736000) (hK : 0 ≤ K ∧ K ≤ 5) (hJ : 0 ≤ J ∧ J ≤ 5) :
    Calls Try.prog 76 #[.slice ao l.length c, .slice bo m.length d, .func (.func 75) #[] #[.pointer (some ⟨bt, 0, none⟩), .pointer (some ⟨bs, 0, none⟩)]] w fun e w' => e = .returned (.bool (eqfB l m (16 ^ K.toNat) (16 ^ J.toNat))) ∧ Below w.heap.size w w' := by
  have lt := World.block_lt_of_cell? w _ ht
  have ls := World.block_lt_of_cell? w _ hs
  have HC := Lib.hid (fun (x : Aft w) a b h1 h2 => same1_any a b K J bt bs x.val ((x.bel.cell (p := ⟨bt, 0, none⟩) lt).trans ht) ((x.bel.cell (p := ⟨bs, 0, none⟩) ls).trans hs) h1 h2 hK hJ)
  have HL := Lib.hid (fun (x : Aft w) => hl.below (Nat.le_refl _) x.bel)
  have HM := Lib.hid (fun (x : Aft w) => hm.below (Nat.le_refl _) x.bel)
  have HA := Lib.hid ha
  have HB := Lib.hid hb
  clear ha hb
  clear ht hs lt ls hl hm
  generalize (16 : Int) ^ K.toNat = p at *
  generalize (16 : Int) ^ J.toNat = q at *
  by_cases hlen : l.length = m.length
  case neg =>
    have hb : ((l.length : Int) != m.length) = true := by simp; omega
    have HR := Lib.hid (eqfB_false (p := p) (q := q) (fun h => hlen h.1))
    clear hlen
    go_enter Try.func76, Try.ntmps76
    go_wp2
    go_ret
    exact ⟨ret_bool HR.out.symm, Below.refl _ _⟩
  have hb : ((l.length : Int) != m.length) = false := by simp [hlen]
  have HLEN := Lib.hid hlen
  clear hlen
  obtain ⟨x0, hx0⟩ : ∃ x : Aft w, x.val = w := ⟨⟨w, Below.refl _ w⟩, rfl⟩
  have HX0 := Lib.hid hx0
  clear hx0
  go_enter Try.func76, Try.ntmps76
  go_wp2
  go_loopw [17] (fun i wr => ∃ (k : Nat) (x : Aft w), wr = x.val ∧ k ≤ l.length ∧ i = .int .i64 k ∧ ∀ j, j < k → prB (l.getD j 0) (m.getD j 0) p q = true) (fun i _ => l.length - (intOf i).toNat)
  case atStart => exact ⟨0, x0, HX0.out.symm, Nat.zero_le _, rfl, by intro j hj; omega⟩
  case round =>
    obtain ⟨k, x1, rfl, hk, rfl, hall⟩ := hrel
    have HALL := Lib.hid hall
    clear hall
    by_cases hlt : k < l.length
    · have hkm : (k : Int) < m.length := by have := HLEN.out; omega
      obtain ⟨bi, oi, rfl, hbi, hci⟩ := (HL.out x1).get hlt
      obtain ⟨bj, oj, rfl, hbj, hcj⟩ := (HM.out x1).get (k := k) (by omega)
      have hc := HC.out x1 _ _ (HA.out k hlt) (HB.out k (by omega))
      generalize hx : l.getD k 0 = x at *
      generalize hy : m.getD k 0 = y at *
      have HCC := Lib.hid hc
      have HX := Lib.hid hx
      have HY := Lib.hid hy
      clear hc hx hy
      cases hr : prB x y p q
      · have HR := Lib.hid (eqfB_false (l := l) (m := m) (p := p) (q := q) (fun h => by have := h.2 k hlt; rw [HX.out, HY.out, hr] at this; cases this))
        rw [hr] at HCC
        clear hr
        go_wp2_with fail
        refine HCC.out.mono ?_
        rintro e w1 ⟨rfl, hb1⟩
        obtain ⟨x2, rfl, lk⟩ := x1.step hb1
        clear hb1 lk
        go_wp2
        go_ret
        exact ⟨ret_bool HR.out.symm, x2.bel⟩
      · have HR := Lib.hid hr
        rw [hr] at HCC
        clear hr
        go_wp2_with fail
        refine HCC.out.mono ?_
        rintro e w1 ⟨rfl, hb1⟩
        obtain ⟨x2, rfl, lk⟩ := x1.step hb1
        clear hb1 lk
        go_wp2
        go_roundw
        case rel =>
          refine ⟨k + 1, x2, rfl, by omega, by go_num, fun j hj => ?_⟩
          by_cases e : j = k
          · subst e; rw [HX.out, HY.out]; exact HR.out
          · exact HALL.out j (by omega)
        case measure => simp [intOf]; omega
    · have HR := Lib.hid (eqfB_true (l := l) (m := m) (p := p) (q := q) ⟨HLEN.out, fun j hj => HALL.out j (by omega)⟩)
      have hke : ¬ ((k : Int) < l.length) := by omega
      go_wp2
      go_ret
      exact ⟨ret_bool HR.out.symm, x1.bel⟩
/-! ### The reference -/
def rngP (s : Slk) : Prop := (0 ≤ s.K ∧ s.K ≤ 5) ∧ amtB s.Oil (lim s.K) = true ∧ 0 ≤ s.Away ∧ s.Away ≤ lim s.K
open Classical in
noncomputable def rngB (s : Slk) : Bool := decide (rngP s)
theorem rngB_true {s : Slk} (h : rngP s) : rngB s = true := by simp [rngB, h]
theorem rngB_false {s : Slk} (h : ¬ rngP s) : rngB s = false := by simp [rngB, h]
set_option maxRecDepth 100000 in
set_option maxHeartbeats 1000000 in
theorem inRange_any (sv : Value) (s : Slk) (w : World) (hs : SlkAt w sv s) :
    Calls Try.prog 77 #[sv] w fun e w' => e = .returned (.bool (rngB s)) ∧ Below w.heap.size w w' := by
  obtain ⟨ao, c, rfl, hi, hn⟩ := hs
  have HI := Lib.hid (fun W (h : Below w.heap.size w W) => hi.below (Nat.le_refl _) h)
  clear hi
  have FF := Lib.hid (one_new (w := w) #[.int .i64 s.K, .slice ao s.Oil.length c, .int .i64 s.Away] 28)
  by_cases h0 : s.K < 0
  · have HR := Lib.hid (rngB_false (s := s) (fun h => by have := h.1; omega))
    go_enter Try.func77, Try.ntmps77
    go_wp2_with fail
    generalize hW : (w.alloc _) = W at *
    clear hW
    obtain ⟨f0, f1, f2⟩ := FF.out
    clear FF
    obtain ⟨x0, hx0⟩ : ∃ x : Aft W, x.val = W := ⟨⟨W, Below.refl _ W⟩, rfl⟩
    have F0 : Hid (Below w.heap.size w W) := f0
    have FZ : Hid (W.heap.size = w.heap.size + 1) := f1
    have FZ0 := Lib.hid (show x0.val.heap.size = w.heap.size + 1 by rw [hx0]; exact f1)
    have G0 : Hid (W.heap[w.heap.size]? = some (.cells #[.int .i64 s.K, .slice ao s.Oil.length c, .int .i64 s.Away] 28 (0, 0))) := f2
    have d0_0 : ∀ x : Aft W, x.val.cell? ⟨w.heap.size, 0, none⟩ = some (.int .i64 s.K) := fun x => cell_of_heap (x.heapH f2) 0
    have d0_1 : ∀ x : Aft W, x.val.cell? ⟨w.heap.size, 1, none⟩ = some (.slice ao s.Oil.length c) := fun x => cell_of_heap (x.heapH f2) 1
    have d0_2 : ∀ x : Aft W, x.val.cell? ⟨w.heap.size, 2, none⟩ = some (.int .i64 s.Away) := fun x => cell_of_heap (x.heapH f2) 2
    rw [← hx0]
    clear hx0 f0 f1 f2
    go_wp2
    go_ret
    exact ⟨ret_bool HR.out.symm, Aft.off F0.out x0⟩
  by_cases h5 : 5 < s.K
  · have HR := Lib.hid (rngB_false (s := s) (fun h => by have := h.1; omega))
    go_enter Try.func77, Try.ntmps77
    go_wp2_with fail
    generalize hW : (w.alloc _) = W at *
    clear hW
    obtain ⟨f0, f1, f2⟩ := FF.out
    clear FF
    obtain ⟨x0, hx0⟩ : ∃ x : Aft W, x.val = W := ⟨⟨W, Below.refl _ W⟩, rfl⟩
    have F0 : Hid (Below w.heap.size w W) := f0
    have FZ : Hid (W.heap.size = w.heap.size + 1) := f1
    have FZ0 := Lib.hid (show x0.val.heap.size = w.heap.size + 1 by rw [hx0]; exact f1)
    have G0 : Hid (W.heap[w.heap.size]? = some (.cells #[.int .i64 s.K, .slice ao s.Oil.length c, .int .i64 s.Away] 28 (0, 0))) := f2
    have d0_0 : ∀ x : Aft W, x.val.cell? ⟨w.heap.size, 0, none⟩ = some (.int .i64 s.K) := fun x => cell_of_heap (x.heapH f2) 0
    have d0_1 : ∀ x : Aft W, x.val.cell? ⟨w.heap.size, 1, none⟩ = some (.slice ao s.Oil.length c) := fun x => cell_of_heap (x.heapH f2) 1
    have d0_2 : ∀ x : Aft W, x.val.cell? ⟨w.heap.size, 2, none⟩ = some (.int .i64 s.Away) := fun x => cell_of_heap (x.heapH f2) 2
    rw [← hx0]
    clear hx0 f0 f1 f2
    go_wp2
    go_ret
    exact ⟨ret_bool HR.out.symm, Aft.off F0.out x0⟩
  obtain ⟨K, hKe⟩ : ∃ K : Nat, s.K = K := ⟨s.K.toNat, by omega⟩
  obtain ⟨q1, q2⟩ := pow_bd s.K (by omega) (by omega)
  have hlim : lim s.K = 36000 * 16 ^ K := by unfold lim; rw [hKe]; rfl
  have h16 := fun W => sixteen_any K W (by omega)
  rw [hKe, Int.toNat_natCast] at q1 q2
  generalize (16 : Int) ^ K = p at q1 q2 hlim h16
  have HL := Lib.hid hlim
  have HKE := Lib.hid hKe
  have H16 := Lib.hid h16
  have hbx : Hid (s.K = (K : Int)) := hKe
  rw [hKe] at h0 h5 ⊢
  clear hlim hKe h16 FF
  have FF := Lib.hid (one_new (w := w) #[.int .i64 (K : Int), .slice ao s.Oil.length c, .int .i64 s.Away] 28)
  go_enter Try.func77, Try.ntmps77
  go_wp2_with fail
  generalize hW : (w.alloc _) = W at *
  clear hW
  obtain ⟨f0, f1, f2⟩ := FF.out
  clear FF
  obtain ⟨x0, hx0⟩ : ∃ x : Aft W, x.val = W := ⟨⟨W, Below.refl _ W⟩, rfl⟩
  have F0 : Hid (Below w.heap.size w W) := f0
  have FZ : Hid (W.heap.size = w.heap.size + 1) := f1
  have FZ0 := Lib.hid (show x0.val.heap.size = w.heap.size + 1 by rw [hx0]; exact f1)
  have G0 : Hid (W.heap[w.heap.size]? = some (.cells #[.int .i64 (K : Int), .slice ao s.Oil.length c, .int .i64 s.Away] 28 (0, 0))) := f2
  have d0_0 : ∀ x : Aft W, x.val.cell? ⟨w.heap.size, 0, none⟩ = some (.int .i64 (K : Int)) := fun x => cell_of_heap (x.heapH f2) 0
  have d0_1 : ∀ x : Aft W, x.val.cell? ⟨w.heap.size, 1, none⟩ = some (.slice ao s.Oil.length c) := fun x => cell_of_heap (x.heapH f2) 1
  have d0_2 : ∀ x : Aft W, x.val.cell? ⟨w.heap.size, 2, none⟩ = some (.int .i64 s.Away) := fun x => cell_of_heap (x.heapH f2) 2
  rw [← hx0]
  clear hx0 f0 f1 f2
  refine (H16.out _).mono ?_
  rintro e w1 ⟨rfl, rfl⟩
  go_wp2_with fail
  go_loop [4] (fun i => ∃ k : Nat, k ≤ s.Oil.length ∧ i = .int .i64 k ∧ ∀ j, j < k → okB (36000 * p) (s.Oil.getD j 0) = true) (fun i => s.Oil.length - (intOf i).toNat)
  case atStart => exact ⟨0, Nat.zero_le _, rfl, by intro j hj; omega⟩
  case round =>
    obtain ⟨k, hk, rfl, hall⟩ := hrel
    have HALL := Lib.hid hall
    clear hall
    by_cases hlt : k < s.Oil.length
    · obtain ⟨bs, os, rfl, hbs, hcs⟩ := (HI.out _ (Aft.off F0.out x0)).get hlt
      generalize hx : s.Oil.getD k 0 = x at *
      have HX := Lib.hid hx
      clear hx
      by_cases hx0 : x < 0
      · have HR := Lib.hid (rngB_false (s := s) (fun h => by have := okB_iff.1 (amtB_iff.1 h.2.1 k hlt); rw [HX.out] at this; omega))
        go_wp2
        go_ret
        exact ⟨ret_bool HR.out.symm, Aft.off F0.out x0⟩
      by_cases hx5 : 36000 * p < x
      · have HR := Lib.hid (rngB_false (s := s) (fun h => by have := okB_iff.1 (amtB_iff.1 h.2.1 k hlt); rw [HX.out, HL.out] at this; omega))
        go_wp2
        go_ret
        exact ⟨ret_bool HR.out.symm, Aft.off F0.out x0⟩
      go_wp2
      go_round
      case rel =>
        refine ⟨k + 1, by omega, by go_num, fun j hj => ?_⟩
        by_cases e : j = k
        · subst e; rw [HX.out]; exact okB_iff.2 ⟨by omega, by omega⟩
        · exact HALL.out j (by omega)
      case measure => simp [intOf]; omega
    · have hke : ¬ ((k : Int) < s.Oil.length) := by omega
      have hamt : Hid (amtB s.Oil (lim s.K) = true) := amtB_iff.2 (fun j hj => by rw [HL.out]; exact HALL.out j (by omega))
      by_cases ha0 : 0 ≤ s.Away
      · by_cases ha5 : s.Away ≤ 36000 * p
        · have HR := Lib.hid (rngB_true (s := s) ⟨⟨by have := HKE.out; omega, by have := HKE.out; omega⟩, hamt.out, ha0, by rw [HL.out]; exact ha5⟩)
          go_wp2
          go_ret
          exact ⟨ret_bool HR.out.symm, Aft.off F0.out x0⟩
        · have HR := Lib.hid (rngB_false (s := s) (fun h => by have := h.2.2.2; rw [HL.out] at this; omega))
          go_wp2
          go_ret
          exact ⟨ret_bool HR.out.symm, Aft.off F0.out x0⟩
      · have HR := Lib.hid (rngB_false (s := s) (fun h => ha0 h.2.2.1))
        go_wp2
        go_ret
        exact ⟨ret_bool HR.out.symm, Aft.off F0.out x0⟩
end Go.Proofs.Ytnafllhgjidbkaa

/- The reference's Same. -/
namespace Go.Proofs.Ytnafllhgjidbkaa
open Go.RowKit Go.Shelf
set_option linter.unusedVariables false
set_option linter.unusedSimpArgs false
def samP (s t : Slk) : Prop := rngP s ∧ rngP t ∧ eqfP s.Oil t.Oil (16 ^ t.K.toNat) (16 ^ s.K.toNat) ∧ prB s.Away t.Away (16 ^ t.K.toNat) (16 ^ s.K.toNat) = true
open Classical in
noncomputable def samB (s t : Slk) : Bool := decide (samP s t)
theorem samB_true {s t : Slk} (h : samP s t) : samB s t = true := by simp [samB, h]
theorem samB_false {s t : Slk} (h : ¬ samP s t) : samB s t = false := by simp [samB, h]
theorem sixteen_int (K : Int) (w : World) (h0 : 0 ≤ K) (h5 : K ≤ 5) : Calls Try.prog 32 #[.int .i64 K] w fun e w' => e = .returned (.int .i64 (16 ^ K.toNat)) ∧ w = w' := by
  obtain ⟨n, rfl⟩ : ∃ n : Nat, K = n := ⟨K.toNat, by omega⟩
  rw [Int.toNat_natCast]
  exact sixteen_any n w (by omega)
theorem rng_bd {s : Slk} (h : rngP s) : (∀ k, k < s.Oil.length → 0 ≤ s.Oil.getD k 0 ∧ s.Oil.getD k 0 ≤ 37748736000) ∧ 0 ≤ s.Away ∧ s.Away ≤ 37748736000 := by
  have hl : lim s.K ≤ 37748736000 := by have := (pow_bd s.K h.1.1 h.1.2).2; unfold lim; omega
  exact ⟨fun k hk => by have := amt_range h.2.1 k hk; omega, h.2.2.1, by have := h.2.2.2; omega⟩

set_option maxRecDepth 100000 in
set_option maxHeartbeats 4000000 in
theorem rSame_any (sv tv : Value) (s t : Slk) (w : World) (hs : SlkAt w sv s) (ht : SlkAt w tv t) :
    Calls Try.prog 43 #[sv, tv] w fun e w' => e = .returned (.bool (samB s t)) ∧ Below w.heap.size w w' := by
  have HS := Lib.hid (fun W (h : Below w.heap.size w W) => hs.below (Nat.le_refl _) h)
  have HT := Lib.hid (fun W (h : Below w.heap.size w W) => ht.below (Nat.le_refl _) h)
  obtain ⟨ao, c, rfl, hi, hn⟩ := hs
  obtain ⟨bo, d, rfl, hj, hm⟩ := ht
  have HI := Lib.hid (fun W (h : Below w.heap.size w W) => hi.below (Nat.le_refl _) h)
  have HJ := Lib.hid (fun W (h : Below w.heap.size w W) => hj.below (Nat.le_refl _) h)
  clear hi hj
  have F1 := fun W h => inRange_any _ s W (HS.out W h)
  have F2 := fun W h => inRange_any _ t W (HT.out W h)
  have FF := Lib.hid (two_new (w := w) #[.int .i64 s.K, .slice ao s.Oil.length c, .int .i64 s.Away] #[.int .i64 t.K, .slice bo t.Oil.length d, .int .i64 t.Away] 28 28)
  by_cases hlen : s.Oil.length = t.Oil.length
  case neg =>
    have hb : ((s.Oil.length : Int) != t.Oil.length) = true := by simp; omega
    have HR := Lib.hid (samB_false (s := s) (t := t) (fun h => hlen h.2.2.1.1))
    clear hlen F1 F2
    go_enter Try.func43, Try.ntmps43
    go_wp2_with fail
    generalize hW : ((w.alloc _).alloc _) = W at *
    clear hW
    obtain ⟨f0, f1, f2, f3⟩ := FF.out
    clear FF
    obtain ⟨x0, hx0⟩ : ∃ x : Aft W, x.val = W := ⟨⟨W, Below.refl _ W⟩, rfl⟩
    have F0 : Hid (Below w.heap.size w W) := f0
    have FZ : Hid (W.heap.size = w.heap.size + 2) := f1
    have FZ0 := Lib.hid (show x0.val.heap.size = w.heap.size + 2 by rw [hx0]; exact f1)
    have G0 : Hid (W.heap[w.heap.size]? = some (.cells #[.int .i64 s.K, .slice ao s.Oil.length c, .int .i64 s.Away] 28 (0, 0))) := f2
    have d0_0 : ∀ x : Aft W, x.val.cell? ⟨w.heap.size, 0, none⟩ = some (.int .i64 s.K) := fun x => cell_of_heap (x.heapH f2) 0
    have d0_1 : ∀ x : Aft W, x.val.cell? ⟨w.heap.size, 1, none⟩ = some (.slice ao s.Oil.length c) := fun x => cell_of_heap (x.heapH f2) 1
    have d0_2 : ∀ x : Aft W, x.val.cell? ⟨w.heap.size, 2, none⟩ = some (.int .i64 s.Away) := fun x => cell_of_heap (x.heapH f2) 2
    have G1 : Hid (W.heap[w.heap.size + 1]? = some (.cells #[.int .i64 t.K, .slice bo t.Oil.length d, .int .i64 t.Away] 28 (0, 0))) := f3
    have d1_0 : ∀ x : Aft W, x.val.cell? ⟨w.heap.size + 1, 0, none⟩ = some (.int .i64 t.K) := fun x => cell_of_heap (x.heapH f3) 0
    have d1_1 : ∀ x : Aft W, x.val.cell? ⟨w.heap.size + 1, 1, none⟩ = some (.slice bo t.Oil.length d) := fun x => cell_of_heap (x.heapH f3) 1
    have d1_2 : ∀ x : Aft W, x.val.cell? ⟨w.heap.size + 1, 2, none⟩ = some (.int .i64 t.Away) := fun x => cell_of_heap (x.heapH f3) 2
    rw [← hx0]
    clear hx0 f0 f1 f2 f3
    go_wp2
    go_ret
    exact ⟨ret_bool HR.out.symm, Aft.off F0.out x0⟩
  have hb : ((s.Oil.length : Int) != t.Oil.length) = false := by simp [hlen]
  by_cases hrs : rngP s
  case neg =>
    have HR := Lib.hid (samB_false (s := s) (t := t) (fun h => hrs h.1))
    rw [rngB_false hrs] at F1
    have H1 := Lib.hid F1
    have HLEN := Lib.hid hlen
    clear F1 hlen
    clear hrs F2
    go_enter Try.func43, Try.ntmps43
    go_wp2_with fail
    generalize hW : ((w.alloc _).alloc _) = W at *
    clear hW
    obtain ⟨f0, f1, f2, f3⟩ := FF.out
    clear FF
    obtain ⟨x0, hx0⟩ : ∃ x : Aft W, x.val = W := ⟨⟨W, Below.refl _ W⟩, rfl⟩
    have F0 : Hid (Below w.heap.size w W) := f0
    have FZ : Hid (W.heap.size = w.heap.size + 2) := f1
    have FZ0 := Lib.hid (show x0.val.heap.size = w.heap.size + 2 by rw [hx0]; exact f1)
    have G0 : Hid (W.heap[w.heap.size]? = some (.cells #[.int .i64 s.K, .slice ao s.Oil.length c, .int .i64 s.Away] 28 (0, 0))) := f2
    have d0_0 : ∀ x : Aft W, x.val.cell? ⟨w.heap.size, 0, none⟩ = some (.int .i64 s.K) := fun x => cell_of_heap (x.heapH f2) 0
    have d0_1 : ∀ x : Aft W, x.val.cell? ⟨w.heap.size, 1, none⟩ = some (.slice ao s.Oil.length c) := fun x => cell_of_heap (x.heapH f2) 1
    have d0_2 : ∀ x : Aft W, x.val.cell? ⟨w.heap.size, 2, none⟩ = some (.int .i64 s.Away) := fun x => cell_of_heap (x.heapH f2) 2
    have G1 : Hid (W.heap[w.heap.size + 1]? = some (.cells #[.int .i64 t.K, .slice bo t.Oil.length d, .int .i64 t.Away] 28 (0, 0))) := f3
    have d1_0 : ∀ x : Aft W, x.val.cell? ⟨w.heap.size + 1, 0, none⟩ = some (.int .i64 t.K) := fun x => cell_of_heap (x.heapH f3) 0
    have d1_1 : ∀ x : Aft W, x.val.cell? ⟨w.heap.size + 1, 1, none⟩ = some (.slice bo t.Oil.length d) := fun x => cell_of_heap (x.heapH f3) 1
    have d1_2 : ∀ x : Aft W, x.val.cell? ⟨w.heap.size + 1, 2, none⟩ = some (.int .i64 t.Away) := fun x => cell_of_heap (x.heapH f3) 2
    rw [← hx0]
    clear hx0 f0 f1 f2 f3
    refine (H1.out _ (Aft.off F0.out x0)).mono ?_
    rintro e w1 ⟨rfl, hb⟩
    obtain ⟨x1, rfl, lk0'⟩ := x0.step (hb)
    have lk0 := Lib.hid lk0'
    clear hb lk0'
    go_wp2
    go_ret
    exact ⟨ret_bool HR.out.symm, Aft.off F0.out x1⟩
  rw [rngB_true hrs] at F1
  by_cases hrt : rngP t
  case neg =>
    have HR := Lib.hid (samB_false (s := s) (t := t) (fun h => hrt h.2.1))
    rw [rngB_false hrt] at F2
    have H1 := Lib.hid F1
    have H2 := Lib.hid F2
    have HLEN := Lib.hid hlen
    clear F1 F2 hlen
    clear hrs hrt
    go_enter Try.func43, Try.ntmps43
    go_wp2_with fail
    generalize hW : ((w.alloc _).alloc _) = W at *
    clear hW
    obtain ⟨f0, f1, f2, f3⟩ := FF.out
    clear FF
    obtain ⟨x0, hx0⟩ : ∃ x : Aft W, x.val = W := ⟨⟨W, Below.refl _ W⟩, rfl⟩
    have F0 : Hid (Below w.heap.size w W) := f0
    have FZ : Hid (W.heap.size = w.heap.size + 2) := f1
    have FZ0 := Lib.hid (show x0.val.heap.size = w.heap.size + 2 by rw [hx0]; exact f1)
    have G0 : Hid (W.heap[w.heap.size]? = some (.cells #[.int .i64 s.K, .slice ao s.Oil.length c, .int .i64 s.Away] 28 (0, 0))) := f2
    have d0_0 : ∀ x : Aft W, x.val.cell? ⟨w.heap.size, 0, none⟩ = some (.int .i64 s.K) := fun x => cell_of_heap (x.heapH f2) 0
    have d0_1 : ∀ x : Aft W, x.val.cell? ⟨w.heap.size, 1, none⟩ = some (.slice ao s.Oil.length c) := fun x => cell_of_heap (x.heapH f2) 1
    have d0_2 : ∀ x : Aft W, x.val.cell? ⟨w.heap.size, 2, none⟩ = some (.int .i64 s.Away) := fun x => cell_of_heap (x.heapH f2) 2
    have G1 : Hid (W.heap[w.heap.size + 1]? = some (.cells #[.int .i64 t.K, .slice bo t.Oil.length d, .int .i64 t.Away] 28 (0, 0))) := f3
    have d1_0 : ∀ x : Aft W, x.val.cell? ⟨w.heap.size + 1, 0, none⟩ = some (.int .i64 t.K) := fun x => cell_of_heap (x.heapH f3) 0
    have d1_1 : ∀ x : Aft W, x.val.cell? ⟨w.heap.size + 1, 1, none⟩ = some (.slice bo t.Oil.length d) := fun x => cell_of_heap (x.heapH f3) 1
    have d1_2 : ∀ x : Aft W, x.val.cell? ⟨w.heap.size + 1, 2, none⟩ = some (.int .i64 t.Away) := fun x => cell_of_heap (x.heapH f3) 2
    rw [← hx0]
    clear hx0 f0 f1 f2 f3
    refine (H1.out _ (Aft.off F0.out x0)).mono ?_
    rintro e w1 ⟨rfl, hb⟩
    obtain ⟨x1, rfl, lk0'⟩ := x0.step (hb)
    have lk0 := Lib.hid lk0'
    clear hb lk0'
    go_wp2_with fail
    refine (H2.out _ (Aft.off F0.out x1)).mono ?_
    rintro e w1 ⟨rfl, hb⟩
    obtain ⟨x2, rfl, lk1'⟩ := x1.step (hb)
    have lk1 := Lib.hid lk1'
    clear hb lk1'
    go_wp2
    go_ret
    exact ⟨ret_bool HR.out.symm, Aft.off F0.out x2⟩
  rw [rngB_true hrt] at F2
  obtain ⟨bs, bsa⟩ := rng_bd hrs
  obtain ⟨bt, bta⟩ := rng_bd hrt
  have hK := hrs.1
  have hJ := hrt.1
  obtain ⟨p1, p2⟩ := pow_bd t.K hJ.1 hJ.2
  obtain ⟨q1, q2⟩ := pow_bd s.K hK.1 hK.2
  have hpK := fun W => sixteen_int t.K W hJ.1 hJ.2
  have hpJ := fun W => sixteen_int s.K W hK.1 hK.2
  have HSAM : Hid (∀ b1 b2 : Bool, (b1 = true ↔ ∀ k, k < s.Oil.length → prB (s.Oil.getD k 0) (t.Oil.getD k 0) (16 ^ t.K.toNat) (16 ^ s.K.toNat) = true) → b2 = prB s.Away t.Away (16 ^ t.K.toNat) (16 ^ s.K.toNat) → samB s t = (b1 && b2)) := by
    intro b1 b2 h1 h2
    cases b1
    · rw [samB_false (fun h => by have := h1.2 h.2.2.1.2; cases this)]; rfl
    · cases b2
      · rw [samB_false (fun h => by have := h.2.2.2; rw [← h2] at this; cases this)]; rfl
      · rw [samB_true ⟨hrs, hrt, ⟨hlen, h1.1 rfl⟩, h2.symm⟩]; rfl
  have H1 := Lib.hid F1
  have H2 := Lib.hid F2
  have HLEN := Lib.hid hlen
  have HBS := Lib.hid bs
  have HBT := Lib.hid bt
  have HPK := Lib.hid hpK
  have HPJ := Lib.hid hpJ
  clear F1 F2 hlen bs bt hpK hpJ
  clear hrs hrt
  generalize (16 : Int) ^ t.K.toNat = p at *
  generalize (16 : Int) ^ s.K.toNat = q at *
  go_enter Try.func43, Try.ntmps43
  go_wp2_with fail
  generalize hW : ((w.alloc _).alloc _) = W at *
  clear hW
  obtain ⟨f0, f1, f2, f3⟩ := FF.out
  clear FF
  obtain ⟨x0, hx0⟩ : ∃ x : Aft W, x.val = W := ⟨⟨W, Below.refl _ W⟩, rfl⟩
  have F0 : Hid (Below w.heap.size w W) := f0
  have FZ : Hid (W.heap.size = w.heap.size + 2) := f1
  have FZ0 := Lib.hid (show x0.val.heap.size = w.heap.size + 2 by rw [hx0]; exact f1)
  have G0 : Hid (W.heap[w.heap.size]? = some (.cells #[.int .i64 s.K, .slice ao s.Oil.length c, .int .i64 s.Away] 28 (0, 0))) := f2
  have d0_0 : ∀ x : Aft W, x.val.cell? ⟨w.heap.size, 0, none⟩ = some (.int .i64 s.K) := fun x => cell_of_heap (x.heapH f2) 0
  have d0_1 : ∀ x : Aft W, x.val.cell? ⟨w.heap.size, 1, none⟩ = some (.slice ao s.Oil.length c) := fun x => cell_of_heap (x.heapH f2) 1
  have d0_2 : ∀ x : Aft W, x.val.cell? ⟨w.heap.size, 2, none⟩ = some (.int .i64 s.Away) := fun x => cell_of_heap (x.heapH f2) 2
  have G1 : Hid (W.heap[w.heap.size + 1]? = some (.cells #[.int .i64 t.K, .slice bo t.Oil.length d, .int .i64 t.Away] 28 (0, 0))) := f3
  have d1_0 : ∀ x : Aft W, x.val.cell? ⟨w.heap.size + 1, 0, none⟩ = some (.int .i64 t.K) := fun x => cell_of_heap (x.heapH f3) 0
  have d1_1 : ∀ x : Aft W, x.val.cell? ⟨w.heap.size + 1, 1, none⟩ = some (.slice bo t.Oil.length d) := fun x => cell_of_heap (x.heapH f3) 1
  have d1_2 : ∀ x : Aft W, x.val.cell? ⟨w.heap.size + 1, 2, none⟩ = some (.int .i64 t.Away) := fun x => cell_of_heap (x.heapH f3) 2
  rw [← hx0]
  clear hx0 f0 f1 f2 f3
  refine (H1.out _ (Aft.off F0.out x0)).mono ?_
  rintro e w1 ⟨rfl, hb⟩
  obtain ⟨x1, rfl, lk0'⟩ := x0.step (hb)
  have lk0 := Lib.hid lk0'
  clear hb lk0'
  go_wp2_with fail
  refine (H2.out _ (Aft.off F0.out x1)).mono ?_
  rintro e w1 ⟨rfl, hb⟩
  obtain ⟨x2, rfl, lk1'⟩ := x1.step (hb)
  have lk1 := Lib.hid lk1'
  clear hb lk1'
  go_wp2_with fail
  go_loopw [5] (fun i wr => ∃ (k : Nat) (x : Aft W), wr = x.val ∧ k ≤ s.Oil.length ∧ i = .int .i64 k ∧ ∀ j, j < k → prB (s.Oil.getD j 0) (t.Oil.getD j 0) p q = true) (fun i _ => s.Oil.length - (intOf i).toNat)
  case atStart => exact ⟨0, x2, rfl, Nat.zero_le _, rfl, by intro j hj; omega⟩
  case round =>
    obtain ⟨k, x1, rfl, hk, rfl, hall⟩ := hrel
    have HALL := Lib.hid hall
    clear hall
    by_cases hlt : k < s.Oil.length
    · have hks : (k : Int) < s.Oil.length := by omega
      have hkt : (k : Int) < t.Oil.length := by have := HLEN.out; omega
      obtain ⟨bi, oi, rfl, -, -⟩ := (HI.out _ (Aft.off F0.out x1)).get hlt
      obtain ⟨bj, oj, rfl, -, -⟩ := (HJ.out _ (Aft.off F0.out x1)).get (k := k) (by omega)
      have ci : ∀ x : Aft W, x.val.cell? ⟨bi, oi + k, none⟩ = some (.int .i64 (s.Oil.getD k 0)) := fun x => by
        obtain ⟨b', o', e, _, hc⟩ := (HI.out _ (Aft.off F0.out x)).get hlt; cases e; exact hc
      have cj : ∀ x : Aft W, x.val.cell? ⟨bj, oj + k, none⟩ = some (.int .i64 (t.Oil.getD k 0)) := fun x => by
        obtain ⟨b', o', e, _, hc⟩ := (HJ.out _ (Aft.off F0.out x)).get (k := k) (by omega); cases e; exact hc
      have hbx := HBS.out k hlt
      have hby := HBT.out k (by omega)
      generalize hx : s.Oil.getD k 0 = x at *
      generalize hy : t.Oil.getD k 0 = y at *
      have HX := Lib.hid hx
      have HY := Lib.hid hy
      clear hx hy
      obtain ⟨m0, m1⟩ := big_mul hbx.1 hbx.2 p1 p2
      obtain ⟨m2, m3⟩ := big_mul hby.1 hby.2 q1 q2
      have w1 : Hid (IntKind.i64.wrap (x * p) = x * p) := IntWalk.i64_in _ (by omega)
      have w2 : Hid (IntKind.i64.wrap (y * q) = y * q) := IntWalk.i64_in _ (by omega)
      go_wp2_with fail
      refine wp_region_aftW x1 (by kernel_rfl) (by kernel_rfl) ?_
      repeat (go_big_quiet_step (first | (go_at_call 32; rename_i x; (with_reducible exact Calls.aft_same (HPK.out x.val))) | (go_at_call 32; rename_i x; (with_reducible exact Calls.aft_same (HPJ.out x.val)))))
      refine wpQuiet_nil ?_
      rintro _ ⟨x2, rfl⟩
      try simp only [w1.out, w2.out]
      by_cases he : x * p = y * q
      · have hbe : (x * p != y * q) = false := by simp [he]
        have HEQ := Lib.hid he
        clear he
        go_wp2
        go_roundw
        case rel =>
          refine ⟨k + 1, x2, rfl, by omega, by go_num, fun j hj => ?_⟩
          by_cases e : j = k
          · subst e; rw [HX.out, HY.out]; simp [prB, HEQ.out]
          · exact HALL.out j (by omega)
        case measure => simp [intOf]; omega
      · have hbe : (x * p != y * q) = true := by simpa using he
        have HR := Lib.hid (HSAM.out false _ ⟨fun h => (by cases h), fun h => (by have := h k hlt; rw [HX.out, HY.out] at this; simp [prB] at this; exact absurd this he)⟩ rfl)
        clear he
        go_wp2
        go_ret
        exact ⟨ret_bool (by rw [HR.out]; rfl), Aft.off F0.out x2⟩
    · have hke : ¬ ((k : Int) < s.Oil.length) := by omega
      have HR := Lib.hid (HSAM.out true _ ⟨fun _ j hj => HALL.out j (by omega), fun _ => rfl⟩ rfl)
      obtain ⟨m0, m1⟩ := big_mul bsa.1 bsa.2 p1 p2
      obtain ⟨m2, m3⟩ := big_mul bta.1 bta.2 q1 q2
      have w1 : Hid (IntKind.i64.wrap (s.Away * p) = s.Away * p) := IntWalk.i64_in _ (by omega)
      have w2 : Hid (IntKind.i64.wrap (t.Away * q) = t.Away * q) := IntWalk.i64_in _ (by omega)
      go_wp2_with fail
      refine wp_region_aftW x1 (by kernel_rfl) (by kernel_rfl) ?_
      repeat (go_big_quiet_step (first | (go_at_call 32; rename_i x; (with_reducible exact Calls.aft_same (HPK.out x.val))) | (go_at_call 32; rename_i x; (with_reducible exact Calls.aft_same (HPJ.out x.val)))))
      refine wpQuiet_nil ?_
      rintro _ ⟨x2, rfl⟩
      try simp only [w1.out, w2.out]
      go_wp2
      go_ret
      exact ⟨ret_bool (by rw [HR.out]; simp [prB]; first | rfl | exact Bool.beq_eq_decide_eq _ _), Aft.off F0.out x2⟩
end Go.Proofs.Ytnafllhgjidbkaa

/- Same. -/
namespace Go.Proofs.Ytnafllhgjidbkaa
open Go.RowKit
set_option linter.unusedVariables false
set_option linter.unusedSimpArgs false
theorem rng_amt {y : Slk} (hK : 0 ≤ y.K ∧ y.K ≤ 5) : amtB (y.Oil ++ [y.Away]) (36000 * 16 ^ y.K.toNat) = true ↔ rngP y := by
  have e : lim y.K = 36000 * 16 ^ y.K.toNat := rfl
  rw [← e]
  unfold amtB rngP
  rw [List.all_append, Bool.and_eq_true]
  constructor
  · rintro ⟨h1, h2⟩
    have h3 : okB (lim y.K) y.Away = true := by simpa using h2
    exact ⟨hK, h1, (okB_iff.1 h3).1, (okB_iff.1 h3).2⟩
  · rintro ⟨_, h1, h2, h3⟩
    exact ⟨h1, by simpa using okB_iff.2 ⟨h2, h3⟩⟩
theorem between_k {n0 nx : Nat} {L : List E} {K : V → List E → Nat → Prop} {a b c : Int} (hK : K (V.c (.bool (betwB a b c))) [] nx) : CallK Try.prog n0 60 [V.i a, V.i b, V.i c] L nx K :=
  CallK.oldS (u := V.c (.bool (betwB a b c))) (by kernel_rfl) trivial (fun ρ w hp => between_any a b c w) hK
theorem power_k {n0 nx : Nat} {L : List E} {K : V → List E → Nat → Prop} {k : Int} (h : 0 ≤ k ∧ k ≤ 5) (hK : K (V.i (16 ^ k.toNat)) [] nx) : CallK Try.prog n0 74 [V.i k] L nx K :=
  CallK.oldS (u := V.i (16 ^ k.toNat)) (by kernel_rfl) trivial (fun ρ w hp => power_any k w h.1 h.2) hK
theorem clone_k {n0 nx a : Nat} {k : Kd} {l : List Int} {L : List E} {K : V → List E → Nat → Prop} (hn : l.length ≤ 1000000) (ha : find L a = some ⟨a, k, l.map C.i⟩) (hK : K (V.c (.sl nx l.length)) [⟨nx, .vec 3 1, l.map C.i⟩] (nx + 1)) : CallK Try.prog n0 71 [V.c (.sl a l.length)] L nx K :=
  CallK.oldVec (l := l) (by kernel_rfl) (fun ρ w hp => clone_any _ _ l w (ints_of hp ha) hn) hK
theorem amounts_k {n0 nx a n : Nat} {k : Kd} {l : List Int} {lim : Int} {L : List E} {K : V → List E → Nat → Prop} (he : n = l.length) (hn : l.length < 1152921504606846976) (ha : find L a = some ⟨a, k, l.map C.i⟩) (hK : K (V.c (.bool (amtB l lim))) [] nx) : CallK Try.prog n0 73 [V.c (.sl a n), V.i lim] L nx K := by
  subst he
  exact CallK.old (u := V.c (.bool (amtB l lim))) (by kernel_rfl) trivial (fun ρ w hp => amounts_any _ _ l lim w (ints_of hp ha) hn) hK
theorem find_app {L : List E} {l : Nat} {k : Kd} {s : List Int} {x : Int} (h : find L l = some ⟨l, k, s.map C.i ++ [C.i x]⟩) : find L l = some ⟨l, k, (s ++ [x]).map C.i⟩ := by
  rw [List.map_append]; exact h
theorem ptr_of {ρ : Env} {a b : Nat} (h : (ρ a).1 = some ⟨b, 0, none⟩) : ptrD ρ (a, 0) = .pointer (some ⟨b, 0, none⟩) := by
  unfold ptrD; simp only [h]; rw [add_zero_map]
theorem pair_of {n0 nx bt bs : Nat} {ρ : Env} {w : World} {L : List E} {s t : Slk} {la lb : Nat} (hp : Hp n0 ρ w L nx)
    (ht : find L bt = some ⟨bt, .own 28, [C.i t.K, C.sl lb t.Oil.length, C.i t.Away]⟩) (hs : find L bs = some ⟨bs, .own 28, [C.i s.K, C.sl la s.Oil.length, C.i s.Away]⟩) :
    ∃ p q, ptrD ρ (bt, 0) = .pointer (some ⟨p, 0, none⟩) ∧ ptrD ρ (bs, 0) = .pointer (some ⟨q, 0, none⟩) ∧ w.cell? ⟨p, 0, none⟩ = some (.int .i64 t.K) ∧ w.cell? ⟨q, 0, none⟩ = some (.int .i64 s.K) := by
  obtain ⟨p, h1, h2⟩ := own_of hp ht
  obtain ⟨q, h3, h4⟩ := own_of hp hs
  exact ⟨p, q, ptr_of h1, ptr_of h3, cell_of_heap h2 0, cell_of_heap h4 0⟩
theorem equalF_k {n0 nx bt bs la lb : Nat} {ka kb : Kd} {s t : Slk} {L : List E} {K : V → List E → Nat → Prop} (hs : rngP s) (ht : rngP t) (hsn : s.Oil.length ≤ 1000000) (htn : t.Oil.length ≤ 1000000)
    (ha : find L la = some ⟨la, ka, s.Oil.map C.i⟩) (hb : find L lb = some ⟨lb, kb, t.Oil.map C.i⟩)
    (hpt : find L bt = some ⟨bt, .own 28, [C.i t.K, C.sl lb t.Oil.length, C.i t.Away]⟩) (hps : find L bs = some ⟨bs, .own 28, [C.i s.K, C.sl la s.Oil.length, C.i s.Away]⟩)
    (hK : K (V.c (.bool (eqfB s.Oil t.Oil (16 ^ t.K.toNat) (16 ^ s.K.toNat)))) [] nx) :
    CallK Try.prog n0 76 [V.c (.sl la s.Oil.length), V.c (.sl lb t.Oil.length), V.c (.fn 75 [(bt, 0), (bs, 0)])] L nx K := by
  refine CallK.old (u := V.c (.bool (eqfB s.Oil t.Oil (16 ^ t.K.toNat) (16 ^ s.K.toNat)))) (by kernel_rfl) trivial (fun ρ w hp => ?_) hK
  obtain ⟨p, q, h1, h2, h3, h4⟩ := pair_of hp hpt hps
  have h := equalFunc_any (ρ la).1 (ρ lb).1 (ρ la).2 (ρ lb).2 s.Oil t.Oil t.K s.K p q w (ints_of hp ha) (ints_of hp hb) h3 h4 hsn htn (rng_bd hs).1 (rng_bd ht).1 ht.1 hs.1
  have e : ([V.c (.sl la s.Oil.length), V.c (.sl lb t.Oil.length), V.c (.fn 75 [(bt, 0), (bs, 0)])].map (V.den ρ)).toArray = #[.slice (ρ la).1 s.Oil.length (ρ la).2, .slice (ρ lb).1 t.Oil.length (ρ lb).2, .func (.func 75) #[] #[.pointer (some ⟨p, 0, none⟩), .pointer (some ⟨q, 0, none⟩)]] := by
    rw [← h1, ← h2]; rfl
  rw [e]
  exact h
theorem same1_k {n0 nx bt bs la lb : Nat} {s t : Slk} {a b : Int} {L : List E} {K : V → List E → Nat → Prop} (hs : rngP s) (ht : rngP t) (ha : 0 ≤ a ∧ a ≤ 37748736000) (hb : 0 ≤ b ∧ b ≤ 37748736000)
    (hpt : find L bt = some ⟨bt, .own 28, [C.i t.K, C.sl lb t.Oil.length, C.i t.Away]⟩) (hps : find L bs = some ⟨bs, .own 28, [C.i s.K, C.sl la s.Oil.length, C.i s.Away]⟩)
    (hK : K (V.c (.bool (prB a b (16 ^ t.K.toNat) (16 ^ s.K.toNat)))) [] nx) :
    CallK Try.prog n0 75 [V.i a, V.i b, V.c (.ptr bt 0), V.c (.ptr bs 0)] L nx K := by
  refine CallK.old (u := V.c (.bool (prB a b (16 ^ t.K.toNat) (16 ^ s.K.toNat)))) (by kernel_rfl) trivial (fun ρ w hp => ?_) hK
  obtain ⟨p, q, h1, h2, h3, h4⟩ := pair_of hp hpt hps
  have h := same1_any a b t.K s.K p q w h3 h4 ha hb ht.1 hs.1
  have e : ([V.i a, V.i b, V.c (.ptr bt 0), V.c (.ptr bs 0)].map (V.den ρ)).toArray = #[.int .i64 a, .int .i64 b, .pointer (some ⟨p, 0, none⟩), .pointer (some ⟨q, 0, none⟩)] := by
    rw [← h1, ← h2]; rfl
  rw [e]
  exact h
theorem chk_app (p : Nat → Bool) (l : List Int) (x : Int) (lab : Nat) (kd : Kd) : (([⟨lab, kd, l.map C.i ++ [C.i x]⟩] : List E).all fun e => e.cs.all (C.chk p)) = true := by
  simp only [List.all_cons, List.all_nil, Bool.and_true, List.all_append]
  rw [chk_ints]; rfl
set_option maxRecDepth 100000 in
theorem same_spec (s t : Slk) (hsn : s.Oil.length ≤ 1000) (htn : t.Oil.length ≤ 1000) :
    Spec Try.prog 42 [V.agg [C.i s.K, C.sl 0 s.Oil.length, C.i s.Away], V.agg [C.i t.K, C.sl 1 t.Oil.length, C.i t.Away]] [⟨0, .ro 0, s.Oil.map C.i⟩, ⟨1, .ro 0, t.Oil.map C.i⟩] 2 (Is (V.c (.bool (samB s t)))) := by
  refine Spec.of tok Try.func42 rfl rfl rfl fun n0 => vc_ok tok ?_
  repeat ((conv => whnf); first
      | (refine And.intro (by first | omega | exact Nat.le_of_ble_eq_true rfl | (dsimp only [inK]; omega) | (simp only [mulS_eq]; omega) | (simp only [mulS_eq, setL_length]; omega) | (simp only [setL_length, List.length_map]; omega) | exact ⟨by omega, by omega, by first | exact Nat.le_of_ble_eq_true rfl | (dsimp only; omega) | (simp only [setL_length]; omega) | (simp only [setL_length, List.length_map]; omega)⟩ | exact ⟨by omega, by first | rfl | omega, by omega, Nat.le_of_ble_eq_true rfl, Nat.le_of_ble_eq_true rfl⟩ | exact ⟨rfl, rfl, rfl, Nat.le_of_ble_eq_true rfl, by first | rfl | omega | exact Nat.le_of_ble_eq_true rfl | (simp; done) | (simp; omega), by first | rfl | omega | exact Nat.le_of_ble_eq_true rfl | (simp; done) | (simp; omega), by omega, Nat.le_of_ble_eq_true rfl⟩ | exact Eq.refl true) ?_)
      | (refine Exists.intro _ (And.intro rfl ?_))
      | (refine And.intro (And.intro rfl (chk_rowI _ _ _ _)) ?_)
      | (refine br_t (by omega) ?_)
      | (refine br_f (by omega) ?_)
      | (refine bs_t (by omega) ?_)
      | (refine bs_f (by omega) ?_)
      | (refine fun (K' : K3) hK' => ?_)
      | (refine hK' _ _ _ ?_; clear hK' K')
      | (refine draw_auto tok mixed (by kernel_rfl) ?_)
      | (refine And.intro (And.intro rfl rfl) ?_))
  refine Tri.loop (γ := Nat) (fun k => k ≤ 2 ∧ (0 < k → rngP s) ∧ (1 < k → rngP t))
    (fun k => [(2, V.c (.ptr 2 0)), (3, V.c (.ptr 3 0)), (10, V.c (.sl 4 2)), (11, V.i 2), (12, V.i (k : Int))])
    (fun k => [⟨0, .ro 0, s.Oil.map C.i⟩, ⟨1, .ro 0, t.Oil.map C.i⟩, ⟨2, .own 28, [C.i s.K, C.sl 0 s.Oil.length, C.i s.Away]⟩, ⟨3, .own 28, [C.i t.K, C.sl 1 t.Oil.length, C.i t.Away]⟩,
      ⟨4, .vec 28 3, [C.i s.K, C.sl 0 s.Oil.length, C.i s.Away, C.i t.K, C.sl 1 t.Oil.length, C.i t.Away]⟩]) 5 (fun k => 2 - k) 0 (R0 := []) ?_ ?_ ?_
  · exact ⟨by omega, by omega, by omega⟩
  · skip
    refine ⟨?_, ?_, rfl, rfl, Nat.le_of_ble_eq_true rfl⟩
    · repeat (first | exact trivial | refine And.intro (covS_syn (by first | rfl) rfl (by first | exact trivial | exact Nat.le_of_ble_eq_true rfl)) ?_ | refine And.intro (covS_bool rfl rfl (by first | rfl)) ?_)
    · repeat (first | exact trivial | refine And.intro (covE_id (Nat.le_of_ble_eq_true rfl) (by first | exact wf_ints _ _ | exact wf_bools _ _ | fail | simp [C.wf]) rfl (by first | rfl | (fail))) ?_)
  · rintro k ⟨hk, h1, h2⟩
    refine vc_ok tok ?_
    have hcase : k = 0 ∨ k = 1 ∨ k = 2 := by omega
    rcases hcase with rfl | rfl | rfl
    · by_cases hK : 0 ≤ s.K ∧ s.K ≤ 5
      · have hbt : (!betwB 0 s.K 5) = false := by simp [betwB]; omega
        have hps := pow_bd s.K hK.1 hK.2
        by_cases hr : rngP s
        · have ham : (!amtB (s.Oil ++ [s.Away]) (36000 * 16 ^ s.K.toNat)) = false := by rw [(rng_amt hK).2 hr]; rfl
          repeat ((conv => whnf); first
              | (refine And.intro (by first | omega | exact Nat.le_of_ble_eq_true rfl | (dsimp only [inK]; omega) | (simp only [mulS_eq]; omega) | (simp only [mulS_eq, setL_length]; omega) | (simp only [setL_length, List.length_map]; omega) | exact ⟨by omega, by omega, by first | exact Nat.le_of_ble_eq_true rfl | (dsimp only; omega) | (simp only [setL_length]; omega) | (simp only [setL_length, List.length_map]; omega)⟩ | exact ⟨by omega, by first | rfl | omega, by omega, Nat.le_of_ble_eq_true rfl, Nat.le_of_ble_eq_true rfl⟩ | exact ⟨rfl, rfl, rfl, Nat.le_of_ble_eq_true rfl, by first | rfl | omega | exact Nat.le_of_ble_eq_true rfl | (simp; done) | (simp; omega), by first | rfl | omega | exact Nat.le_of_ble_eq_true rfl | (simp; done) | (simp; omega), by omega, Nat.le_of_ble_eq_true rfl⟩ | exact Eq.refl true) ?_)
              | (refine Exists.intro _ (And.intro rfl ?_))
              | (refine And.intro (And.intro rfl (chk_rowI _ _ _ _)) ?_)
              | (refine br_t (by omega) ?_)
              | (refine br_f (by omega) ?_)
              | (refine bs_t (by omega) ?_)
              | (refine bs_f (by omega) ?_)
              | (refine fun (K' : K3) hK' => ?_)
              | (refine hK' _ _ _ ?_; clear hK' K')
              | (refine draw_kill [6] tok mixed (by kernel_rfl) ?_)
              | (refine draw_auto tok mixed (by kernel_rfl) ?_)
              | (refine HD_mk (fun _ h => between_k h) ?_)
              | (refine HD_mk (fun _ h => power_k hK h) ?_)
              | (refine HD_mk (fun _ h => clone_k (l := s.Oil) (by omega) rfl h) ?_)
              | (refine And.intro (And.intro rfl (chk_app _ s.Oil s.Away _ _)) ?_)
              | (refine HD_mk (fun _ h => amounts_k (l := s.Oil ++ [s.Away]) (by simp) (by simp; omega) (find_app rfl) h) ?_)
              | (refine br_bf hbt ?_)
              | (refine bs_bf hbt ?_)
              | (refine br_bf ham ?_)
              | (refine bs_bf ham ?_)
              | (refine And.intro (And.intro rfl rfl) ?_))
          refine ⟨1, [], ⟨by omega, fun _ => hr, fun h => absurd h (by omega)⟩, by omega, ?_⟩
          refine ⟨?_, ?_, rfl, rfl, Nat.le_of_ble_eq_true rfl⟩
          · repeat (first | exact trivial | refine And.intro (covS_syn (by first | rfl) rfl (by first | exact trivial | exact Nat.le_of_ble_eq_true rfl)) ?_ | refine And.intro (covS_bool rfl rfl (by first | rfl)) ?_)
          · repeat (first | exact trivial | refine And.intro (covE_id (Nat.le_of_ble_eq_true rfl) (by first | exact wf_ints _ _ | exact wf_bools _ _ | fail | simp [C.wf]) rfl (by first | rfl | (fail))) ?_)
        · have hno := samB_false (s := s) (t := t) (fun h => hr h.1)
          have ham : (!amtB (s.Oil ++ [s.Away]) (36000 * 16 ^ s.K.toNat)) = true := by
            cases hh : amtB (s.Oil ++ [s.Away]) (36000 * 16 ^ s.K.toNat)
            · rfl
            · exact absurd ((rng_amt hK).1 hh) hr
          repeat ((conv => whnf); first
              | (refine And.intro (by first | omega | exact Nat.le_of_ble_eq_true rfl | (dsimp only [inK]; omega) | (simp only [mulS_eq]; omega) | (simp only [mulS_eq, setL_length]; omega) | (simp only [setL_length, List.length_map]; omega) | exact ⟨by omega, by omega, by first | exact Nat.le_of_ble_eq_true rfl | (dsimp only; omega) | (simp only [setL_length]; omega) | (simp only [setL_length, List.length_map]; omega)⟩ | exact ⟨by omega, by first | rfl | omega, by omega, Nat.le_of_ble_eq_true rfl, Nat.le_of_ble_eq_true rfl⟩ | exact ⟨rfl, rfl, rfl, Nat.le_of_ble_eq_true rfl, by first | rfl | omega | exact Nat.le_of_ble_eq_true rfl | (simp; done) | (simp; omega), by first | rfl | omega | exact Nat.le_of_ble_eq_true rfl | (simp; done) | (simp; omega), by omega, Nat.le_of_ble_eq_true rfl⟩ | exact Eq.refl true) ?_)
              | (refine Exists.intro _ (And.intro rfl ?_))
              | (refine And.intro (And.intro rfl (chk_rowI _ _ _ _)) ?_)
              | (refine br_t (by omega) ?_)
              | (refine br_f (by omega) ?_)
              | (refine bs_t (by omega) ?_)
              | (refine bs_f (by omega) ?_)
              | (refine fun (K' : K3) hK' => ?_)
              | (refine hK' _ _ _ ?_; clear hK' K')
              | (refine draw_kill [6] tok mixed (by kernel_rfl) ?_)
              | (refine draw_auto tok mixed (by kernel_rfl) ?_)
              | (refine HD_mk (fun _ h => between_k h) ?_)
              | (refine HD_mk (fun _ h => power_k hK h) ?_)
              | (refine HD_mk (fun _ h => clone_k (l := s.Oil) (by omega) rfl h) ?_)
              | (refine And.intro (And.intro rfl (chk_app _ s.Oil s.Away _ _)) ?_)
              | (refine HD_mk (fun _ h => amounts_k (l := s.Oil ++ [s.Away]) (by simp) (by simp; omega) (find_app rfl) h) ?_)
              | (refine br_bf hbt ?_)
              | (refine bs_bf hbt ?_)
              | (refine br_bt ham ?_)
              | (refine bs_bt ham ?_)
              | (refine And.intro (And.intro rfl rfl) ?_))
          intro ρ; show Value.bool _ = Value.bool _; rw [hno]
      · have hno := samB_false (s := s) (t := t) (fun h => hK h.1.1)
        have hbt : (!betwB 0 s.K 5) = true := by simp [betwB]; omega
        repeat ((conv => whnf); first
            | (refine And.intro (by first | omega | exact Nat.le_of_ble_eq_true rfl | (dsimp only [inK]; omega) | (simp only [mulS_eq]; omega) | (simp only [mulS_eq, setL_length]; omega) | (simp only [setL_length, List.length_map]; omega) | exact ⟨by omega, by omega, by first | exact Nat.le_of_ble_eq_true rfl | (dsimp only; omega) | (simp only [setL_length]; omega) | (simp only [setL_length, List.length_map]; omega)⟩ | exact ⟨by omega, by first | rfl | omega, by omega, Nat.le_of_ble_eq_true rfl, Nat.le_of_ble_eq_true rfl⟩ | exact ⟨rfl, rfl, rfl, Nat.le_of_ble_eq_true rfl, by first | rfl | omega | exact Nat.le_of_ble_eq_true rfl | (simp; done) | (simp; omega), by first | rfl | omega | exact Nat.le_of_ble_eq_true rfl | (simp; done) | (simp; omega), by omega, Nat.le_of_ble_eq_true rfl⟩ | exact Eq.refl true) ?_)
            | (refine Exists.intro _ (And.intro rfl ?_))
            | (refine And.intro (And.intro rfl (chk_rowI _ _ _ _)) ?_)
            | (refine br_t (by omega) ?_)
            | (refine br_f (by omega) ?_)
            | (refine bs_t (by omega) ?_)
            | (refine bs_f (by omega) ?_)
            | (refine fun (K' : K3) hK' => ?_)
            | (refine hK' _ _ _ ?_; clear hK' K')
            | (refine draw_kill [6] tok mixed (by kernel_rfl) ?_)
            | (refine draw_auto tok mixed (by kernel_rfl) ?_)
            | (refine HD_mk (fun _ h => between_k h) ?_)
            | (refine br_bt hbt ?_)
            | (refine bs_bt hbt ?_)
            | (refine And.intro (And.intro rfl rfl) ?_))
        intro ρ; show Value.bool _ = Value.bool _; rw [hno]
    · by_cases hK : 0 ≤ t.K ∧ t.K ≤ 5
      · have hbt : (!betwB 0 t.K 5) = false := by simp [betwB]; omega
        have hps := pow_bd t.K hK.1 hK.2
        by_cases hr : rngP t
        · have ham : (!amtB (t.Oil ++ [t.Away]) (36000 * 16 ^ t.K.toNat)) = false := by rw [(rng_amt hK).2 hr]; rfl
          repeat ((conv => whnf); first
              | (refine And.intro (by first | omega | exact Nat.le_of_ble_eq_true rfl | (dsimp only [inK]; omega) | (simp only [mulS_eq]; omega) | (simp only [mulS_eq, setL_length]; omega) | (simp only [setL_length, List.length_map]; omega) | exact ⟨by omega, by omega, by first | exact Nat.le_of_ble_eq_true rfl | (dsimp only; omega) | (simp only [setL_length]; omega) | (simp only [setL_length, List.length_map]; omega)⟩ | exact ⟨by omega, by first | rfl | omega, by omega, Nat.le_of_ble_eq_true rfl, Nat.le_of_ble_eq_true rfl⟩ | exact ⟨rfl, rfl, rfl, Nat.le_of_ble_eq_true rfl, by first | rfl | omega | exact Nat.le_of_ble_eq_true rfl | (simp; done) | (simp; omega), by first | rfl | omega | exact Nat.le_of_ble_eq_true rfl | (simp; done) | (simp; omega), by omega, Nat.le_of_ble_eq_true rfl⟩ | exact Eq.refl true) ?_)
              | (refine Exists.intro _ (And.intro rfl ?_))
              | (refine And.intro (And.intro rfl (chk_rowI _ _ _ _)) ?_)
              | (refine br_t (by omega) ?_)
              | (refine br_f (by omega) ?_)
              | (refine bs_t (by omega) ?_)
              | (refine bs_f (by omega) ?_)
              | (refine fun (K' : K3) hK' => ?_)
              | (refine hK' _ _ _ ?_; clear hK' K')
              | (refine draw_kill [6] tok mixed (by kernel_rfl) ?_)
              | (refine draw_auto tok mixed (by kernel_rfl) ?_)
              | (refine HD_mk (fun _ h => between_k h) ?_)
              | (refine HD_mk (fun _ h => power_k hK h) ?_)
              | (refine HD_mk (fun _ h => clone_k (l := t.Oil) (by omega) rfl h) ?_)
              | (refine And.intro (And.intro rfl (chk_app _ t.Oil t.Away _ _)) ?_)
              | (refine HD_mk (fun _ h => amounts_k (l := t.Oil ++ [t.Away]) (by simp) (by simp; omega) (find_app rfl) h) ?_)
              | (refine br_bf hbt ?_)
              | (refine bs_bf hbt ?_)
              | (refine br_bf ham ?_)
              | (refine bs_bf ham ?_)
              | (refine And.intro (And.intro rfl rfl) ?_))
          refine ⟨2, [], ⟨by omega, fun _ => h1 (by omega), fun _ => hr⟩, by omega, ?_⟩
          refine ⟨?_, ?_, rfl, rfl, Nat.le_of_ble_eq_true rfl⟩
          · repeat (first | exact trivial | refine And.intro (covS_syn (by first | rfl) rfl (by first | exact trivial | exact Nat.le_of_ble_eq_true rfl)) ?_ | refine And.intro (covS_bool rfl rfl (by first | rfl)) ?_)
          · repeat (first | exact trivial | refine And.intro (covE_id (Nat.le_of_ble_eq_true rfl) (by first | exact wf_ints _ _ | exact wf_bools _ _ | fail | simp [C.wf]) rfl (by first | rfl | (fail))) ?_)
        · have hno := samB_false (s := s) (t := t) (fun h => hr h.2.1)
          have ham : (!amtB (t.Oil ++ [t.Away]) (36000 * 16 ^ t.K.toNat)) = true := by
            cases hh : amtB (t.Oil ++ [t.Away]) (36000 * 16 ^ t.K.toNat)
            · rfl
            · exact absurd ((rng_amt hK).1 hh) hr
          repeat ((conv => whnf); first
              | (refine And.intro (by first | omega | exact Nat.le_of_ble_eq_true rfl | (dsimp only [inK]; omega) | (simp only [mulS_eq]; omega) | (simp only [mulS_eq, setL_length]; omega) | (simp only [setL_length, List.length_map]; omega) | exact ⟨by omega, by omega, by first | exact Nat.le_of_ble_eq_true rfl | (dsimp only; omega) | (simp only [setL_length]; omega) | (simp only [setL_length, List.length_map]; omega)⟩ | exact ⟨by omega, by first | rfl | omega, by omega, Nat.le_of_ble_eq_true rfl, Nat.le_of_ble_eq_true rfl⟩ | exact ⟨rfl, rfl, rfl, Nat.le_of_ble_eq_true rfl, by first | rfl | omega | exact Nat.le_of_ble_eq_true rfl | (simp; done) | (simp; omega), by first | rfl | omega | exact Nat.le_of_ble_eq_true rfl | (simp; done) | (simp; omega), by omega, Nat.le_of_ble_eq_true rfl⟩ | exact Eq.refl true) ?_)
              | (refine Exists.intro _ (And.intro rfl ?_))
              | (refine And.intro (And.intro rfl (chk_rowI _ _ _ _)) ?_)
              | (refine br_t (by omega) ?_)
              | (refine br_f (by omega) ?_)
              | (refine bs_t (by omega) ?_)
              | (refine bs_f (by omega) ?_)
              | (refine fun (K' : K3) hK' => ?_)
              | (refine hK' _ _ _ ?_; clear hK' K')
              | (refine draw_kill [6] tok mixed (by kernel_rfl) ?_)
              | (refine draw_auto tok mixed (by kernel_rfl) ?_)
              | (refine HD_mk (fun _ h => between_k h) ?_)
              | (refine HD_mk (fun _ h => power_k hK h) ?_)
              | (refine HD_mk (fun _ h => clone_k (l := t.Oil) (by omega) rfl h) ?_)
              | (refine And.intro (And.intro rfl (chk_app _ t.Oil t.Away _ _)) ?_)
              | (refine HD_mk (fun _ h => amounts_k (l := t.Oil ++ [t.Away]) (by simp) (by simp; omega) (find_app rfl) h) ?_)
              | (refine br_bf hbt ?_)
              | (refine bs_bf hbt ?_)
              | (refine br_bt ham ?_)
              | (refine bs_bt ham ?_)
              | (refine And.intro (And.intro rfl rfl) ?_))
          intro ρ; show Value.bool _ = Value.bool _; rw [hno]
      · have hno := samB_false (s := s) (t := t) (fun h => hK h.2.1.1)
        have hbt : (!betwB 0 t.K 5) = true := by simp [betwB]; omega
        repeat ((conv => whnf); first
            | (refine And.intro (by first | omega | exact Nat.le_of_ble_eq_true rfl | (dsimp only [inK]; omega) | (simp only [mulS_eq]; omega) | (simp only [mulS_eq, setL_length]; omega) | (simp only [setL_length, List.length_map]; omega) | exact ⟨by omega, by omega, by first | exact Nat.le_of_ble_eq_true rfl | (dsimp only; omega) | (simp only [setL_length]; omega) | (simp only [setL_length, List.length_map]; omega)⟩ | exact ⟨by omega, by first | rfl | omega, by omega, Nat.le_of_ble_eq_true rfl, Nat.le_of_ble_eq_true rfl⟩ | exact ⟨rfl, rfl, rfl, Nat.le_of_ble_eq_true rfl, by first | rfl | omega | exact Nat.le_of_ble_eq_true rfl | (simp; done) | (simp; omega), by first | rfl | omega | exact Nat.le_of_ble_eq_true rfl | (simp; done) | (simp; omega), by omega, Nat.le_of_ble_eq_true rfl⟩ | exact Eq.refl true) ?_)
            | (refine Exists.intro _ (And.intro rfl ?_))
            | (refine And.intro (And.intro rfl (chk_rowI _ _ _ _)) ?_)
            | (refine br_t (by omega) ?_)
            | (refine br_f (by omega) ?_)
            | (refine bs_t (by omega) ?_)
            | (refine bs_f (by omega) ?_)
            | (refine fun (K' : K3) hK' => ?_)
            | (refine hK' _ _ _ ?_; clear hK' K')
            | (refine draw_kill [6] tok mixed (by kernel_rfl) ?_)
            | (refine draw_auto tok mixed (by kernel_rfl) ?_)
            | (refine HD_mk (fun _ h => between_k h) ?_)
            | (refine br_bt hbt ?_)
            | (refine bs_bt hbt ?_)
            | (refine And.intro (And.intro rfl rfl) ?_))
        intro ρ; show Value.bool _ = Value.bool _; rw [hno]
    · have hrs := h1 (by omega)
      have hrt := h2 (by omega)
      have hbs := rng_bd hrs
      have hbt := rng_bd hrt
      cases heq : eqfB s.Oil t.Oil (16 ^ t.K.toNat) (16 ^ s.K.toNat)
      · have hno := samB_false (s := s) (t := t) (fun h => by have := eqfB_true h.2.2.1; rw [heq] at this; cases this)
        repeat ((conv => whnf); first
            | (refine And.intro (by first | omega | exact Nat.le_of_ble_eq_true rfl | (dsimp only [inK]; omega) | (simp only [mulS_eq]; omega) | (simp only [mulS_eq, setL_length]; omega) | (simp only [setL_length, List.length_map]; omega) | exact ⟨by omega, by omega, by first | exact Nat.le_of_ble_eq_true rfl | (dsimp only; omega) | (simp only [setL_length]; omega) | (simp only [setL_length, List.length_map]; omega)⟩ | exact ⟨by omega, by first | rfl | omega, by omega, Nat.le_of_ble_eq_true rfl, Nat.le_of_ble_eq_true rfl⟩ | exact ⟨rfl, rfl, rfl, Nat.le_of_ble_eq_true rfl, by first | rfl | omega | exact Nat.le_of_ble_eq_true rfl | (simp; done) | (simp; omega), by first | rfl | omega | exact Nat.le_of_ble_eq_true rfl | (simp; done) | (simp; omega), by omega, Nat.le_of_ble_eq_true rfl⟩ | exact Eq.refl true) ?_)
            | (refine Exists.intro _ (And.intro rfl ?_))
            | (refine And.intro (And.intro rfl (chk_rowI _ _ _ _)) ?_)
            | (refine br_t (by omega) ?_)
            | (refine br_f (by omega) ?_)
            | (refine bs_t (by omega) ?_)
            | (refine bs_f (by omega) ?_)
            | (refine fun (K' : K3) hK' => ?_)
            | (refine hK' _ _ _ ?_; clear hK' K')
            | (refine draw_auto tok mixed (by kernel_rfl) ?_)
            | (refine equalF_k hrs hrt (by omega) (by omega) rfl rfl rfl rfl ?_)
            | (refine br_bf heq ?_)
            | (refine bs_bf heq ?_)
            | (refine And.intro (And.intro rfl rfl) ?_))
        intro ρ; show Value.bool _ = Value.bool _; rw [hno]
      · have hsame : samB s t = prB s.Away t.Away (16 ^ t.K.toNat) (16 ^ s.K.toNat) := by
          cases hpr : prB s.Away t.Away (16 ^ t.K.toNat) (16 ^ s.K.toNat)
          · exact samB_false (fun h => by have h3 := h.2.2.2; rw [hpr] at h3; cases h3)
          · exact samB_true ⟨hrs, hrt, by simpa [eqfB] using heq, hpr⟩
        repeat ((conv => whnf); first
            | (refine And.intro (by first | omega | exact Nat.le_of_ble_eq_true rfl | (dsimp only [inK]; omega) | (simp only [mulS_eq]; omega) | (simp only [mulS_eq, setL_length]; omega) | (simp only [setL_length, List.length_map]; omega) | exact ⟨by omega, by omega, by first | exact Nat.le_of_ble_eq_true rfl | (dsimp only; omega) | (simp only [setL_length]; omega) | (simp only [setL_length, List.length_map]; omega)⟩ | exact ⟨by omega, by first | rfl | omega, by omega, Nat.le_of_ble_eq_true rfl, Nat.le_of_ble_eq_true rfl⟩ | exact ⟨rfl, rfl, rfl, Nat.le_of_ble_eq_true rfl, by first | rfl | omega | exact Nat.le_of_ble_eq_true rfl | (simp; done) | (simp; omega), by first | rfl | omega | exact Nat.le_of_ble_eq_true rfl | (simp; done) | (simp; omega), by omega, Nat.le_of_ble_eq_true rfl⟩ | exact Eq.refl true) ?_)
            | (refine Exists.intro _ (And.intro rfl ?_))
            | (refine And.intro (And.intro rfl (chk_rowI _ _ _ _)) ?_)
            | (refine br_t (by omega) ?_)
            | (refine br_f (by omega) ?_)
            | (refine bs_t (by omega) ?_)
            | (refine bs_f (by omega) ?_)
            | (refine fun (K' : K3) hK' => ?_)
            | (refine hK' _ _ _ ?_; clear hK' K')
            | (refine draw_auto tok mixed (by kernel_rfl) ?_)
            | (refine equalF_k hrs hrt (by omega) (by omega) rfl rfl rfl rfl ?_)
            | (refine br_bt heq ?_)
            | (refine bs_bt heq ?_)
            | (refine same1_k hrs hrt hbs.2 hbt.2 rfl rfl ?_)
            | (refine And.intro (And.intro rfl rfl) ?_))
        intro ρ; show Value.bool _ = Value.bool _; rw [hsame]
theorem Same_any (sv tv : Value) (s t : Slk) (w : World) (hs : SlkAt w sv s) (ht : SlkAt w tv t) (hn1 : s.Oil.length ≤ 1000) (hm1 : t.Oil.length ≤ 1000) :
    Calls Try.prog 42 #[sv, tv] w fun e w' => e = .returned (.bool (samB s t)) ∧ Below w.heap.size w w' := by
  obtain ⟨ao, c, rfl, hi, hn⟩ := hs
  obtain ⟨bo, d, rfl, hj, hm⟩ := ht
  let ρ : Env := fun l => match l with | 0 => (ao, c) | _ => (bo, d)
  have hp : Hp w.heap.size ρ w [⟨0, .ro 0, s.Oil.map C.i⟩, ⟨1, .ro 0, t.Oil.map C.i⟩] 2 := by
    refine Hp.ros (fun e he => ?_) rfl
    simp only [List.mem_cons, List.not_mem_nil, or_false] at he
    rcases he with rfl | rfl
    · exact ⟨rfl, by simp, wf_ints _ _, by rw [den_ints]; exact hi⟩
    · exact ⟨rfl, by simp, wf_ints _ _, by rw [den_ints]; exact hj⟩
  have h := same_spec s t hn1 hm1 ρ w hp (by
    intro v hv
    simp only [List.mem_cons, List.not_mem_nil, or_false] at hv
    rcases hv with rfl | rfl <;> simp [V.wf, A.wf, C.wf, C.i])
  refine (show Calls Try.prog 42 #[.agg #[.int .i64 s.K, .slice ao s.Oil.length c, .int .i64 s.Away], .agg #[.int .i64 t.K, .slice bo t.Oil.length d, .int .i64 t.Away]] w _ from h).mono ?_
  rintro e w' ⟨v, ρ', L', nx', rfl, h1, h2, h3, h4, h5, h6⟩
  refine ⟨?_, h4⟩
  rw [h6 ρ']
  rfl
end Go.Proofs.Ytnafllhgjidbkaa

/- Sum of two slicks. -/
namespace Go.Proofs.Ytnafllhgjidbkaa
open Go.RowKit Go.Shelf
set_option linter.unusedVariables false
set_option linter.unusedSimpArgs false
theorem Aft.bump {W : World} (x : Aft W) {w1 : World} (h : Below x.val.heap.size x.val w1) : ∃ y : Aft W, y.val = w1 := ⟨⟨w1, x.bel.trans (h.mono x.bel.size)⟩, rfl⟩
theorem sumE_cases (B : Bay) (s t : Slk) : (validP B ∧ fitsP B s ∧ fitsP B t) ∨ (sumE B s t = askE B [s, t] ∧ askE B [s, t] ≠ 0 ∧ sumS B s t = ⟨0, [], 0⟩) := by
  by_cases h1 : validP B
  · by_cases h2 : fitsB B s = true ∧ fitsB B t = true
    · exact .inl ⟨h1, fitsB_iff.1 h2.1, fitsB_iff.1 h2.2⟩
    · have e1 : askE B [s, t] = 21 := by rw [askE_two, if_pos (validB_true h1), if_neg h2]
      have e2 : sumE B s t = 21 := by unfold sumE; rw [if_pos (validB_true h1), if_neg (fun h => h2 ⟨h.1, h.2.1⟩)]
      exact .inr ⟨by rw [e1, e2], by rw [e1]; decide, by unfold sumS; rw [e2, if_neg (by decide)]⟩
  · have e1 : askE B [s, t] = 20 := by rw [askE_two, if_neg (by rw [validB_false h1]; simp)]
    have e2 : sumE B s t = 20 := by unfold sumE; rw [if_neg (by rw [validB_false h1]; simp)]
    exact .inr ⟨by rw [e1, e2], by rw [e1]; decide, by unfold sumS; rw [e2, if_neg (by decide)]⟩
theorem sumE_bad {B : Bay} {s t : Slk} (hval : validP B) (h : ¬ (s.K = t.K ∧ fitsB B (addS s t) = true)) : sumE B s t = 21 ∧ sumS B s t = ⟨0, [], 0⟩ := by
  have e2 : sumE B s t = 21 := by unfold sumE; rw [if_pos (validB_true hval), if_neg (fun hh => h ⟨hh.2.2.1, hh.2.2.2⟩)]
  exact ⟨e2, by unfold sumS; rw [e2, if_neg (by decide)]⟩
theorem sumE_ok {B : Bay} {s t : Slk} (hval : validP B) (hs : fitsP B s) (ht : fitsP B t) (hk : s.K = t.K) (hf : fitsB B (addS s t) = true) : sumE B s t = 0 ∧ sumS B s t = addS s t := by
  have e2 : sumE B s t = 0 := by unfold sumE; rw [if_pos (validB_true hval), if_pos ⟨fitsB_true hs, fitsB_true ht, hk, hf⟩]
  exact ⟨e2, by unfold sumS; rw [e2, if_pos rfl]⟩

def mixL (a b : List Int) (k : Nat) : List Int := (List.range a.length).map (fun j => a.getD j 0 + if j < k then b.getD j 0 else 0)
theorem mixL_len (a b : List Int) (k : Nat) : (mixL a b k).length = a.length := by simp [mixL]
theorem mixL_get (a b : List Int) {k j : Nat} (h : j < a.length) : (mixL a b k).getD j 0 = a.getD j 0 + if j < k then b.getD j 0 else 0 := by
  unfold mixL; simp [List.getD_eq_getElem?_getD, h]
theorem mixL_zero (a b : List Int) : mixL a b 0 = a := list_ext_getD (mixL_len _ _ _) (fun j hj => by rw [mixL_get a b (by rwa [mixL_len] at hj)]; simp)
theorem mixL_all (a b : List Int) (h : a.length = b.length) : mixL a b a.length = addL a b := list_ext_getD (by rw [mixL_len, addL_len h]) (fun j hj => by
  rw [mixL_len] at hj; rw [mixL_get a b hj, addL_get h, if_pos hj])
theorem getD_set (l : List Int) (k j : Nat) (v : Int) (hk : k < l.length) : (l.set k v).getD j 0 = if j = k then v else l.getD j 0 := by
  rw [List.getD_eq_getElem?_getD, List.getElem?_set]
  by_cases e : k = j
  · subst e; simp [hk]
  · rw [if_neg e, if_neg (by omega), List.getD_eq_getElem?_getD]
theorem mixL_set (a b : List Int) {k : Nat} (h : k < a.length) : (mixL a b k).set k (a.getD k 0 + b.getD k 0) = mixL a b (k + 1) := list_ext_getD (by simp [mixL_len]) (fun j hj => by
  have hj' : j < a.length := by simpa [mixL_len] using hj
  rw [getD_set _ _ _ _ (by rw [mixL_len]; exact h), mixL_get a b hj', mixL_get a b hj']
  by_cases e : j = k
  · subst e; simp
  · rw [if_neg e]
    by_cases h1 : j < k
    · rw [if_pos h1, if_pos (by omega)]
    · rw [if_neg h1, if_neg (by omega)])
theorem own_open {w : World} {base : Nat} {v : Value} {l : List Int} (h : w.ownsRow base 3 1 v l.length (l.map (Value.int .i64))) (h0 : 0 < l.length) :
    ∃ g c rest, v = .slice (some ⟨g, 0, none⟩) l.length c ∧ base ≤ g ∧ w.heap[g]? = some (.cells (l.map (Value.int .i64) ++ rest).toArray 3 (0, 0)) := by
  obtain ⟨h1, ⟨rfl, h2⟩ | ⟨g, cap, cur, rfl, hb, hh, hn, hm, hs, ht⟩⟩ := h
  · omega
  · refine ⟨g, cap, cur.toList.drop l.length, rfl, hb, ?_⟩
    rw [hh, ← ht]
    simp
theorem ints_of_row {W : World} {g : Nat} {l : List Int} {rest : List Value} {t : TypeId} {f : Nat × Nat} (h : W.heap[g]? = some (.cells (l.map (Value.int .i64) ++ rest).toArray t f)) : IntsAt W (some ⟨g, 0, none⟩) l := by
  intro hne
  refine ⟨g, 0, rfl, heap_lt h, fun i hi => ?_⟩
  rw [Nat.zero_add, cell_of_heap h i]
  have hi' : i < l.length := by simpa using hi
  simp [List.getD_eq_getElem?_getD, List.getElem?_append_left, hi']
theorem row_get {W : World} {g : Nat} {l : List Int} {rest : List Value} {t : TypeId} {f : Nat × Nat} (h : W.heap[g]? = some (.cells (l.map (Value.int .i64) ++ rest).toArray t f)) {k : Nat} (hk : k < l.length) : W.cell? ⟨g, k, none⟩ = some (.int .i64 (l.getD k 0)) := by
  rw [cell_of_heap h k]
  simp [List.getD_eq_getElem?_getD, List.getElem?_append_left, hk]
theorem row_set {l : List Int} {rest : List Value} {k : Nat} (v : Int) (h : k < l.length) : (l.map (Value.int .i64) ++ rest).toArray.setIfInBounds k (.int .i64 v) = ((l.set k v).map (Value.int .i64) ++ rest).toArray := by
  simp [List.set_append, h, List.map_set]

theorem lim_le' {K : Int} (h0 : 0 ≤ K) (h5 : K ≤ 5) : lim K ≤ 37748736000 := by have := (pow_bd K h0 h5).2; unfold lim; omega
theorem cell3 {w : World} {b c o : Nat} {u v x : Value} (h : c ≠ b) : (((w.setCell ⟨b, 0, none⟩ u).setCell ⟨b, 1, none⟩ v).setCell ⟨b, 2, none⟩ x).cell? ⟨c, o, none⟩ = w.cell? ⟨c, o, none⟩ := by
  rw [World.cell?_of_block (a := ⟨c, o, none⟩) (heap_setCell_other h _), World.cell?_of_block (a := ⟨c, o, none⟩) (heap_setCell_other h _), World.cell?_of_block (a := ⟨c, o, none⟩) (heap_setCell_other h _)]
set_option maxRecDepth 100000 in
set_option maxHeartbeats 4000000 in
theorem Sum_any (v sv tv : Value) (B : Bay) (s t : Slk) (w : World) (hv : BayAt w v B) (hs : SlkAt w sv s) (ht : SlkAt w tv t) :
    Calls Try.prog 40 #[v, sv, tv] w (Aft3 w (sumS B s t) (sumE B s t)) := by
  have HV := Lib.hid (fun W (h : Below w.heap.size w W) => hv.below (Nat.le_refl _) h)
  have HS := Lib.hid (fun W (h : Below w.heap.size w W) => hs.below (Nat.le_refl _) h)
  have HT := Lib.hid (fun W (h : Below w.heap.size w W) => ht.below (Nat.le_refl _) h)
  obtain ⟨la, lc, sa, sc, rfl, hl, hsh, hll, hsl⟩ := hv
  obtain ⟨ao, c, rfl, hi, hn⟩ := hs
  obtain ⟨bo, d, rfl, hj, hm⟩ := ht
  have HI := Lib.hid (fun W (h : Below w.heap.size w W) => hi.below (Nat.le_refl _) h)
  have HJ := Lib.hid (fun W (h : Below w.heap.size w W) => hj.below (Nat.le_refl _) h)
  clear hl hsh hi hj
  have FF := Lib.hid (four_new (w := w) #[.int .i64 B.W, .int .i64 B.H, .slice la B.Land.length lc, .slice sa B.Share.length sc] #[.int .i64 s.K, .slice ao s.Oil.length c, .int .i64 s.Away] #[.int .i64 t.K, .slice bo t.Oil.length d, .int .i64 t.Away] #[.int .i64 0, .slice none 0 0, .int .i64 0] 25 28 28 28)
  go_enter Try.func40, Try.ntmps40
  go_wp2_with fail
  generalize hW : ((((w.alloc _).alloc _).alloc _).alloc _) = W at *
  clear hW
  obtain ⟨f0, f1, f2, f3, f4, f5⟩ := FF.out
  clear FF
  obtain ⟨x0, hx0⟩ : ∃ x : Aft W, x.val = W := ⟨⟨W, Below.refl _ W⟩, rfl⟩
  have F0 : Hid (Below w.heap.size w W) := f0
  have FZ : Hid (W.heap.size = w.heap.size + 4) := f1
  have FZ0 := Lib.hid (show x0.val.heap.size = w.heap.size + 4 by rw [hx0]; exact f1)
  have G0 : Hid (W.heap[w.heap.size]? = some (.cells #[.int .i64 B.W, .int .i64 B.H, .slice la B.Land.length lc, .slice sa B.Share.length sc] 25 (0, 0))) := f2
  have d0_0 : ∀ x : Aft W, x.val.cell? ⟨w.heap.size, 0, none⟩ = some (.int .i64 B.W) := fun x => cell_of_heap (x.heapH f2) 0
  have d0_1 : ∀ x : Aft W, x.val.cell? ⟨w.heap.size, 1, none⟩ = some (.int .i64 B.H) := fun x => cell_of_heap (x.heapH f2) 1
  have d0_2 : ∀ x : Aft W, x.val.cell? ⟨w.heap.size, 2, none⟩ = some (.slice la B.Land.length lc) := fun x => cell_of_heap (x.heapH f2) 2
  have d0_3 : ∀ x : Aft W, x.val.cell? ⟨w.heap.size, 3, none⟩ = some (.slice sa B.Share.length sc) := fun x => cell_of_heap (x.heapH f2) 3
  have e0_0 : ∀ (x : Aft W) (o : Obj), (x.val.alloc o).cell? ⟨w.heap.size, 0, none⟩ = some (.int .i64 B.W) := fun x o => cell_of_heap (heap_alloc_old (x.heapH f2) o) 0
  have e0_1 : ∀ (x : Aft W) (o : Obj), (x.val.alloc o).cell? ⟨w.heap.size, 1, none⟩ = some (.int .i64 B.H) := fun x o => cell_of_heap (heap_alloc_old (x.heapH f2) o) 1
  have e0_2 : ∀ (x : Aft W) (o : Obj), (x.val.alloc o).cell? ⟨w.heap.size, 2, none⟩ = some (.slice la B.Land.length lc) := fun x o => cell_of_heap (heap_alloc_old (x.heapH f2) o) 2
  have e0_3 : ∀ (x : Aft W) (o : Obj), (x.val.alloc o).cell? ⟨w.heap.size, 3, none⟩ = some (.slice sa B.Share.length sc) := fun x o => cell_of_heap (heap_alloc_old (x.heapH f2) o) 3
  have G1 : Hid (W.heap[w.heap.size + 1]? = some (.cells #[.int .i64 s.K, .slice ao s.Oil.length c, .int .i64 s.Away] 28 (0, 0))) := f3
  have d1_0 : ∀ x : Aft W, x.val.cell? ⟨w.heap.size + 1, 0, none⟩ = some (.int .i64 s.K) := fun x => cell_of_heap (x.heapH f3) 0
  have d1_1 : ∀ x : Aft W, x.val.cell? ⟨w.heap.size + 1, 1, none⟩ = some (.slice ao s.Oil.length c) := fun x => cell_of_heap (x.heapH f3) 1
  have d1_2 : ∀ x : Aft W, x.val.cell? ⟨w.heap.size + 1, 2, none⟩ = some (.int .i64 s.Away) := fun x => cell_of_heap (x.heapH f3) 2
  have e1_0 : ∀ (x : Aft W) (o : Obj), (x.val.alloc o).cell? ⟨w.heap.size + 1, 0, none⟩ = some (.int .i64 s.K) := fun x o => cell_of_heap (heap_alloc_old (x.heapH f3) o) 0
  have e1_1 : ∀ (x : Aft W) (o : Obj), (x.val.alloc o).cell? ⟨w.heap.size + 1, 1, none⟩ = some (.slice ao s.Oil.length c) := fun x o => cell_of_heap (heap_alloc_old (x.heapH f3) o) 1
  have e1_2 : ∀ (x : Aft W) (o : Obj), (x.val.alloc o).cell? ⟨w.heap.size + 1, 2, none⟩ = some (.int .i64 s.Away) := fun x o => cell_of_heap (heap_alloc_old (x.heapH f3) o) 2
  have G2 : Hid (W.heap[w.heap.size + 1 + 1]? = some (.cells #[.int .i64 t.K, .slice bo t.Oil.length d, .int .i64 t.Away] 28 (0, 0))) := f4
  have d2_0 : ∀ x : Aft W, x.val.cell? ⟨w.heap.size + 1 + 1, 0, none⟩ = some (.int .i64 t.K) := fun x => cell_of_heap (x.heapH f4) 0
  have d2_1 : ∀ x : Aft W, x.val.cell? ⟨w.heap.size + 1 + 1, 1, none⟩ = some (.slice bo t.Oil.length d) := fun x => cell_of_heap (x.heapH f4) 1
  have d2_2 : ∀ x : Aft W, x.val.cell? ⟨w.heap.size + 1 + 1, 2, none⟩ = some (.int .i64 t.Away) := fun x => cell_of_heap (x.heapH f4) 2
  have e2_0 : ∀ (x : Aft W) (o : Obj), (x.val.alloc o).cell? ⟨w.heap.size + 1 + 1, 0, none⟩ = some (.int .i64 t.K) := fun x o => cell_of_heap (heap_alloc_old (x.heapH f4) o) 0
  have e2_1 : ∀ (x : Aft W) (o : Obj), (x.val.alloc o).cell? ⟨w.heap.size + 1 + 1, 1, none⟩ = some (.slice bo t.Oil.length d) := fun x o => cell_of_heap (heap_alloc_old (x.heapH f4) o) 1
  have e2_2 : ∀ (x : Aft W) (o : Obj), (x.val.alloc o).cell? ⟨w.heap.size + 1 + 1, 2, none⟩ = some (.int .i64 t.Away) := fun x o => cell_of_heap (heap_alloc_old (x.heapH f4) o) 2
  have G3 : Hid (W.heap[w.heap.size + 1 + 1 + 1]? = some (.cells #[.int .i64 0, .slice none 0 0, .int .i64 0] 28 (0, 0))) := f5
  have d3_0 : ∀ x : Aft W, x.val.cell? ⟨w.heap.size + 1 + 1 + 1, 0, none⟩ = some (.int .i64 0) := fun x => cell_of_heap (x.heapH f5) 0
  have d3_1 : ∀ x : Aft W, x.val.cell? ⟨w.heap.size + 1 + 1 + 1, 1, none⟩ = some (.slice none 0 0) := fun x => cell_of_heap (x.heapH f5) 1
  have d3_2 : ∀ x : Aft W, x.val.cell? ⟨w.heap.size + 1 + 1 + 1, 2, none⟩ = some (.int .i64 0) := fun x => cell_of_heap (x.heapH f5) 2
  have e3_0 : ∀ (x : Aft W) (o : Obj), (x.val.alloc o).cell? ⟨w.heap.size + 1 + 1 + 1, 0, none⟩ = some (.int .i64 0) := fun x o => cell_of_heap (heap_alloc_old (x.heapH f5) o) 0
  have e3_1 : ∀ (x : Aft W) (o : Obj), (x.val.alloc o).cell? ⟨w.heap.size + 1 + 1 + 1, 1, none⟩ = some (.slice none 0 0) := fun x o => cell_of_heap (heap_alloc_old (x.heapH f5) o) 1
  have e3_2 : ∀ (x : Aft W) (o : Obj), (x.val.alloc o).cell? ⟨w.heap.size + 1 + 1 + 1, 2, none⟩ = some (.int .i64 0) := fun x o => cell_of_heap (heap_alloc_old (x.heapH f5) o) 2
  have z3 : ∀ (x : Aft W) (o : Nat), x.val.frozen? ⟨w.heap.size + 1 + 1 + 1, o, none⟩ = false := fun x o => free_of_heap (x.heapH f5) o
  rw [← hx0]
  clear hx0 f0 f1 f2 f3 f4 f5
  have hsl2 := slks_two (w := x0.val) (c := c) (d := d) (HI.out _ (Aft.off F0.out x0)) (HJ.out _ (Aft.off F0.out x0)) hn hm
  rw [FZ0.out] at hsl2
  have HC0 := Lib.hid (asked_any _ B _ 2 [s, t] _ hsl2 (HV.out _ ((Aft.off F0.out x0).alloc (Aft.off F0.out x0).size _)) (by simp))
  clear hsl2
  refine (HC0.out).mono ?_
  rintro e w1 ⟨rfl, hb⟩
  obtain ⟨x1, rfl, lk0'⟩ := x0.step (((Below.refl _ _).alloc (Nat.le_refl _) _).trans (hb.mono (by simp)))
  have lk0 := Lib.hid lk0'
  clear hb lk0'
  clear HC0
  have hlt3 : Hid (∀ x : Aft W, w.heap.size + 1 + 1 + 1 < x.val.heap.size) := fun x => by have := x.size_le; have := FZ.out; omega
  have zeroend : Hid (∀ (x : Aft W) (E : Int), sumE B s t = E → sumS B s t = ⟨0, [], 0⟩ → Aft3 w (sumS B s t) (sumE B s t) (.returned (.tuple #[.agg #[.int .i64 0, .slice none 0 0, .int .i64 0], .int .i64 E])) (((x.val.setCell ⟨w.heap.size + 1 + 1 + 1, 0, none⟩ (.int .i64 0)).setCell ⟨w.heap.size + 1 + 1 + 1, 1, none⟩ (.slice none 0 0)).setCell ⟨w.heap.size + 1 + 1 + 1, 2, none⟩ (.int .i64 0))) := by
    intro x E hE h0
    refine ⟨_, by rw [hE], ?_, (((Aft.off F0.out x).setCell (by simp; omega) _).setCell (by simp; omega) _).setCell (by simp; omega) _⟩
    rw [h0]
    exact zero_new _ _
  rcases sumE_cases B s t with ⟨hval, hf, hg⟩ | ⟨e1, e2, e3⟩
  case inr =>
    have HZ := Lib.hid (zeroend.out x1 _ e1 e3)
    have hsz := hlt3.out x1
    generalize askE B [s, t] = E at *
    have hb : (E != 0) = true := by simpa using e2
    clear zeroend e1 e2 e3
    go_wp2
    refine bodyPost_ret (v := .tuple #[.agg #[.int .i64 0, .slice none 0 0, .int .i64 0], .int .i64 E]) (by simp [results, Try.results40, go_sem, d3_0, d3_1, d3_2, hsz]) rfl HZ.out
  have h00 : askE B [s, t] = 0 := by rw [askE_two, if_pos (validB_true hval), if_pos ⟨fitsB_true hf, fitsB_true hg⟩]
  rw [h00]
  clear h00
  have hl1 := fits_pre hval hf
  have hl2 := fits_pre hval hg
  have h36 : 1 ≤ s.Oil.length ∧ s.Oil.length ≤ 36 := by have := mul36 hval.1.1 hval.1.2 hval.2.1.1 hval.2.1.2; have := hf.2.1; omega
  have hST := Lib.hid (show s.Oil.length = t.Oil.length by omega)
  have HVAL := Lib.hid hval
  have HFS := Lib.hid hf
  have HFT := Lib.hid hg
  have hbA : 0 ≤ s.Away ∧ s.Away ≤ 37748736000 := by have := hf.2.2.2; have := lim_le' hf.1.1 hf.1.2; have := sum_bd s.Oil (amt_range hf.2.2.1); omega
  have hbB : 0 ≤ t.Away ∧ t.Away ≤ 37748736000 := by have := hg.2.2.2; have := lim_le' hg.1.1 hg.1.2; have := sum_bd t.Oil (amt_range hg.2.2.1); omega
  have hbO : ∀ k, k < s.Oil.length → 0 ≤ s.Oil.getD k 0 ∧ s.Oil.getD k 0 ≤ 37748736000 := fun k hk => by have := amt_range hf.2.2.1 k hk; have := lim_le' hf.1.1 hf.1.2; omega
  have hbT : ∀ k, k < t.Oil.length → 0 ≤ t.Oil.getD k 0 ∧ t.Oil.getD k 0 ≤ 37748736000 := fun k hk => by have := amt_range hg.2.2.1 k hk; have := lim_le' hg.1.1 hg.1.2; omega
  have HBO := Lib.hid hbO
  have HBT := Lib.hid hbT
  clear hbO hbT
  clear hval hf hg hl1 hl2
  go_wp2_with fail
  rename_i KK hKK
  have key : Hid (∀ (bx g c' : Nat) (rest : List Value) (x2 : Aft W) (u0 u1 u2 u7 u8 u10 u11 u12 u13 u14 u15 u16 u17 u18 u19 u20 u21 u22 u23 u24 u25 u26 u27 u28 u29 u30 u31 u32 u33 u34 u35 u36 u37 u38 u39 u40 u41 u42 u43 u44 u45 u46 u47 u48 u49 u50 u51 u52 u53 u54 u55 u56 u57 u58 u59 u60 u61 : Value), w.heap.size + 4 ≤ bx → w.heap.size + 4 ≤ g → g ≠ bx → x2.val.heap[bx]? = some (.cells #[.int .i64 s.K, .slice (some ⟨g, 0, none⟩) s.Oil.length c', .int .i64 (s.Away + t.Away)] 28 (0, 0)) →
      x2.val.heap[g]? = some (.cells (s.Oil.map (Value.int .i64) ++ rest).toArray 3 (0, 0)) → KK { tmps := List.toArray (u0 :: u1 :: u2 :: (.pointer (some ⟨w.heap.size, 0, none⟩)) :: (.pointer (some ⟨w.heap.size + 1, 0, none⟩)) :: (.pointer (some ⟨w.heap.size + 1 + 1, 0, none⟩)) :: (.pointer (some ⟨w.heap.size + 1 + 1 + 1, 0, none⟩)) :: u7 :: u8 :: (.pointer (some ⟨bx, 0, none⟩)) :: u10 :: u11 :: u12 :: u13 :: u14 :: u15 :: u16 :: u17 :: u18 :: u19 :: u20 :: u21 :: u22 :: u23 :: u24 :: u25 :: u26 :: u27 :: u28 :: u29 :: u30 :: u31 :: u32 :: u33 :: u34 :: u35 :: u36 :: u37 :: u38 :: u39 :: u40 :: u41 :: u42 :: u43 :: u44 :: u45 :: u46 :: u47 :: u48 :: u49 :: u50 :: u51 :: u52 :: u53 :: u54 :: u55 :: u56 :: u57 :: u58 :: u59 :: u60 :: u61 :: []), defers := [] } x2.val) := by
    intro bx g c' rest x2 u0 u1 u2 u7 u8 u10 u11 u12 u13 u14 u15 u16 u17 u18 u19 u20 u21 u22 u23 u24 u25 u26 u27 u28 u29 u30 u31 u32 u33 u34 u35 u36 u37 u38 u39 u40 u41 u42 u43 u44 u45 u46 u47 u48 u49 u50 u51 u52 u53 u54 u55 u56 u57 u58 u59 u60 u61 hbx hg hne hB hG
    apply hKK
    have c0 := cell_of_heap hB 0
    have c1 := cell_of_heap hB 1
    have c2 := cell_of_heap hB 2
    simp at c0 c1 c2
    have hlb := heap_lt hB
    have hlg := heap_lt hG
    rw [← mixL_zero s.Oil t.Oil] at hG
    have HB := Lib.hid hB
    have HG := Lib.hid hG
    clear hB hG
    have hWle : W.heap.size ≤ g := by have := FZ.out; omega
    go_wp2_with fail
    clear c0 c1 c2 hlb hlg
    go_loopw [35] (fun i wr => ∃ (k : Nat) (x : Aft W), wr = x.val ∧ k ≤ t.Oil.length ∧ i = .int .i64 k ∧ x.val.heap[bx]? = some (.cells #[.int .i64 s.K, .slice (some ⟨g, 0, none⟩) s.Oil.length c', .int .i64 (s.Away + t.Away)] 28 (0, 0)) ∧
      x.val.heap[g]? = some (.cells ((mixL s.Oil t.Oil k).map (Value.int .i64) ++ rest).toArray 3 (0, 0))) (fun i _ => t.Oil.length - (intOf i).toNat)
    case atStart => exact ⟨0, x2, rfl, Nat.zero_le _, rfl, HB.out, HG.out⟩
    case round =>
      obtain ⟨k, x3, rfl, hk, rfl, hB, hG⟩ := hrel
      have c0 := cell_of_heap hB 0
      have c1 := cell_of_heap hB 1
      have c2 := cell_of_heap hB 2
      simp at c0 c1 c2
      have hlb := heap_lt hB
      have hlg := heap_lt hG
      by_cases hlt : k < t.Oil.length
      · have hks : k < s.Oil.length := by have := hST.out; omega
        have hks' : (k : Int) < s.Oil.length := by omega
        obtain ⟨bs, os, rfl, hbs, hcs⟩ := (HJ.out _ (Aft.off F0.out x3)).get hlt
        have hcg := row_get hG (k := k) (by rw [mixL_len]; exact hks)
        rw [mixL_get s.Oil t.Oil hks, if_neg (by omega), Int.add_zero] at hcg
        have hfg := free_of_heap hG k
        have hb1 := HBO.out k hks
        have hb2 := HBT.out k hlt
        have hset := heap_setCell_same hG (i := k) (.int .i64 (s.Oil.getD k 0 + t.Oil.getD k 0))
        rw [row_set _ (by rw [mixL_len]; exact hks), mixL_set _ _ hks] at hset
        have hbo := (heap_setCell_other (W := x3.val) (b := bx) (p := ⟨g, k, none⟩) (by show bx ≠ g; omega) (.int .i64 (s.Oil.getD k 0 + t.Oil.getD k 0))).trans hB
        have hbel := x3.bel.setCell (p := ⟨g, k, none⟩) (by show _ ≤ g; exact hWle) (.int .i64 (s.Oil.getD k 0 + t.Oil.getD k 0))
        have HSET := Lib.hid hset
        have HBO2 := Lib.hid hbo
        have HBEL := Lib.hid hbel
        clear hset hbo hbel
        clear hB hG
        generalize s.Oil.getD k 0 = u at *
        generalize t.Oil.getD k 0 = y at *
        go_wp2
        go_roundw
        case rel => exact ⟨k + 1, ⟨_, HBEL.out⟩, rfl, by omega, by go_num, HBO2.out, HSET.out⟩
        case measure => simp [intOf]; omega
      · obtain rfl : k = t.Oil.length := by omega
        rw [← hST.out, mixL_all _ _ hST.out] at hG
        have hsl : SlkAt x3.val (.agg #[.int .i64 s.K, .slice (some ⟨g, 0, none⟩) s.Oil.length c', .int .i64 (s.Away + t.Away)]) (addS s t) :=
          ⟨some ⟨g, 0, none⟩, c', by show _ = Value.agg #[_, .slice _ (addL s.Oil t.Oil).length _, _]; rw [addL_len hST.out]; rfl, ints_of_row hG, by show (addL s.Oil t.Oil).length < _; rw [addL_len hST.out]; omega⟩
        have hsz := hlt3.out x3
        by_cases hK : s.K = t.K
        · have hb : (s.K != t.K) = false := by simp [hK]
          have hfc := fits_any _ _ B (addS s t) x3.val (HV.out _ (Aft.off F0.out x3)) hsl HVAL.out
          cases hfB : fitsB B (addS s t)
          · obtain ⟨e1, e2⟩ := sumE_bad (B := B) (s := s) (t := t) HVAL.out (fun h => by rw [hfB] at h; cases h.2)
            rw [hfB] at hfc
            have HZ := Lib.hid (fun x => zeroend.out x _ e1 e2)
            have HFC := Lib.hid hfc
            have HG2 := Lib.hid hG
            have HB2 := Lib.hid hB
            have HSL := Lib.hid hsl
            clear hfc hG hB hsl
            clear hK e1 e2 hfB zeroend
            go_wp2_with fail
            refine (HFC.out).mono ?_
            rintro e w1 ⟨rfl, hb⟩
            obtain ⟨x4, rfl, lk3'⟩ := x3.step (hb)
            have lk3 := Lib.hid lk3'
            clear hb lk3'
            have hsz4 := hlt3.out x4
            go_wp2
            refine bodyPost_ret (v := .tuple #[.agg #[.int .i64 0, .slice none 0 0, .int .i64 0], .int .i64 21]) (by simp [results, Try.results40, go_sem, d3_0, d3_1, d3_2, hsz4]) rfl (HZ.out x4)
          · have HI3 : Hid (IntsAt x3.val (some ⟨g, 0, none⟩) (addS s t).Oil) := ints_of_row hG
            obtain ⟨e1, e2⟩ := sumE_ok HVAL.out HFS.out HFT.out hK hfB
            rw [hfB] at hfc
            have HFC := Lib.hid hfc
            have HG2 := Lib.hid hG
            have HB2 := Lib.hid hB
            have HSL := Lib.hid hsl
            have E1 := Lib.hid e1
            have E2 := Lib.hid e2
            clear hfc hG hB hsl e1 e2
            clear hK hfB zeroend
            go_wp2_with fail
            refine (HFC.out).mono ?_
            rintro e w1 ⟨rfl, hb⟩
            obtain ⟨x4, rfl, lk3'⟩ := x3.step (hb)
            have lk3 := Lib.hid lk3'
            clear hb lk3'
            have hsz4 := hlt3.out x4
            have hB4 := (lk3.out.block _ (heap_lt HB2.out)).trans HB2.out
            have hI4 : IntsAt x4.val (some ⟨g, 0, none⟩) (addS s t).Oil := HI3.out.below (Nat.le_refl _) lk3.out
            have c0 := cell_of_heap hB4 0
            have c1 := cell_of_heap hB4 1
            have c2 := cell_of_heap hB4 2
            simp at c0 c1 c2
            have E3 := Lib.hid (res3 (x4.heapH G3.out) (.int .i64 s.K) (.slice (some ⟨g, 0, none⟩) s.Oil.length c') (.int .i64 (s.Away + t.Away)))
            have HB4 := Lib.hid hB4
            have HI4 := Lib.hid hI4
            clear hB4 hI4
            go_wp2
            obtain ⟨r0, r1, r2⟩ := res3c E3.out
            refine bodyPost_ret (v := .tuple #[.agg #[.int .i64 s.K, .slice (some ⟨g, 0, none⟩) s.Oil.length c', .int .i64 (s.Away + t.Away)], .int .i64 0]) (by simp [results, Try.results40, go_sem, r0, r1, r2]) rfl ?_
            rw [E1.out, E2.out]
            have hal : (addS s t).Oil.length = s.Oil.length := addL_len hST.out
            refine ⟨_, rfl, ⟨some ⟨g, 0, none⟩, c', by rw [hal]; rfl, ?_, by rw [hal]; omega, ?_⟩, ?_⟩
            · have h2 : ∀ a, some (⟨g, 0, none⟩ : Addr) = some a → a.block ≠ w.heap.size + 1 + 1 + 1 := fun a ha => by cases ha; show g ≠ _; omega
              exact IntsAt.setCell (IntsAt.setCell (IntsAt.setCell HI4.out h2 _) h2 _) h2 _
            · intro a ha; cases ha; show _ ≤ g; omega
            · exact (((Aft.off F0.out x4).setCell (by simp; omega) _).setCell (by simp; omega) _).setCell (by simp; omega) _
        · have hb : (s.K != t.K) = true := by simpa using hK
          obtain ⟨e1, e2⟩ := sumE_bad (B := B) (s := s) (t := t) HVAL.out (fun h => hK h.1)
          have HZ := Lib.hid (zeroend.out x3 _ e1 e2)
          have HG2 := Lib.hid hG
          have HB2 := Lib.hid hB
          have HSL := Lib.hid hsl
          clear hG hB hsl
          clear hK e1 e2 zeroend
          go_wp2
          refine bodyPost_ret (v := .tuple #[.agg #[.int .i64 0, .slice none 0 0, .int .i64 0], .int .i64 21]) (by simp [results, Try.results40, go_sem, d3_0, d3_1, d3_2, hsz]) rfl HZ.out
  clear hKK
  have hwA : IntKind.i64.wrap (s.Away + t.Away) = s.Away + t.Away := IntWalk.i64_in _ (by omega)
  have HWA := Lib.hid hwA
  clear hwA
  have q0 := d1_0 x1
  have q1 := d1_1 x1
  have q2 := d1_2 x1
  have q3 := d2_2 x1
  have hx1 := Lib.hid x1.bel
  have HN1 := Lib.hid (show w.heap.size + 1 ≠ x1.val.heap.size by have := x1.size_le; have := FZ.out; omega)
  have HN2 := Lib.hid (show w.heap.size + 1 + 1 ≠ x1.val.heap.size by have := x1.size_le; have := FZ.out; omega)
  go_region_held3 (fun w' => w'.cell? ⟨w.heap.size + 1, 0, none⟩ = some (.int .i64 s.K) ∧ w'.cell? ⟨w.heap.size + 1, 1, none⟩ = some (.slice ao s.Oil.length c) ∧ w'.cell? ⟨w.heap.size + 1, 2, none⟩ = some (.int .i64 s.Away) ∧ w'.cell? ⟨w.heap.size + 1 + 1, 2, none⟩ = some (.int .i64 t.Away)) (first | (with_reducible exact ⟨d1_0 y, d1_1 y, d1_2 y, d2_2 y⟩) | (with_reducible exact ⟨e1_0 y _, e1_1 y _, e1_2 y _, e2_2 y _⟩) | (with_reducible exact ⟨(cell3 HN1.out).trans (d1_0 y), (cell3 HN1.out).trans (d1_1 y), (cell3 HN1.out).trans (d1_2 y), (cell3 HN2.out).trans (d2_2 y)⟩) | go_keep) (first | (go_at_call 71; refine (clone_any ao c s.Oil _ (HI.out _ (by first | exact (Aft.off F0.out x1).drew | exact ((Aft.off F0.out x1).alloc (Aft.off F0.out x1).size _).drew)) (by omega)).mono ?_; rintro e w5 ⟨rv, rfl, hown, hb⟩; have hbW : Below W.heap.size W w5 := (by first | exact hx1.out.drew.trans (hb.mono hx1.out.size) | exact ((hx1.out.alloc hx1.out.size _).drew).trans (hb.mono (by have := hx1.out.size; simp; omega))); obtain ⟨y, rfl⟩ : ∃ y : Aft W, y.val = w5 := ⟨⟨w5, hbW⟩, rfl⟩; obtain ⟨g, c5, rest, rfl, hg, hG⟩ := own_open hown (by omega); have HG5 := Lib.hid hG; have HB5 := Lib.hid hb; clear hbW hown hG; first | (have k : y.val.heap[x1.val.heap.size]? = some (.cells #[.int .i64 0, .slice none 0 0, .int .i64 0] 28 (0, 0)) := (hb.block x1.val.heap.size (by simp)).trans (World.alloc_heap_new _ _); have k0 := cell_of_heap k 0; have k1 := cell_of_heap k 1; have k2 := cell_of_heap k 2; simp at k0 k1 k2; have kf : ∀ o, y.val.frozen? ⟨x1.val.heap.size, o, none⟩ = false := fun o => free_of_heap k o; have klt := heap_lt k; have KB := Lib.hid k; clear hb k) | clear hb))
  · obtain ⟨z, hz⟩ : ∃ z : Aft W, z.val = y.val.alloc (.cells #[.int .i64 s.K, .slice (some ⟨g, 0, none⟩) s.Oil.length c5, .int .i64 (IntKind.i64.wrap (s.Away + t.Away))] 28) := ⟨⟨_, y.bel.alloc y.bel.size _⟩, rfl⟩
    have hB := World.alloc_heap_new y.val (.cells #[.int .i64 s.K, .slice (some ⟨g, 0, none⟩) s.Oil.length c5, .int .i64 (IntKind.i64.wrap (s.Away + t.Away))] 28)
    have hG := heap_alloc_old HG5.out (.cells #[.int .i64 s.K, .slice (some ⟨g, 0, none⟩) s.Oil.length c5, .int .i64 (IntKind.i64.wrap (s.Away + t.Away))] 28)
    rw [← hz] at hB hG ⊢
    rw [HWA.out] at hB
    have h1 := y.size_le
    have h2 := FZ.out
    have h3 := heap_lt HG5.out
    have h4 : x1.val.heap.size ≤ g := hg
    have h5 := x1.size_le
    show KK _ _
    exact key.out y.val.heap.size g c5 rest z _ _ _ _ _ _ _ _ _ _ _ _ _ _ _ _ _ _ _ _ _ _ _ _ _ _ _ _ _ _ _ _ _ _ _ _ _ _ _ _ _ _ _ _ _ _ _ _ _ _ _ _ _ _ _ _ _ (by omega) (by omega) (by omega) hB hG
  · obtain ⟨z, hz⟩ : ∃ z : Aft W, z.val = ((y.val.setCell ⟨x1.val.heap.size, 0, none⟩ (.int .i64 s.K)).setCell ⟨x1.val.heap.size, 1, none⟩ (.slice (some ⟨g, 0, none⟩) s.Oil.length c5)).setCell ⟨x1.val.heap.size, 2, none⟩ (.int .i64 (IntKind.i64.wrap (s.Away + t.Away))) :=
      ⟨⟨_, ((y.bel.setCell (p := ⟨x1.val.heap.size, 0, none⟩) x1.size_le _).setCell (p := ⟨x1.val.heap.size, 1, none⟩) x1.size_le _).setCell (p := ⟨x1.val.heap.size, 2, none⟩) x1.size_le _⟩, rfl⟩
    have hB := res3 KB.out (.int .i64 s.K) (.slice (some ⟨g, 0, none⟩) s.Oil.length c5) (.int .i64 (IntKind.i64.wrap (s.Away + t.Away)))
    have h4 : x1.val.heap.size + 1 ≤ g := by simpa using hg
    have hne : g ≠ x1.val.heap.size := by omega
    have hG : (((y.val.setCell ⟨x1.val.heap.size, 0, none⟩ (.int .i64 s.K)).setCell ⟨x1.val.heap.size, 1, none⟩ (.slice (some ⟨g, 0, none⟩) s.Oil.length c5)).setCell ⟨x1.val.heap.size, 2, none⟩ (.int .i64 (IntKind.i64.wrap (s.Away + t.Away)))).heap[g]? = some (.cells (s.Oil.map (Value.int .i64) ++ rest).toArray 3 (0, 0)) := by
      rw [heap_setCell_other hne, heap_setCell_other hne, heap_setCell_other hne]; exact HG5.out
    rw [← hz] at hB hG ⊢
    rw [HWA.out] at hB
    have h2 := FZ.out
    have h5 := x1.size_le
    show KK _ _
    exact key.out x1.val.heap.size g c5 rest z _ _ _ _ _ _ _ _ _ _ _ _ _ _ _ _ _ _ _ _ _ _ _ _ _ _ _ _ _ _ _ _ _ _ _ _ _ _ _ _ _ _ _ _ _ _ _ _ _ _ _ _ _ _ _ _ _ (by omega) (by omega) (by omega) hB hG
end Go.Proofs.Ytnafllhgjidbkaa

/- The laws' callees, as the calculus takes them. -/
namespace Go.Proofs.Ytnafllhgjidbkaa
open Go.RowKit
set_option linter.unusedVariables false
set_option linter.unusedSimpArgs false
theorem Long_k {n0 nx a b : Nat} {L : List E} {K : V → List E → Nat → Prop} (B : Bay) (hK : K (V.c (.bool (decide (100 < B.Land.length ∨ 100 < B.Share.length)))) [] nx) :
    CallK Try.prog n0 15 [V.agg [C.i B.W, C.i B.H, C.sl a B.Land.length, C.sl b B.Share.length]] L nx K :=
  CallK.old (u := V.c (.bool (decide (100 < B.Land.length ∨ 100 < B.Share.length)))) (by kernel_rfl) trivial (fun ρ w hp => Long_any B w _ _ _ _) hK
theorem long_k {n0 nx a : Nat} {L : List E} {K : V → List E → Nat → Prop} (s : Slk) (hK : K (V.c (.bool (decide (100 < s.Oil.length)))) [] nx) :
    CallK Try.prog n0 16 [V.agg [C.i s.K, C.sl a s.Oil.length, C.i s.Away]] L nx K :=
  CallK.old (u := V.c (.bool (decide (100 < s.Oil.length)))) (by kernel_rfl) trivial (fun ρ w hp => long_any s w _ _) hK
theorem Sane_k {n0 nx : Nat} {L : List E} {K : V → List E → Nat → Prop} (hK : K (V.c (.bool true)) [] nx) : CallK Try.prog n0 17 [] L nx K :=
  CallK.old (u := V.c (.bool true)) (by kernel_rfl) trivial (fun ρ w hp => Sane_any w) hK
theorem CallK.oldA3 {n0 nx : Nat} {f : FuncId} {vs : List V} {L : List E} {K : V → List E → Nat → Prop} {S : Slk} {Er : Int} (hok : callB Try.prog f = true)
    (h : ∀ ρ w, Hp n0 ρ w L nx → Calls Try.prog f (vs.map (V.den ρ)).toArray w (Aft3 w S Er))
    (hK : K (V.tup [A.agg [C.i S.K, C.sl nx S.Oil.length, C.i S.Away], A.c (C.i Er)]) [⟨nx, .ro 0, S.Oil.map C.i⟩] (nx + 1)) : CallK Try.prog n0 f vs L nx K := by
  refine CallK.oldRo (l := S.Oil) (u := V.tup [A.agg [C.i S.K, C.sl nx S.Oil.length, C.i S.Away], A.c (C.i Er)]) hok (by simp [V.wf, A.wf, C.wf, C.i]) (fun ρ w hp => (h ρ w hp).mono ?_) hK
  rintro e w' ⟨rv, rfl, ⟨ao, c, rfl, hi, hn, hblk⟩, hbw⟩
  refine ⟨ao, c, ?_, hi, hblk, hbw⟩
  simp [V.den, A.den, C.den, C.i, Env.put_same]
section
variable {n0 nx a b c d : Nat} {ka kb kc kd : Kd} {L : List E} {K : V → List E → Nat → Prop} {B : Bay} {s t : Slk}
theorem Sum_k (hll : B.Land.length ≤ 100) (hsl : B.Share.length ≤ 100) (hn : s.Oil.length < 1152921504606846976) (hm : t.Oil.length < 1152921504606846976)
    (ha : find L a = some ⟨a, ka, B.Land.map C.bool⟩) (hb : find L b = some ⟨b, kb, shareC B.Share⟩) (hc : find L c = some ⟨c, kc, s.Oil.map C.i⟩) (hd : find L d = some ⟨d, kd, t.Oil.map C.i⟩)
    (hK : K (V.tup [A.agg [C.i (sumS B s t).K, C.sl nx (sumS B s t).Oil.length, C.i (sumS B s t).Away], A.c (C.i (sumE B s t))]) [⟨nx, .ro 0, (sumS B s t).Oil.map C.i⟩] (nx + 1)) :
    CallK Try.prog n0 40 [V.agg [C.i B.W, C.i B.H, C.sl a B.Land.length, C.sl b B.Share.length], V.agg [C.i s.K, C.sl c s.Oil.length, C.i s.Away], V.agg [C.i t.K, C.sl d t.Oil.length, C.i t.Away]] L nx K :=
  CallK.oldA3 (by kernel_rfl) (fun ρ w hp => Sum_any _ _ _ B s t w (bay_of hp ha hb hll hsl) (slk_of hp hc hn) (slk_of hp hd hm)) hK
theorem rSum_k (hll : B.Land.length ≤ 100) (hsl : B.Share.length ≤ 100) (hn : s.Oil.length < 1152921504606846976) (hm : t.Oil.length < 1152921504606846976)
    (ha : find L a = some ⟨a, ka, B.Land.map C.bool⟩) (hb : find L b = some ⟨b, kb, shareC B.Share⟩) (hc : find L c = some ⟨c, kc, s.Oil.map C.i⟩) (hd : find L d = some ⟨d, kd, t.Oil.map C.i⟩)
    (hK : K (V.tup [A.agg [C.i (sumS B s t).K, C.sl nx (sumS B s t).Oil.length, C.i (sumS B s t).Away], A.c (C.i (sumE B s t))]) [⟨nx, .ro 0, (sumS B s t).Oil.map C.i⟩] (nx + 1)) :
    CallK Try.prog n0 41 [V.agg [C.i B.W, C.i B.H, C.sl a B.Land.length, C.sl b B.Share.length], V.agg [C.i s.K, C.sl c s.Oil.length, C.i s.Away], V.agg [C.i t.K, C.sl d t.Oil.length, C.i t.Away]] L nx K :=
  CallK.oldA3 (by kernel_rfl) (fun ρ w hp => rsum_any _ _ _ B s t w (bay_of hp ha hb hll hsl) (slk_of hp hc hn) (slk_of hp hd hm)) hK
theorem After_k {n : Int} (hll : B.Land.length ≤ 100) (hsl : B.Share.length ≤ 100) (hn : s.Oil.length < 1152921504606846976) (hnn : -9223372036854775808 ≤ n ∧ n ≤ 9223372036854775807)
    (ha : find L a = some ⟨a, ka, B.Land.map C.bool⟩) (hb : find L b = some ⟨b, kb, shareC B.Share⟩) (hc : find L c = some ⟨c, kc, s.Oil.map C.i⟩)
    (hK : K (V.tup [A.agg [C.i (aftS B s n).K, C.sl nx (aftS B s n).Oil.length, C.i (aftS B s n).Away], A.c (C.i (aftE B s n))]) [⟨nx, .ro 0, (aftS B s n).Oil.map C.i⟩] (nx + 1)) :
    CallK Try.prog n0 20 [V.agg [C.i B.W, C.i B.H, C.sl a B.Land.length, C.sl b B.Share.length], V.agg [C.i s.K, C.sl c s.Oil.length, C.i s.Away], V.i n] L nx K :=
  CallK.oldA3 (by kernel_rfl) (fun ρ w hp => After_any _ _ B s n w (bay_of hp ha hb hll hsl) (slk_of hp hc hn) hnn) hK
theorem equal_k (hn : s.Oil.length ≤ 1000000) (hm : t.Oil.length ≤ 1000000) (hc : find L c = some ⟨c, kc, s.Oil.map C.i⟩) (hd : find L d = some ⟨d, kd, t.Oil.map C.i⟩) (hK : K (V.c (.bool (eqSlk s t))) [] nx) :
    CallK Try.prog n0 22 [V.agg [C.i s.K, C.sl c s.Oil.length, C.i s.Away], V.agg [C.i t.K, C.sl d t.Oil.length, C.i t.Away]] L nx K :=
  CallK.old (u := V.c (.bool (eqSlk s t))) (by kernel_rfl) trivial (fun ρ w hp => equal_any _ _ _ _ s t w (ints_of hp hc) (ints_of hp hd) hn hm) hK
theorem Same_k (hn : s.Oil.length ≤ 1000) (hm : t.Oil.length ≤ 1000) (hc : find L c = some ⟨c, kc, s.Oil.map C.i⟩) (hd : find L d = some ⟨d, kd, t.Oil.map C.i⟩) (hK : K (V.c (.bool (samB s t))) [] nx) :
    CallK Try.prog n0 42 [V.agg [C.i s.K, C.sl c s.Oil.length, C.i s.Away], V.agg [C.i t.K, C.sl d t.Oil.length, C.i t.Away]] L nx K :=
  CallK.old (u := V.c (.bool (samB s t))) (by kernel_rfl) trivial (fun ρ w hp => Same_any _ _ s t w (slk_of hp hc (by omega)) (slk_of hp hd (by omega)) hn hm) hK
theorem rSame_k (hn : s.Oil.length ≤ 1000) (hm : t.Oil.length ≤ 1000) (hc : find L c = some ⟨c, kc, s.Oil.map C.i⟩) (hd : find L d = some ⟨d, kd, t.Oil.map C.i⟩) (hK : K (V.c (.bool (samB s t))) [] nx) :
    CallK Try.prog n0 43 [V.agg [C.i s.K, C.sl c s.Oil.length, C.i s.Away], V.agg [C.i t.K, C.sl d t.Oil.length, C.i t.Away]] L nx K :=
  CallK.old (u := V.c (.bool (samB s t))) (by kernel_rfl) trivial (fun ρ w hp => rSame_any _ _ s t w (slk_of hp hc (by omega)) (slk_of hp hd (by omega))) hK
end
theorem sumS_100 {B : Bay} {s t : Slk} (hs : s.Oil.length ≤ 100) : (sumS B s t).Oil.length ≤ 100 := by
  unfold sumS
  split
  · show (List.zipWith _ _ _).length ≤ _
    rw [List.length_zipWith]; omega
  · simp
end Go.Proofs.Ytnafllhgjidbkaa

/- has (law 14). -/
namespace Go.Proofs.Ytnafllhgjidbkaa
open Go.RowKit
set_option linter.unusedVariables false
set_option linter.unusedSimpArgs false
/-- Whether n lies among the first k. -/
def hasR (l : List Int) (n : Int) (k : Nat) : Bool := (l.take k).contains n
theorem hasR_succ {l : List Int} {n : Int} {k : Nat} (h : k < l.length) : hasR l n (k + 1) = (hasR l n k || decide (l.getD k 0 = n)) := by
  unfold hasR
  have e : l.getD k 0 = l[k] := by simp [List.getD_eq_getElem?_getD, h]
  rw [List.take_add_one, List.getElem?_eq_getElem h, e, Bool.eq_iff_iff]
  simp only [List.contains_iff_mem, Bool.or_eq_true, decide_eq_true_eq, List.mem_append, Option.toList_some, List.mem_singleton]
  exact ⟨fun h => h.imp id (·.symm), fun h => h.imp id (·.symm)⟩
theorem has_spec (l : List Int) (n : Int) (hl : l.length ≤ 1000) :
    Spec Try.prog 57 [V.c (.sl 0 l.length), V.i n] [⟨0, .ro 0, l.map C.i⟩] 1 (Is (V.c (.bool (hasR l n l.length)))) := by
  refine Spec.of tok Try.func57 rfl rfl rfl fun n0 => vc_ok tok ?_
  repeat ((conv => whnf); first
      | (refine And.intro (by first | omega | exact Nat.le_of_ble_eq_true rfl | (dsimp only [inK]; omega) | (simp only [mulS_eq]; omega) | (simp only [mulS_eq, setL_length]; omega) | (simp only [setL_length, List.length_map]; omega) | exact ⟨by omega, by omega, by first | exact Nat.le_of_ble_eq_true rfl | (dsimp only; omega) | (simp only [setL_length]; omega) | (simp only [setL_length, List.length_map]; omega)⟩ | exact ⟨by omega, by first | rfl | omega, by omega, Nat.le_of_ble_eq_true rfl, Nat.le_of_ble_eq_true rfl⟩ | exact ⟨rfl, rfl, rfl, Nat.le_of_ble_eq_true rfl, by first | rfl | omega | exact Nat.le_of_ble_eq_true rfl | (simp; done) | (simp; omega), by first | rfl | omega | exact Nat.le_of_ble_eq_true rfl | (simp; done) | (simp; omega), by omega, Nat.le_of_ble_eq_true rfl⟩ | exact Eq.refl true) ?_)
      | (refine Exists.intro _ (And.intro rfl ?_))
      | (refine And.intro (And.intro rfl (chk_rowI _ _ _ _)) ?_)
      | (refine br_t (by omega) ?_)
      | (refine br_f (by omega) ?_)
      | (refine bs_t (by omega) ?_)
      | (refine bs_f (by omega) ?_)
      | (refine fun (K' : K3) hK' => ?_)
      | (refine hK' _ _ _ ?_; clear hK' K')
      | (refine draw_auto tok mixed (by kernel_rfl) ?_)
      | (refine And.intro (And.intro rfl rfl) ?_))
  refine Tri.loop (γ := Nat) (fun k => k ≤ l.length ∧ hasR l n k = false) (fun k => [(0, V.c (.sl 0 l.length)), (1, V.i n), (5, V.i (k : Int))])
    (fun k => [⟨0, .ro 0, l.map C.i⟩]) 1 (fun k => l.length - k) 0 (R0 := []) ?_ ?_ ?_
  · exact ⟨by omega, by simp [hasR]⟩
  · skip
    refine ⟨?_, ?_, rfl, rfl, Nat.le_of_ble_eq_true rfl⟩
    · repeat (first | exact trivial | refine And.intro (covS_syn (by first | rfl) rfl (by first | exact trivial | exact Nat.le_of_ble_eq_true rfl)) ?_ | refine And.intro (covS_bool rfl rfl (by first | rfl)) ?_)
    · repeat (first | exact trivial | refine And.intro (covE_id (Nat.le_of_ble_eq_true rfl) (by first | exact wf_ints _ _ | exact wf_bools _ _ | fail | simp [C.wf]) rfl (by first | rfl)) ?_)
  · rintro k ⟨hk, hno⟩
    refine vc_ok tok ?_
    by_cases hlt : k < l.length
    · by_cases he : l.getD k 0 = n
      · have hyes : hasR l n l.length = true := by
          unfold hasR
          rw [List.take_length]
          rw [List.getD_eq_getElem?_getD, List.getElem?_eq_getElem hlt] at he
          simp only [Option.getD_some] at he
          rw [← he]; simp
        repeat ((conv => whnf); first
            | (refine And.intro (by first | omega | exact Nat.le_of_ble_eq_true rfl | (dsimp only [inK]; omega) | (simp only [mulS_eq]; omega) | (simp only [mulS_eq, setL_length]; omega) | (simp only [setL_length, List.length_map]; omega) | exact ⟨by omega, by omega, by first | exact Nat.le_of_ble_eq_true rfl | (dsimp only; omega) | (simp only [setL_length]; omega) | (simp only [setL_length, List.length_map]; omega)⟩ | exact ⟨by omega, by first | rfl | omega, by omega, Nat.le_of_ble_eq_true rfl, Nat.le_of_ble_eq_true rfl⟩ | exact ⟨rfl, rfl, rfl, Nat.le_of_ble_eq_true rfl, by first | rfl | omega | exact Nat.le_of_ble_eq_true rfl | (simp; done) | (simp; omega), by first | rfl | omega | exact Nat.le_of_ble_eq_true rfl | (simp; done) | (simp; omega), by omega, Nat.le_of_ble_eq_true rfl⟩ | exact Eq.refl true) ?_)
            | (with_reducible refine ld (intL hlt) ?_)
            | (refine Exists.intro _ (And.intro rfl ?_))
            | (refine And.intro (And.intro rfl (chk_rowI _ _ _ _)) ?_)
            | (refine br_t (by omega) ?_)
            | (refine br_f (by omega) ?_)
            | (refine bs_t (by omega) ?_)
            | (refine bs_f (by omega) ?_)
            | (refine fun (K' : K3) hK' => ?_)
            | (refine hK' _ _ _ ?_; clear hK' K')
            | (refine draw_auto tok mixed (by kernel_rfl) ?_)
            | (refine And.intro (And.intro rfl rfl) ?_))
        intro ρ; show Value.bool _ = Value.bool _; rw [hyes]
      · repeat ((conv => whnf); first
            | (refine And.intro (by first | omega | exact Nat.le_of_ble_eq_true rfl | (dsimp only [inK]; omega) | (simp only [mulS_eq]; omega) | (simp only [mulS_eq, setL_length]; omega) | (simp only [setL_length, List.length_map]; omega) | exact ⟨by omega, by omega, by first | exact Nat.le_of_ble_eq_true rfl | (dsimp only; omega) | (simp only [setL_length]; omega) | (simp only [setL_length, List.length_map]; omega)⟩ | exact ⟨by omega, by first | rfl | omega, by omega, Nat.le_of_ble_eq_true rfl, Nat.le_of_ble_eq_true rfl⟩ | exact ⟨rfl, rfl, rfl, Nat.le_of_ble_eq_true rfl, by first | rfl | omega | exact Nat.le_of_ble_eq_true rfl | (simp; done) | (simp; omega), by first | rfl | omega | exact Nat.le_of_ble_eq_true rfl | (simp; done) | (simp; omega), by omega, Nat.le_of_ble_eq_true rfl⟩ | exact Eq.refl true) ?_)
            | (with_reducible refine ld (intL hlt) ?_)
            | (refine Exists.intro _ (And.intro rfl ?_))
            | (refine And.intro (And.intro rfl (chk_rowI _ _ _ _)) ?_)
            | (refine br_t (by omega) ?_)
            | (refine br_f (by omega) ?_)
            | (refine bs_t (by omega) ?_)
            | (refine bs_f (by omega) ?_)
            | (refine fun (K' : K3) hK' => ?_)
            | (refine hK' _ _ _ ?_; clear hK' K')
            | (refine draw_auto tok mixed (by kernel_rfl) ?_)
            | (refine And.intro (And.intro rfl rfl) ?_))
        refine ⟨k + 1, [], ⟨by omega, by rw [hasR_succ hlt, hno, decide_eq_false he]; rfl⟩, by omega, ?_⟩
        refine ⟨?_, ?_, rfl, rfl, Nat.le_of_ble_eq_true rfl⟩
        · repeat (first | exact trivial | refine And.intro (covS_syn (by first | rfl) rfl (by first | exact trivial | exact Nat.le_of_ble_eq_true rfl)) ?_ | refine And.intro (covS_bool rfl rfl (by first | rfl)) ?_)
        · repeat (first | exact trivial | refine And.intro (covE_id (Nat.le_of_ble_eq_true rfl) (by first | exact wf_ints _ _ | exact wf_bools _ _ | fail | simp [C.wf]) rfl (by first | rfl | (fail))) ?_)
    · have hke : k = l.length := by omega
      repeat ((conv => whnf); first
          | (refine And.intro (by first | omega | exact Nat.le_of_ble_eq_true rfl | (dsimp only [inK]; omega) | (simp only [mulS_eq]; omega) | (simp only [mulS_eq, setL_length]; omega) | (simp only [setL_length, List.length_map]; omega) | exact ⟨by omega, by omega, by first | exact Nat.le_of_ble_eq_true rfl | (dsimp only; omega) | (simp only [setL_length]; omega) | (simp only [setL_length, List.length_map]; omega)⟩ | exact ⟨by omega, by first | rfl | omega, by omega, Nat.le_of_ble_eq_true rfl, Nat.le_of_ble_eq_true rfl⟩ | exact ⟨rfl, rfl, rfl, Nat.le_of_ble_eq_true rfl, by first | rfl | omega | exact Nat.le_of_ble_eq_true rfl | (simp; done) | (simp; omega), by first | rfl | omega | exact Nat.le_of_ble_eq_true rfl | (simp; done) | (simp; omega), by omega, Nat.le_of_ble_eq_true rfl⟩ | exact Eq.refl true) ?_)
          | (refine Exists.intro _ (And.intro rfl ?_))
          | (refine And.intro (And.intro rfl (chk_rowI _ _ _ _)) ?_)
          | (refine br_t (by omega) ?_)
          | (refine br_f (by omega) ?_)
          | (refine bs_t (by omega) ?_)
          | (refine bs_f (by omega) ?_)
          | (refine fun (K' : K3) hK' => ?_)
          | (refine hK' _ _ _ ?_; clear hK' K')
          | (refine draw_auto tok mixed (by kernel_rfl) ?_)
          | (refine And.intro (And.intro rfl rfl) ?_))
      subst hke
      intro ρ; show Value.bool _ = Value.bool _; rw [hno]
theorem has_any (ao : Option Addr) (c : Nat) (l : List Int) (n : Int) (w : World) (hi : IntsAt w ao l) (hl : l.length ≤ 1000) :
    Calls Try.prog 57 #[.slice ao l.length c, .int .i64 n] w fun e w' => e = .returned (.bool (l.contains n)) ∧ Below w.heap.size w w' := by
  let ρ : Env := fun _ => (ao, c)
  have hp : Hp w.heap.size ρ w [⟨0, .ro 0, l.map C.i⟩] 1 := by
    refine Hp.ros (fun e he => ?_) rfl
    simp only [List.mem_cons, List.not_mem_nil, or_false] at he
    rcases he with rfl
    exact ⟨rfl, by simp, wf_ints _ _, by rw [den_ints]; exact hi⟩
  have h := has_spec l n hl ρ w hp (by
    intro v hv
    simp only [List.mem_cons, List.not_mem_nil, or_false] at hv
    rcases hv with rfl | rfl <;> simp [V.wf, A.wf, C.wf, C.i])
  refine (show Calls Try.prog 57 #[.slice ao l.length c, .int .i64 n] w _ from h).mono ?_
  rintro e w' ⟨v, ρ', L', nx', rfl, h1, h2, h3, h4, h5, h6⟩
  refine ⟨?_, h4⟩
  rw [h6 ρ']
  rw [← show hasR l n l.length = l.contains n by unfold hasR; rw [List.take_length]]
  rfl
end Go.Proofs.Ytnafllhgjidbkaa

/- Prices before moves: the plain law, and the walk of before. -/
namespace Go.Proofs.Ytnafllhgjidbkaa
open Go.RowKit Go.Shelf
set_option linter.unusedVariables false
set_option linter.unusedSimpArgs false
attribute [local go_sem] Oper.semAt_some
/-! ### The plain law -/
def tgt (now : List Int) (to : Int) : Nat := if to = -1 then now.length - 1 else to.toNat
def bstep (now : List Int) (i : Nat) (st : List Int) (x : Int × Int) : List Int := st.set i (st.getD i 0 + x.2 * now.getD (tgt now x.1) 0)
def fsum (now : List Int) (xs : List (Int × Int)) : Int := (xs.map (fun x => x.2 * now.getD (tgt now x.1) 0)).sum
def brow (B : Bay) (now : List Int) (st : List Int) (i : Nat) : List Int := (flowsL B i).foldl (bstep now i) st
def bUp (B : Bay) (now : List Int) (k : Nat) : List Int := (List.range k).foldl (brow B now) ((List.replicate now.length 0).set (now.length - 1) (16 * now.getD (now.length - 1) 0))
def bOne (B : Bay) (now : List Int) : List Int := bUp B now (now.length - 1)
def bN (B : Bay) (l : List Int) : Nat → List Int
  | 0 => l
  | n + 1 => bOne B (bN B l n)
theorem bUp_succ (B : Bay) (now : List Int) (k : Nat) : bUp B now (k + 1) = brow B now (bUp B now k) k := by
  unfold bUp; rw [List.range_succ, List.foldl_append]; rfl
theorem bfold_len (now : List Int) (i : Nat) : ∀ (xs : List (Int × Int)) (st : List Int), (xs.foldl (bstep now i) st).length = st.length
  | [], _ => rfl
  | x :: xs, st => by rw [List.foldl_cons, bfold_len now i xs]; simp [bstep]
theorem bUp_len (B : Bay) (now : List Int) (k : Nat) : (bUp B now k).length = now.length := by
  induction k with
  | zero => simp [bUp]
  | succ k ih => rw [bUp_succ]; unfold brow; rw [bfold_len, ih]
theorem bOne_len (B : Bay) (now : List Int) : (bOne B now).length = now.length := bUp_len _ _ _
theorem bN_len (B : Bay) (l : List Int) (n : Nat) : (bN B l n).length = l.length := by
  induction n with
  | zero => rfl
  | succ n ih => show (bOne B (bN B l n)).length = _; rw [bOne_len, ih]
theorem bfold_get (now : List Int) (i j : Nat) : ∀ (xs : List (Int × Int)) (st : List Int), i < st.length → (xs.foldl (bstep now i) st).getD j 0 = st.getD j 0 + if j = i then fsum now xs else 0
  | [], st, _ => by simp [fsum]
  | x :: xs, st, h => by
    rw [List.foldl_cons, bfold_get now i j xs _ (by simpa [bstep] using h)]
    unfold bstep
    rw [getD_set _ _ _ _ h]
    by_cases e : j = i
    · subst e; simp [fsum]; omega
    · simp [e]
theorem bUp_get (B : Bay) (now : List Int) (j : Nat) : ∀ k, k ≤ now.length - 1 → 0 < now.length → (bUp B now k).getD j 0 = if j = now.length - 1 then 16 * now.getD (now.length - 1) 0 else if j < k then fsum now (flowsL B j) else 0
  | 0, _, h0 => by
    show ((List.replicate now.length 0).set (now.length - 1) (16 * now.getD (now.length - 1) 0)).getD j 0 = _
    rw [getD_set _ _ _ _ (by simp; omega)]
    by_cases e : j = now.length - 1
    · rw [if_pos e, if_pos e]
    · rw [if_neg e, if_neg e, if_neg (by omega)]
      rw [List.getD_eq_getElem?_getD, List.getElem?_replicate]; split <;> rfl
  | k + 1, hk, h0 => by
    rw [bUp_succ]; unfold brow
    rw [bfold_get now k j _ _ (by rw [bUp_len]; omega), bUp_get B now j k (by omega) h0]
    by_cases e : j = now.length - 1
    · rw [if_pos e, if_pos e, if_neg (by omega)]; omega
    · rw [if_neg e, if_neg e]
      by_cases h1 : j = k
      · subst h1; rw [if_neg (by omega), if_pos rfl, if_pos (by omega)]; omega
      · rw [if_neg h1]
        by_cases h2 : j < k
        · rw [if_pos h2, if_pos (by omega)]; omega
        · rw [if_neg h2, if_neg (by omega)]; omega
theorem fsum_bd {now : List Int} {M : Int} (hM : 0 ≤ M) (hb : ∀ j, 0 ≤ now.getD j 0 ∧ now.getD j 0 ≤ M) : ∀ (xs : List (Int × Int)), (∀ x ∈ xs, 0 ≤ x.2 ∧ x.2 ≤ 16) → 0 ≤ fsum now xs ∧ fsum now xs ≤ 16 * M * xs.length
  | [], _ => by simp [fsum]
  | x :: xs, h => by
    have h1 := fsum_bd hM hb xs (fun y hy => h y (by simp [hy]))
    have h2 := h x (by simp)
    have h3 := hb (tgt now x.1)
    have h4 : 0 ≤ x.2 * now.getD (tgt now x.1) 0 := Int.mul_nonneg h2.1 h3.1
    have h5 : x.2 * now.getD (tgt now x.1) 0 ≤ 16 * M := Int.le_trans (Int.mul_le_mul_of_nonneg_right h2.2 h3.1) (Int.mul_le_mul_of_nonneg_left h3.2 (by omega))
    have e : fsum now (x :: xs) = x.2 * now.getD (tgt now x.1) 0 + fsum now xs := by simp [fsum]
    rw [e, List.length_cons, Int.natCast_add, Int.mul_add]
    omega
theorem bOne_bd {B : Bay} {now : List Int} {M : Int} (hval : validP B) (hlen : now.length = B.Share.length + 1) (hM : 0 ≤ M) (hb : ∀ j, 0 ≤ now.getD j 0 ∧ now.getD j 0 ≤ M) : ∀ j, 0 ≤ (bOne B now).getD j 0 ∧ (bOne B now).getD j 0 ≤ 80 * M := by
  intro j
  unfold bOne
  rw [bUp_get B now j _ (Nat.le_refl _) (by omega)]
  have hl := hb (now.length - 1)
  split
  · omega
  · split
    · have h1 := fsum_bd hM hb (flowsL B j) (fun x hx => (flow_bd hval (by omega) x hx).2)
      have h2 := flowsL_len B j
      have h3 : 16 * M * (flowsL B j).length ≤ 16 * M * 5 := Int.mul_le_mul_of_nonneg_left (by omega) (by omega)
      omega
    · omega
theorem bN_bd {B : Bay} {l : List Int} (hval : validP B) (hlen : l.length = B.Share.length + 1) (hb : ∀ j, 0 ≤ l.getD j 0 ∧ l.getD j 0 ≤ 1000) : ∀ n j, 0 ≤ (bN B l n).getD j 0 ∧ (bN B l n).getD j 0 ≤ 1000 * 80 ^ n
  | 0, j => by simpa [bN] using hb j
  | n + 1, j => by
    have := bOne_bd (M := 1000 * 80 ^ n) hval (by rw [bN_len]; exact hlen) (Int.mul_nonneg (by omega) (Int.pow_nonneg (by omega))) (bN_bd hval hlen hb n) j
    show 0 ≤ (bOne B (bN B l n)).getD j 0 ∧ (bOne B (bN B l n)).getD j 0 ≤ _
    rw [Int.pow_succ]; omega
theorem pow80 {n : Nat} (h : n ≤ 5) : (1 : Int) ≤ 80 ^ n ∧ (80 : Int) ^ n ≤ 3276800000 := by
  have : n = 0 ∨ n = 1 ∨ n = 2 ∨ n = 3 ∨ n = 4 ∨ n = 5 := by omega
  rcases this with rfl | rfl | rfl | rfl | rfl | rfl <;> decide
end Go.Proofs.Ytnafllhgjidbkaa

