/- Contracts of the old kind, as the calculus takes them. -/
import Derived.Test.YtnafllhgjidbkaaSB
import Derived.Test.YtnafllhgjidbkaaTab
import Derived.Test.YtnafllhgjidbkaaT17
import Derived.Test.YtnafllhgjidbkaaA2
import Derived.Test.YtnafllhgjidbkaaT13
import Derived.Test.YtnafllhgjidbkaaT12
import Derived.Test.YtnafllhgjidbkaaT25
namespace Go.Proofs.Ytnafllhgjidbkaa
open Go.RowKit
set_option linter.unusedVariables false
set_option linter.unusedSimpArgs false
theorem own_base {w : World} {b b' e sz n : Nat} {v : Value} {xs : List Value} (h : w.ownsRow b e sz v n xs) (hb : b' ≤ b) : w.ownsRow b' e sz v n xs := by
  obtain ⟨h1, h2 | ⟨g, cap, cur, hv, hg, hh, hn, hm, hs, ht⟩⟩ := h
  · exact ⟨h1, .inl h2⟩
  · exact ⟨h1, .inr ⟨g, cap, cur, hv, by omega, hh, hn, hm, hs, ht⟩⟩
theorem CallK.old {n0 nx : Nat} {f : FuncId} {vs : List V} {L : List E} {K : V → List E → Nat → Prop} {u : V} (hok : callB Try.prog f = true) (hu : u.wf nx)
    (h : ∀ ρ w, Hp n0 ρ w L nx → Calls Try.prog f (vs.map (V.den ρ)).toArray w fun e w' => e = .returned (u.den ρ) ∧ Below w.heap.size w w') (hK : K u [] nx) : CallK Try.prog n0 f vs L nx K := by
  refine ⟨hok, fun ρ w hp _ => (h ρ w hp).mono ?_⟩
  rintro e w' ⟨rfl, hbw⟩
  exact ⟨_, [], nx, ρ, rfl, Nat.le_refl _, hu, Agr.refl _ _, hbw, News.nil, hK⟩
theorem CallK.oldS {n0 nx : Nat} {f : FuncId} {vs : List V} {L : List E} {K : V → List E → Nat → Prop} {u : V} (hok : callB Try.prog f = true) (hu : u.wf nx)
    (h : ∀ ρ w, Hp n0 ρ w L nx → Calls Try.prog f (vs.map (V.den ρ)).toArray w fun e w' => e = .returned (u.den ρ) ∧ w = w') (hK : K u [] nx) : CallK Try.prog n0 f vs L nx K :=
  CallK.old hok hu (fun ρ w hp => (h ρ w hp).mono (by rintro e w' ⟨rfl, rfl⟩; exact ⟨rfl, Below.refl _ _⟩)) hK
theorem CallK.oldVec {n0 nx : Nat} {f : FuncId} {vs : List V} {L : List E} {K : V → List E → Nat → Prop} {l : List Int} (hok : callB Try.prog f = true)
    (h : ∀ ρ w, Hp n0 ρ w L nx → Calls Try.prog f (vs.map (V.den ρ)).toArray w fun e w' => ∃ rv, e = .returned rv ∧ w'.ownsRow w.heap.size 3 1 rv l.length (l.map (Value.int .i64)) ∧ Below w.heap.size w w')
    (hK : K (V.c (.sl nx l.length)) [⟨nx, .vec 3 1, l.map C.i⟩] (nx + 1)) : CallK Try.prog n0 f vs L nx K := by
  refine ⟨hok, fun ρ w hp _ => (h ρ w hp).mono ?_⟩
  rintro e w' ⟨rv, rfl, hown, hbw⟩
  obtain ⟨ao, c, rfl, hi, hblk⟩ := own_ints hown
  refine ⟨V.c (.sl nx l.length), [⟨nx, .vec 3 1, l.map C.i⟩], nx + 1, ρ.put nx ao c, ?_, Nat.le_succ _, Nat.lt_succ_self nx, Env.put_agr _ _ _ _, hbw, News.one ?_ rfl (wf_ints _ _) ?_, hK⟩
  · simp [V.den, A.den, C.den, Env.put_same]
  · refine ⟨l.length, ?_⟩
    simp only [Env.put_same]
    rw [den_ints]
    exact own_base hown hp.base
  · intro b hb
    simp only [blk, Env.put_same, Option.map_eq_some_iff] at hb
    obtain ⟨a, ha, rfl⟩ := hb
    exact hblk a ha
theorem CallK.oldRo {n0 nx : Nat} {f : FuncId} {vs : List V} {L : List E} {K : V → List E → Nat → Prop} {l : List Int} {u : V} (hok : callB Try.prog f = true) (hu : u.wf (nx + 1))
    (h : ∀ ρ w, Hp n0 ρ w L nx → Calls Try.prog f (vs.map (V.den ρ)).toArray w fun e w' => ∃ ao c, e = .returned (u.den (ρ.put nx ao c)) ∧ IntsAt w' ao l ∧ (∀ a, ao = some a → w.heap.size ≤ a.block) ∧ Below w.heap.size w w')
    (hK : K u [⟨nx, .ro 0, l.map C.i⟩] (nx + 1)) : CallK Try.prog n0 f vs L nx K := by
  refine ⟨hok, fun ρ w hp _ => (h ρ w hp).mono ?_⟩
  rintro e w' ⟨ao, c, rfl, hi, hblk, hbw⟩
  refine ⟨u, [⟨nx, .ro 0, l.map C.i⟩], nx + 1, ρ.put nx ao c, rfl, Nat.le_succ _, hu, Env.put_agr _ _ _ _, hbw, News.one (show EOK n0 (ρ.put nx ao c) w' ⟨nx, .ro 0, l.map C.i⟩ from ⟨?_, .inl rfl⟩) rfl (wf_ints _ _) ?_, hK⟩
  · simp only [Env.put_same]
    rw [den_ints]
    exact hi
  · intro b hb
    simp only [blk, Env.put_same, Option.map_eq_some_iff] at hb
    obtain ⟨a, ha, rfl⟩ := hb
    exact hblk a ha
theorem CallK.oldSlk {n0 nx : Nat} {f : FuncId} {vs : List V} {L : List E} {K : V → List E → Nat → Prop} {s : Slk} (hok : callB Try.prog f = true)
    (h : ∀ ρ w, Hp n0 ρ w L nx → Calls Try.prog f (vs.map (V.den ρ)).toArray w fun e w' => ∃ rv, e = .returned rv ∧ SlkNew w.heap.size w' rv s ∧ Below w.heap.size w w')
    (hK : K (V.agg [C.i s.K, C.sl nx s.Oil.length, C.i s.Away]) [⟨nx, .ro 0, s.Oil.map C.i⟩] (nx + 1)) : CallK Try.prog n0 f vs L nx K := by
  refine CallK.oldRo (l := s.Oil) (u := V.agg [C.i s.K, C.sl nx s.Oil.length, C.i s.Away]) hok (by simp [V.wf, A.wf, C.wf, C.i]) (fun ρ w hp => (h ρ w hp).mono ?_) hK
  rintro e w' ⟨rv, rfl, ⟨ao, c, rfl, hi, hn, hblk⟩, hbw⟩
  refine ⟨ao, c, ?_, hi, hblk, hbw⟩
  simp [V.den, A.den, C.den, C.i, Env.put_same]
theorem ints_of {n0 : Nat} {ρ : Env} {w : World} {L : List E} {nx a : Nat} {k : Kd} {l : List Int} (hp : Hp n0 ρ w L nx) (ha : find L a = some ⟨a, k, l.map C.i⟩) : IntsAt w (ρ a).1 l := by
  have h := (hp.row ha).1
  rw [den_ints] at h
  exact h
theorem slk_of {n0 : Nat} {ρ : Env} {w : World} {L : List E} {nx a : Nat} {k : Kd} {s : Slk} (hp : Hp n0 ρ w L nx) (ha : find L a = some ⟨a, k, s.Oil.map C.i⟩) (hn : s.Oil.length < 1152921504606846976) :
    SlkAt w ((V.agg [C.i s.K, C.sl a s.Oil.length, C.i s.Away]).den ρ) s :=
  ⟨_, _, rfl, ints_of hp ha, hn⟩
theorem own_of {n0 : Nat} {ρ : Env} {w : World} {L : List E} {nx a : Nat} {t : TypeId} {cs : List C} (hp : Hp n0 ρ w L nx) (ha : find L a = some ⟨a, .own t, cs⟩) :
    ∃ b, (ρ a).1 = some ⟨b, 0, none⟩ ∧ w.heap[b]? = some (.cells (cs.map (C.den ρ)).toArray t (0, 0)) := by
  obtain ⟨hm, hl⟩ := find_mem ha
  obtain ⟨b, h1, _, h2⟩ := hp.ok _ hm
  exact ⟨b, h1, h2⟩
theorem rvalid_k {n0 nx a b : Nat} {ka kb : Kd} {L : List E} {K : V → List E → Nat → Prop} {B : Bay} (hll : B.Land.length ≤ 100) (hsl : B.Share.length ≤ 100)
    (ha : find L a = some ⟨a, ka, B.Land.map C.bool⟩) (hb : find L b = some ⟨b, kb, shareC B.Share⟩) (hK : K (V.c (.bool (validB B))) [] nx) :
    CallK Try.prog n0 26 [V.agg [C.i B.W, C.i B.H, C.sl a B.Land.length, C.sl b B.Share.length]] L nx K :=
  CallK.old (u := V.c (.bool (validB B))) (by kernel_rfl) trivial (fun ρ w hp => rvalid_any _ B w (bay_of hp ha hb hll hsl)) hK
theorem is_k {n0 nx a b c : Nat} {ka kb kc : Kd} {L : List E} {K : V → List E → Nat → Prop} {B : Bay} {s : Slk} (hval : validP B) (hll : B.Land.length ≤ 100) (hsl : B.Share.length ≤ 100) (hn : s.Oil.length < 1152921504606846976)
    (ha : find L a = some ⟨a, ka, B.Land.map C.bool⟩) (hb : find L b = some ⟨b, kb, shareC B.Share⟩) (hc : find L c = some ⟨c, kc, s.Oil.map C.i⟩) (hK : K (V.c (.bool (fitsB B s))) [] nx) :
    CallK Try.prog n0 27 [V.agg [C.i B.W, C.i B.H, C.sl a B.Land.length, C.sl b B.Share.length], V.agg [C.i s.K, C.sl c s.Oil.length, C.i s.Away]] L nx K :=
  CallK.old (u := V.c (.bool (fitsB B s))) (by kernel_rfl) trivial (fun ρ w hp => is_any _ _ B s w (bay_of hp ha hb hll hsl) (slk_of hp hc hn) hval) hK
end Go.Proofs.Ytnafllhgjidbkaa
