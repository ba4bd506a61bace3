/- For every bay, every slick and every prices, SlickCosts returns true, and all of them read behind the call as they read before; without any condition. -/
import Derived.Test.YtnafllhgjidbkaaO3
import Derived.Test.YtnafllhgjidbkaaL11
namespace Go.Proofs.Ytnafllhgjidbkaa
open Go.ChangeShapes Go.WideShapes Go.ChangeAt Go.RowKit

theorem own11 : ownKnob Try.prog.godebug = none := by kernel_rfl
theorem laidOut11 : laidOutB Try.prog = true := by kernel_rfl

set_option maxRecDepth 100000 in
theorem costs_lifted (os : Os) (started : os.Started) (H : Type) (enc : TypeId × Value → H) :
    ReturnsInHanded {} Try.checked os 11 .any (Rows.slickCostsSpec.pre6 enc Try.prog Try.f11 Rows.slickCostsRow.domain false) (Rows.slickCostsSpec.post enc Try.prog Try.f11 false true false false) := by
  refine returnsInHanded_of_change (C := Try.checked) own11 started (by kernel_rfl) Try.func11
    (ChangeSpec.witness6 (enc := enc) (C := Try.checked) false ⟨#[], #[.agg #[.int .i64 0, .int .i64 0, .slice none 0 0, .slice none 0 0], .agg #[.int .i64 0, .slice none 0 0, .int .i64 0], .agg #[.slice none 0 0, .int .i64 0]], []⟩ 8 (by kernel_rfl) (by kernel_rfl) (by kernel_rfl) (by kernel_rfl)) ?_
  intro W base args ds gs before hval0 hW hcnd _
  have hval : ∀ (j : Nat) t v, Try.f11.params[j]? = some t → args[j]? = some v → Value.okWide Try.prog W .any base t v := hval0
  have hW' := hW
  obtain ⟨p, q, hA0, hV, rfl, hfz, hnd⟩ := hW
  have hA : DataW.TrodAll enc Try.prog W 0 (fun _ => true) true Try.f11.params.toList args.toList ds p := hA0
  rw [Try.params11] at hA hval
  obtain ⟨v0, v1, v2, d0, d1, d2, p0, p1, p2, rfl, rfl, rfl, h0, h1, h2⟩ := trodAll_three hA
  obtain ⟨rfl, rfl⟩ := trodVars_none hV
  have hlt0 : ∀ x ∈ p0, x.block < W.heap.size := fun x hx => by simpa using hW'.lt x (by simp [hx])
  have hlt1 : ∀ x ∈ p1, x.block < W.heap.size := fun x hx => by simpa using hW'.lt x (by simp [hx])
  have hlt2 : ∀ x ∈ p2, x.block < W.heap.size := fun x hx => by simpa using hW'.lt x (by simp [hx])
  obtain ⟨B, la, lc, sa, sc, rfl, hl, hsh, _⟩ := open_bay (hval 0 25 v0 rfl rfl) h0
  obtain ⟨s, ao, c, rfl, hi, _⟩ := open_slick (hval 1 28 v1 rfl rfl) h1
  obtain ⟨po, pc, l, N, rfl, hp, hN⟩ := open_priced (hval 2 64 v2 rfl rfl) h2
  clear hA0 hval0
  refine (costs_any B s l N la sa ao po lc sc c pc W hl hsh hi hp hN).mono fun e W' ⟨he, hb⟩ => ?_
  subst he
  refine ⟨_, rfl, _, _, _, [], p0 ++ (p1 ++ (p2)), [], hW', ?_, ?_, rfl, hb.frame _, fun h => by cases h⟩
  · exact trodAll_mk1 (shut_bool Try.underlying4 true)
  · exact trodAll_mk3 (Below.trod laidOut11 (by kernel_rfl) (of_decide_eq_true (by kernel_rfl)) h0 hb hlt0) (Below.trod laidOut11 (by kernel_rfl) (of_decide_eq_true (by kernel_rfl)) h1 hb hlt1) (Below.trod laidOut11 (by kernel_rfl) (of_decide_eq_true (by kernel_rfl)) h2 hb hlt2)

theorem costs_holds : Rows.SlickCostsSaid :=
  OpenClaim.holds_of_wide 11 Try.f11 rfl rfl rfl rfl rfl rfl rfl ⟨rfl, rfl, rfl, rfl, rfl⟩ rfl rfl rfl rfl rfl (by kernel_rfl) Try.func11 (by kernel_rfl)
    (of_decide_eq_true (by kernel_rfl)) (by unfold Func.isWrapper; rw [if_neg (of_decide_eq_false (by kernel_rfl))]; exact ⟨rfl, rfl⟩)
    (fun os started H enc _ => costs_lifted os started H enc)

#print axioms costs_holds
end Go.Proofs.Ytnafllhgjidbkaa
