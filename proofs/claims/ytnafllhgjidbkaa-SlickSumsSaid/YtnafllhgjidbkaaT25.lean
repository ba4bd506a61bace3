import Derived.Test.YtnafllhgjidbkaaT24
namespace Go.Proofs.Ytnafllhgjidbkaa
open Go.RowKit Go.Shelf
set_option linter.unusedVariables false
set_option linter.unusedSimpArgs false

def eqSlk (s t : Slk) : Bool := decide (s.K = t.K ∧ s.Away = t.Away ∧ s.Oil = t.Oil)
theorem eqSlk_refl (s : Slk) : eqSlk s s = true := by simp [eqSlk]

set_option maxHeartbeats 1000000 in
theorem equal_any (ao bo : Option Addr) (ca cb : Nat) (s t : Slk) (w : World) (ha : IntsAt w ao s.Oil) (hb : IntsAt w bo t.Oil) (hla : s.Oil.length ≤ 1000000) (hlb : t.Oil.length ≤ 1000000) :
    Calls Try.prog 22 #[.agg #[.int .i64 s.K, .slice ao s.Oil.length ca, .int .i64 s.Away], .agg #[.int .i64 t.K, .slice bo t.Oil.length cb, .int .i64 t.Away]] w fun e w' => e = .returned (.bool (eqSlk s t)) ∧ Below w.heap.size w w' := by
  have hbx : ∀ o1 o2, Below w.heap.size w ((w.alloc o1).alloc o2) := fun o1 o2 => ((Below.refl _ _).alloc (Nat.le_refl _) _).alloc (by simp) _
  by_cases h1 : s.K = t.K
  · have q1 : (s.K == t.K) = true := by simp [h1]
    by_cases h2 : s.Away = t.Away
    · have q2 : (s.Away == t.Away) = true := by simp [h2]
      have HR := Lib.hid (show eqSlk s t = sameB s.Oil t.Oil by unfold eqSlk sameB; simp [h1, h2])
      have HC := Lib.hid (fun W (hW : Below w.heap.size w W) => sameInts_any ao bo ca cb s.Oil t.Oil W (ha.below (Nat.le_refl _) hW) (hb.below (Nat.le_refl _) hW) hla hlb)
      clear h1 h2 ha hb
      generalize sameB s.Oil t.Oil = r at *
      generalize eqSlk s t = rr at *
      go_enter Try.func22, Try.ntmps22
      go_wp2_with fail
      refine (HC.out _ (hbx _ _)).mono ?_
      rintro e w1 ⟨rfl, hb1⟩
      have HB : Hid (Below w.heap.size w w1) := (hbx _ _).trans (hb1.mono (by simp <;> omega))
      clear hb1
      cases r
      · go_wp2
        go_ret
        exact ⟨by rw [HR.out]; rfl, HB.out⟩
      · go_wp2
        go_ret
        exact ⟨by rw [HR.out]; rfl, HB.out⟩
    · have q2 : (s.Away == t.Away) = false := by simp [h2]
      have HR := Lib.hid (show eqSlk s t = false by unfold eqSlk; simp [h2])
      generalize eqSlk s t = rr at *
      clear h1 h2 ha hb
      go_enter Try.func22, Try.ntmps22
      go_wp2
      go_ret
      exact ⟨by rw [HR.out]; rfl, hbx _ _⟩
  · have q1 : (s.K == t.K) = false := by simp [h1]
    have HR := Lib.hid (show eqSlk s t = false by unfold eqSlk; simp [h1])
    generalize eqSlk s t = rr at *
    clear h1 ha hb
    go_enter Try.func22, Try.ntmps22
    go_wp2
    go_ret
    exact ⟨by rw [HR.out]; rfl, hbx _ _⟩
end Go.Proofs.Ytnafllhgjidbkaa
