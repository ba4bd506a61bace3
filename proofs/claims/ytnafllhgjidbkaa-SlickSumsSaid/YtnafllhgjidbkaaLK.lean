/- The laws' callees, as the calculus takes them. -/
import Derived.Test.YtnafllhgjidbkaaT49
import Derived.Test.YtnafllhgjidbkaaT50
import Derived.Test.YtnafllhgjidbkaaT33
import Derived.Test.YtnafllhgjidbkaaT25
import Derived.Test.YtnafllhgjidbkaaM1
import Derived.Test.YtnafllhgjidbkaaM2
namespace Go.Proofs.Ytnafllhgjidbkaa
open Go.RowKit
set_option linter.unusedVariables false
set_option linter.unusedSimpArgs false
theorem Long_k {n0 nx a b : Nat} {L : List E} {K : V → List E → Nat → Prop} (B : Bay) (hK : K (V.c (.bool (decide (100 < B.Land.length ∨ 100 < B.Share.length)))) [] nx) :
    CallK Try.prog n0 15 [V.agg [C.i B.W, C.i B.H, C.sl a B.Land.length, C.sl b B.Share.length]] L nx K :=
  CallK.old (u := V.c (.bool (decide (100 < B.Land.length ∨ 100 < B.Share.length)))) (by kernel_rfl) trivial (fun ρ w hp => Long_any B w _ _ _ _) hK
theorem long_k {n0 nx a : Nat} {L : List E} {K : V → List E → Nat → Prop} (s : Slk) (hK : K (V.c (.bool (decide (100 < s.Oil.length)))) [] nx) :
    CallK Try.prog n0 16 [V.agg [C.i s.K, C.sl a s.Oil.length, C.i s.Away]] L nx K :=
  CallK.old (u := V.c (.bool (decide (100 < s.Oil.length)))) (by kernel_rfl) trivial (fun ρ w hp => long_any s w _ _) hK
theorem Sane_k {n0 nx : Nat} {L : List E} {K : V → List E → Nat → Prop} (hK : K (V.c (.bool true)) [] nx) : CallK Try.prog n0 17 [] L nx K :=
  CallK.old (u := V.c (.bool true)) (by kernel_rfl) trivial (fun ρ w hp => Sane_any w) hK
theorem CallK.oldA3 {n0 nx : Nat} {f : FuncId} {vs : List V} {L : List E} {K : V → List E → Nat → Prop} {S : Slk} {Er : Int} (hok : callB Try.prog f = true)
    (h : ∀ ρ w, Hp n0 ρ w L nx → Calls Try.prog f (vs.map (V.den ρ)).toArray w (Aft3 w S Er))
    (hK : K (V.tup [A.agg [C.i S.K, C.sl nx S.Oil.length, C.i S.Away], A.c (C.i Er)]) [⟨nx, .ro 0, S.Oil.map C.i⟩] (nx + 1)) : CallK Try.prog n0 f vs L nx K := by
  refine CallK.oldRo (l := S.Oil) (u := V.tup [A.agg [C.i S.K, C.sl nx S.Oil.length, C.i S.Away], A.c (C.i Er)]) hok (by simp [V.wf, A.wf, C.wf, C.i]) (fun ρ w hp => (h ρ w hp).mono ?_) hK
  rintro e w' ⟨rv, rfl, ⟨ao, c, rfl, hi, hn, hblk⟩, hbw⟩
  refine ⟨ao, c, ?_, hi, hblk, hbw⟩
  simp [V.den, A.den, C.den, C.i, Env.put_same]
section
variable {n0 nx a b c d : Nat} {ka kb kc kd : Kd} {L : List E} {K : V → List E → Nat → Prop} {B : Bay} {s t : Slk}
theorem Sum_k (hll : B.Land.length ≤ 100) (hsl : B.Share.length ≤ 100) (hn : s.Oil.length < 1152921504606846976) (hm : t.Oil.length < 1152921504606846976)
    (ha : find L a = some ⟨a, ka, B.Land.map C.bool⟩) (hb : find L b = some ⟨b, kb, shareC B.Share⟩) (hc : find L c = some ⟨c, kc, s.Oil.map C.i⟩) (hd : find L d = some ⟨d, kd, t.Oil.map C.i⟩)
    (hK : K (V.tup [A.agg [C.i (sumS B s t).K, C.sl nx (sumS B s t).Oil.length, C.i (sumS B s t).Away], A.c (C.i (sumE B s t))]) [⟨nx, .ro 0, (sumS B s t).Oil.map C.i⟩] (nx + 1)) :
    CallK Try.prog n0 40 [V.agg [C.i B.W, C.i B.H, C.sl a B.Land.length, C.sl b B.Share.length], V.agg [C.i s.K, C.sl c s.Oil.length, C.i s.Away], V.agg [C.i t.K, C.sl d t.Oil.length, C.i t.Away]] L nx K :=
  CallK.oldA3 (by kernel_rfl) (fun ρ w hp => Sum_any _ _ _ B s t w (bay_of hp ha hb hll hsl) (slk_of hp hc hn) (slk_of hp hd hm)) hK
theorem rSum_k (hll : B.Land.length ≤ 100) (hsl : B.Share.length ≤ 100) (hn : s.Oil.length < 1152921504606846976) (hm : t.Oil.length < 1152921504606846976)
    (ha : find L a = some ⟨a, ka, B.Land.map C.bool⟩) (hb : find L b = some ⟨b, kb, shareC B.Share⟩) (hc : find L c = some ⟨c, kc, s.Oil.map C.i⟩) (hd : find L d = some ⟨d, kd, t.Oil.map C.i⟩)
    (hK : K (V.tup [A.agg [C.i (sumS B s t).K, C.sl nx (sumS B s t).Oil.length, C.i (sumS B s t).Away], A.c (C.i (sumE B s t))]) [⟨nx, .ro 0, (sumS B s t).Oil.map C.i⟩] (nx + 1)) :
    CallK Try.prog n0 41 [V.agg [C.i B.W, C.i B.H, C.sl a B.Land.length, C.sl b B.Share.length], V.agg [C.i s.K, C.sl c s.Oil.length, C.i s.Away], V.agg [C.i t.K, C.sl d t.Oil.length, C.i t.Away]] L nx K :=
  CallK.oldA3 (by kernel_rfl) (fun ρ w hp => rsum_any _ _ _ B s t w (bay_of hp ha hb hll hsl) (slk_of hp hc hn) (slk_of hp hd hm)) hK
theorem After_k {n : Int} (hll : B.Land.length ≤ 100) (hsl : B.Share.length ≤ 100) (hn : s.Oil.length < 1152921504606846976) (hnn : -9223372036854775808 ≤ n ∧ n ≤ 9223372036854775807)
    (ha : find L a = some ⟨a, ka, B.Land.map C.bool⟩) (hb : find L b = some ⟨b, kb, shareC B.Share⟩) (hc : find L c = some ⟨c, kc, s.Oil.map C.i⟩)
    (hK : K (V.tup [A.agg [C.i (aftS B s n).K, C.sl nx (aftS B s n).Oil.length, C.i (aftS B s n).Away], A.c (C.i (aftE B s n))]) [⟨nx, .ro 0, (aftS B s n).Oil.map C.i⟩] (nx + 1)) :
    CallK Try.prog n0 20 [V.agg [C.i B.W, C.i B.H, C.sl a B.Land.length, C.sl b B.Share.length], V.agg [C.i s.K, C.sl c s.Oil.length, C.i s.Away], V.i n] L nx K :=
  CallK.oldA3 (by kernel_rfl) (fun ρ w hp => After_any _ _ B s n w (bay_of hp ha hb hll hsl) (slk_of hp hc hn) hnn) hK
theorem equal_k (hn : s.Oil.length ≤ 1000000) (hm : t.Oil.length ≤ 1000000) (hc : find L c = some ⟨c, kc, s.Oil.map C.i⟩) (hd : find L d = some ⟨d, kd, t.Oil.map C.i⟩) (hK : K (V.c (.bool (eqSlk s t))) [] nx) :
    CallK Try.prog n0 22 [V.agg [C.i s.K, C.sl c s.Oil.length, C.i s.Away], V.agg [C.i t.K, C.sl d t.Oil.length, C.i t.Away]] L nx K :=
  CallK.old (u := V.c (.bool (eqSlk s t))) (by kernel_rfl) trivial (fun ρ w hp => equal_any _ _ _ _ s t w (ints_of hp hc) (ints_of hp hd) hn hm) hK
theorem Same_k (hn : s.Oil.length ≤ 1000) (hm : t.Oil.length ≤ 1000) (hc : find L c = some ⟨c, kc, s.Oil.map C.i⟩) (hd : find L d = some ⟨d, kd, t.Oil.map C.i⟩) (hK : K (V.c (.bool (samB s t))) [] nx) :
    CallK Try.prog n0 42 [V.agg [C.i s.K, C.sl c s.Oil.length, C.i s.Away], V.agg [C.i t.K, C.sl d t.Oil.length, C.i t.Away]] L nx K :=
  CallK.old (u := V.c (.bool (samB s t))) (by kernel_rfl) trivial (fun ρ w hp => Same_any _ _ s t w (slk_of hp hc (by omega)) (slk_of hp hd (by omega)) hn hm) hK
theorem rSame_k (hn : s.Oil.length ≤ 1000) (hm : t.Oil.length ≤ 1000) (hc : find L c = some ⟨c, kc, s.Oil.map C.i⟩) (hd : find L d = some ⟨d, kd, t.Oil.map C.i⟩) (hK : K (V.c (.bool (samB s t))) [] nx) :
    CallK Try.prog n0 43 [V.agg [C.i s.K, C.sl c s.Oil.length, C.i s.Away], V.agg [C.i t.K, C.sl d t.Oil.length, C.i t.Away]] L nx K :=
  CallK.old (u := V.c (.bool (samB s t))) (by kernel_rfl) trivial (fun ρ w hp => rSame_any _ _ s t w (slk_of hp hc (by omega)) (slk_of hp hd (by omega))) hK
end
theorem sumS_100 {B : Bay} {s t : Slk} (hs : s.Oil.length ≤ 100) : (sumS B s t).Oil.length ≤ 100 := by
  unfold sumS
  split
  · show (List.zipWith _ _ _).length ≤ _
    rw [List.length_zipWith]; omega
  · simp
end Go.Proofs.Ytnafllhgjidbkaa
