/- Texts of the proof, part 3: Tab, E1, E2, U1, U2, U3, U5, U6, U7, U8, U9, U10, U11, U12, U13, U4, U14, U15, U16, U17. -/
import Derived.Test.YtjijjncddjkdlaaW2
import Derived.WalkKit
import Derived.Below
import Derived.Laws.OwnMore
import Derived.Maps.AppendAt
import Derived.Laws.IdiomCopy
import Derived.Laws.CopyRow
import Derived.IntWalk
import Derived.StillTail
import Derived.Scope
import Derived.ChangeKeysEq
import Derived.Laws.Small
import Derived.OrdersIn
import Derived.TacticsIn
import Derived.OwnWalkIn
import Derived.RangeFuncNested
import Derived.RangeFuncLeaves
import Derived.RangeFuncRecord
import Derived.Maps.Keyed
import Derived.Maps.RangeRun
import Derived.DeepKeys4
import Derived.Test.YtjijjncddjkdlaaRows
import Derived.KernelRfl
/- The types of the program, as the calculus reads them. -/
namespace Go.Proofs.Ytjijjncddjkdlaa
open Go.RowKit
def tab : List (Nat × TD) := [(3, ⟨1, 8, [.int .i64 0], .int .i64⟩),
  (4, ⟨1, 1, [.ff], .bool⟩),
  (5, ⟨1, 1, [.int .u8 0], .int .u8⟩),
  (22, ⟨1, 24, [.nil], .sl 31⟩),
  (26, ⟨2, 16, [.int .i64 0, .int .i64 0], .str [(0, 3), (1, 3)]⟩),
  (27, ⟨1, 8, [.int .i64 0], .int .i64⟩),
  (31, ⟨1, 24, [.nil], .sl 47⟩),
  (35, ⟨1, 24, [.nil], .sl 3⟩),
  (39, ⟨1, 24, [.nil], .sl 35⟩),
  (47, ⟨2, 16, [.int .i64 0, .int .i64 0], .str [(0, 3), (1, 3)]⟩),
  (57, ⟨1, 24, [.nil], .sl 31⟩),
  (62, ⟨3, 24, [.int .i64 0, .int .i64 0, .int .i64 0], .str [(0, 3), (1, 3), (2, 3)]⟩),
  (65, ⟨3, 24, [.int .i64 0, .int .i64 0, .int .i64 0], .str [(0, 3), (1, 3), (2, 3)]⟩),
  (73, ⟨1, 8, [.v .nilFunc], .one⟩),
  (80, ⟨5, 40, [.int .i64 0, .int .i64 0, .int .i64 0, .int .i64 0, .int .i64 0], .str [(0, 47), (2, 3), (3, 3), (4, 3)]⟩),
  (83, ⟨1, 8, [.v (.map none)], .map 85 3 (.arr 6) (.i 0)⟩),
  (85, ⟨6, 48, [.int .i64 0, .int .i64 0, .int .i64 0, .int .i64 0, .int .i64 0, .int .i64 0], .arr 6 3⟩)]
theorem td3 : TDOK Try.prog 3 ⟨1, 8, [.int .i64 0], .int .i64⟩ := ⟨(Try.prog.info? 3).getD default, .int .i64 0, by kernel_rfl, by kernel_rfl, by kernel_rfl, by kernel_rfl, fun ρ => rfl, rfl, by simp [C.wf, Value.oneCell'], show Try.prog.underlying 3 = some (.int .i64) by kernel_rfl⟩
theorem td4 : TDOK Try.prog 4 ⟨1, 1, [.ff], .bool⟩ := ⟨(Try.prog.info? 4).getD default, .bool false, by kernel_rfl, by kernel_rfl, by kernel_rfl, by kernel_rfl, fun ρ => rfl, rfl, by simp [C.wf, Value.oneCell'], show Try.prog.underlying 4 = some (.bool) by kernel_rfl⟩
theorem td5 : TDOK Try.prog 5 ⟨1, 1, [.int .u8 0], .int .u8⟩ := ⟨(Try.prog.info? 5).getD default, .int .u8 0, by kernel_rfl, by kernel_rfl, by kernel_rfl, by kernel_rfl, fun ρ => rfl, rfl, by simp [C.wf, Value.oneCell'], show Try.prog.underlying 5 = some (.int .u8) by kernel_rfl⟩
theorem td22 : TDOK Try.prog 22 ⟨1, 24, [.nil], .sl 31⟩ := ⟨(Try.prog.info? 22).getD default, .slice none 0 0, by kernel_rfl, by kernel_rfl, by kernel_rfl, by kernel_rfl, fun ρ => rfl, rfl, by simp [C.wf, Value.oneCell'], show Try.prog.underlying 22 = some (.slice 31) by kernel_rfl⟩
theorem td26 : TDOK Try.prog 26 ⟨2, 16, [.int .i64 0, .int .i64 0], .str [(0, 3), (1, 3)]⟩ := ⟨(Try.prog.info? 26).getD default, .agg #[.int .i64 0, .int .i64 0], by kernel_rfl, by kernel_rfl, by kernel_rfl, by kernel_rfl, fun ρ => rfl, rfl, by simp [C.wf, Value.oneCell'], ⟨(match Try.prog.underlying 26 with | some (.struct F) => F | _ => #[]), by kernel_rfl, by kernel_rfl, by kernel_rfl, by kernel_rfl⟩⟩
theorem td27 : TDOK Try.prog 27 ⟨1, 8, [.int .i64 0], .int .i64⟩ := ⟨(Try.prog.info? 27).getD default, .int .i64 0, by kernel_rfl, by kernel_rfl, by kernel_rfl, by kernel_rfl, fun ρ => rfl, rfl, by simp [C.wf, Value.oneCell'], show Try.prog.underlying 27 = some (.int .i64) by kernel_rfl⟩
theorem td31 : TDOK Try.prog 31 ⟨1, 24, [.nil], .sl 47⟩ := ⟨(Try.prog.info? 31).getD default, .slice none 0 0, by kernel_rfl, by kernel_rfl, by kernel_rfl, by kernel_rfl, fun ρ => rfl, rfl, by simp [C.wf, Value.oneCell'], show Try.prog.underlying 31 = some (.slice 47) by kernel_rfl⟩
theorem td35 : TDOK Try.prog 35 ⟨1, 24, [.nil], .sl 3⟩ := ⟨(Try.prog.info? 35).getD default, .slice none 0 0, by kernel_rfl, by kernel_rfl, by kernel_rfl, by kernel_rfl, fun ρ => rfl, rfl, by simp [C.wf, Value.oneCell'], show Try.prog.underlying 35 = some (.slice 3) by kernel_rfl⟩
theorem td39 : TDOK Try.prog 39 ⟨1, 24, [.nil], .sl 35⟩ := ⟨(Try.prog.info? 39).getD default, .slice none 0 0, by kernel_rfl, by kernel_rfl, by kernel_rfl, by kernel_rfl, fun ρ => rfl, rfl, by simp [C.wf, Value.oneCell'], show Try.prog.underlying 39 = some (.slice 35) by kernel_rfl⟩
theorem td47 : TDOK Try.prog 47 ⟨2, 16, [.int .i64 0, .int .i64 0], .str [(0, 3), (1, 3)]⟩ := ⟨(Try.prog.info? 47).getD default, .agg #[.int .i64 0, .int .i64 0], by kernel_rfl, by kernel_rfl, by kernel_rfl, by kernel_rfl, fun ρ => rfl, rfl, by simp [C.wf, Value.oneCell'], ⟨(match Try.prog.underlying 47 with | some (.struct F) => F | _ => #[]), by kernel_rfl, by kernel_rfl, by kernel_rfl, by kernel_rfl⟩⟩
theorem td57 : TDOK Try.prog 57 ⟨1, 24, [.nil], .sl 31⟩ := ⟨(Try.prog.info? 57).getD default, .slice none 0 0, by kernel_rfl, by kernel_rfl, by kernel_rfl, by kernel_rfl, fun ρ => rfl, rfl, by simp [C.wf, Value.oneCell'], show Try.prog.underlying 57 = some (.slice 31) by kernel_rfl⟩
theorem td62 : TDOK Try.prog 62 ⟨3, 24, [.int .i64 0, .int .i64 0, .int .i64 0], .str [(0, 3), (1, 3), (2, 3)]⟩ := ⟨(Try.prog.info? 62).getD default, .agg #[.int .i64 0, .int .i64 0, .int .i64 0], by kernel_rfl, by kernel_rfl, by kernel_rfl, by kernel_rfl, fun ρ => rfl, rfl, by simp [C.wf, Value.oneCell'], ⟨(match Try.prog.underlying 62 with | some (.struct F) => F | _ => #[]), by kernel_rfl, by kernel_rfl, by kernel_rfl, by kernel_rfl⟩⟩
theorem td65 : TDOK Try.prog 65 ⟨3, 24, [.int .i64 0, .int .i64 0, .int .i64 0], .str [(0, 3), (1, 3), (2, 3)]⟩ := ⟨(Try.prog.info? 65).getD default, .agg #[.int .i64 0, .int .i64 0, .int .i64 0], by kernel_rfl, by kernel_rfl, by kernel_rfl, by kernel_rfl, fun ρ => rfl, rfl, by simp [C.wf, Value.oneCell'], ⟨(match Try.prog.underlying 65 with | some (.struct F) => F | _ => #[]), by kernel_rfl, by kernel_rfl, by kernel_rfl, by kernel_rfl⟩⟩
theorem td73 : TDOK Try.prog 73 ⟨1, 8, [.v .nilFunc], .one⟩ := ⟨(Try.prog.info? 73).getD default, .nilFunc, by kernel_rfl, by kernel_rfl, by kernel_rfl, by kernel_rfl, fun ρ => rfl, rfl, by simp [C.wf, Value.oneCell'], ⟨(Try.prog.underlying 73).getD default, by kernel_rfl, by kernel_rfl⟩⟩
theorem td80 : TDOK Try.prog 80 ⟨5, 40, [.int .i64 0, .int .i64 0, .int .i64 0, .int .i64 0, .int .i64 0], .str [(0, 47), (2, 3), (3, 3), (4, 3)]⟩ := ⟨(Try.prog.info? 80).getD default, .agg #[.int .i64 0, .int .i64 0, .int .i64 0, .int .i64 0, .int .i64 0], by kernel_rfl, by kernel_rfl, by kernel_rfl, by kernel_rfl, fun ρ => rfl, rfl, by simp [C.wf, Value.oneCell'], ⟨(match Try.prog.underlying 80 with | some (.struct F) => F | _ => #[]), by kernel_rfl, by kernel_rfl, by kernel_rfl, by kernel_rfl⟩⟩
theorem td83 : TDOK Try.prog 83 ⟨1, 8, [.v (.map none)], .map 85 3 (.arr 6) (.i 0)⟩ := ⟨(Try.prog.info? 83).getD default, .map none, by kernel_rfl, by kernel_rfl, by kernel_rfl, by kernel_rfl, fun ρ => rfl, rfl, by simp [C.wf, Value.oneCell'], ⟨by kernel_rfl, Go.Maps.Keyed.of_law (deep_law_laid (m := 3) (by kernel_rfl) (by omega) (by decide +kernel) (by kernel_rfl) (by kernel_rfl)), keyArr (e := 3) (by kernel_rfl) (by kernel_rfl) (by kernel_rfl) (by kernel_rfl) (by kernel_rfl) (by decide +kernel), (Try.prog.info? 3).getD default, by kernel_rfl, by kernel_rfl⟩⟩
theorem td85 : TDOK Try.prog 85 ⟨6, 48, [.int .i64 0, .int .i64 0, .int .i64 0, .int .i64 0, .int .i64 0, .int .i64 0], .arr 6 3⟩ := ⟨(Try.prog.info? 85).getD default, .agg #[.int .i64 0, .int .i64 0, .int .i64 0, .int .i64 0, .int .i64 0, .int .i64 0], by kernel_rfl, by kernel_rfl, by kernel_rfl, by kernel_rfl, fun ρ => rfl, rfl, by simp [C.wf, Value.oneCell'], show Try.prog.underlying 85 = some (.array 6 3) by kernel_rfl⟩
theorem tok : TOK Try.prog tab := by
  intro p hp
  simp only [tab, List.mem_cons, List.not_mem_nil, or_false] at hp
  rcases hp with rfl | rfl | rfl | rfl | rfl | rfl | rfl | rfl | rfl | rfl | rfl | rfl | rfl | rfl | rfl | rfl | rfl
  · exact td3
  · exact td4
  · exact td5
  · exact td22
  · exact td26
  · exact td27
  · exact td31
  · exact td35
  · exact td39
  · exact td47
  · exact td57
  · exact td62
  · exact td65
  · exact td73
  · exact td80
  · exact td83
  · exact td85
theorem mixed : Try.prog.follows .mixedOrders = true := by kernel_rfl
end Go.Proofs.Ytjijjncddjkdlaa

/- A region that draws its order, in which all operations read alone but one call, that turns a map. -/
namespace Go.Proofs.Ytjijjncddjkdlaa
open Go.RowKit
set_option linter.unusedVariables false
set_option linter.unusedSimpArgs false
section
variable {P : Program} {T : List (Nat × TD)} {n0 : Nat} {cx : Cx} {N na : Nat}
/-- The arguments of the call that turns the map. -/
def turnOf (g0 : Nat) (op : Op) : Option (List Operand) :=
  match op with
  | .call ⟨.value (.func g), args, _⟩ => bif Nat.beq g g0 then some args.toList else none
  | _ => none
theorem turnOf_some {g0 : Nat} {op : Op} {l : List Operand} (h : turnOf g0 op = some l) : ∃ args tys, op = .call ⟨.value (.func g0), args, tys⟩ ∧ args.toList = l := by
  unfold turnOf at h
  split at h
  · rename_i g args tys
    cases hb : Nat.beq g g0 with
    | false => rw [hb] at h; cases h
    | true =>
      rw [hb] at h
      have := Nat.eq_of_beq_eq_true hb
      subst this
      simp only [cond_true, Option.some.injEq] at h
      exact ⟨args, tys, rfl, h⟩
  · cases h
def drT (P : Program) (T : List (Nat × TD)) (n0 N g0 lm : Nat) (L Lv : List E) (nx : Nat) (l : List Oper) (K : S → List E → Prop) (s : S) (cur : Option (List E)) : Prop :=
  match l with
  | [] => (match cur with
    | some L1 => K s L1
    | none => False)
  | o :: r => match dstB N o.dst, o.guard with
    | true, none => (match turnOf g0 o.op with
      | some args => (match cur with
        | some _ => False
        | none => onV (evs s args) fun vs => ∃ z ks f, CallM P n0 g0 vs L nx (fun v L' _ => v = V.i z ∧ L' = ⟨lm, .mp true ks f, []⟩ :: Lv) ∧ putK s o.dst (V.i z) fun s' => drT P T n0 N g0 lm L Lv nx r K s' (some (⟨lm, .mp true ks f, []⟩ :: Lv)))
      | none => rd (HD P n0) T Lv nx s o.op fun v _ nx' => Nat.beq nx' nx = true ∧ putK s o.dst v fun s' => drT P T n0 N g0 lm L Lv nx r K s' cur)
    | _, _ => False
def stT (v : V) (k : Option Nat) : Stp := ⟨v, [], 0, 0, 0, k, none⟩
/-- What is known of operation i. -/
structure PT (P : Program) (T : List (Nat × TD)) (n0 N g0 : Nat) (all : List Oper) (L Lv L1 : List E) (nx : Nat) (s0 : S) (ds : List Stp) (i : Nat) (st : Stp) : Prop where
  oper : ∃ o si, all[i]? = some o ∧ dstB N o.dst = true ∧ o.guard = none ∧ LookAt all s0 ds i si ∧
    ((st.kill = none ∧ ∃ new nx', nx' = nx ∧ rd (HD P n0) T Lv nx si o.op fun v' n' x' => v' = st.v ∧ n' = new ∧ x' = nx') ∨
     (st.kill = some 0 ∧ ∃ args vs z, turnOf g0 o.op = some args ∧ evs si args = some vs ∧ st.v = V.i z ∧ CallM P n0 g0 vs L nx (fun v L' _ => v = V.i z ∧ L' = L1)))
theorem drT_plan {g0 lm nx : Nat} {all : List Oper} {L Lv : List E} {s0 : S} {K : S → List E → Prop} : ∀ {r : List Oper} {i : Nat} {ds : List Stp} {s : S} {cur : Option (List E)}, drT P T n0 N g0 lm L Lv nx r K s cur → (∀ j, j < r.length → all[i + j]? = r[j]?) → ds.length = i → LookAt all s0 ds i s →
    ((cur = none ∧ ∀ (j : Nat) (st : Stp), ds[j]? = some st → st.kill ≠ some 0) ∨ (∃ t0, t0 < i ∧ cur ≠ none ∧ ∀ (j : Nat) (st : Stp), ds[j]? = some st → (st.kill = some 0 ↔ j = t0))) →
    ∃ (rest : List Stp) (L1 : List E) (sF : S) (t0 : Nat), rest.length = r.length ∧ t0 < i + r.length ∧ (∀ (j : Nat) (st : Stp), (ds ++ rest)[j]? = some st → (st.kill = some 0 ↔ j = t0)) ∧ (∀ (j : Nat) (st : Stp), i ≤ j → (ds ++ rest)[j]? = some st → PT P T n0 N g0 all L Lv L1 nx s0 (ds ++ rest) j st) ∧ LookAt all s0 (ds ++ rest) (i + r.length) sF ∧ K sF L1 ∧ (∀ X, cur = some X → L1 = X) ∧ (cur = none → ∃ ks f, L1 = ⟨lm, .mp true ks f, []⟩ :: Lv)
  | [], i, ds, s, cur, h, hall, hl, hs, hd => by
    cases cur with
    | none => exact h.elim
    | some L1 =>
      rcases hd with ⟨h1, _⟩ | ⟨t0, h1, _, h2⟩
      · cases h1
      · exact ⟨[], L1, s, t0, rfl, by simpa using h1, by simpa using h2, fun j st hj hst => by
          have := (List.getElem?_eq_some_iff.1 hst).1
          simp at this; omega, by simpa using hs, h, fun X hX => by cases hX; rfl, fun h => by cases h⟩
  | o :: r, i, ds, s, cur, h, hall, hl, hs, hd => by
    have ho : all[i]? = some o := by have := hall 0 (by simp); simpa using this
    have hall' : ∀ j, j < r.length → all[i + 1 + j]? = r[j]? := fun j hj => by
      have := hall (j + 1) (by simpa using hj)
      rw [show i + 1 + j = i + (j + 1) by omega, this]; rfl
    simp only [drT] at h
    cases hdst : dstB N o.dst with
    | false => rw [hdst] at h; exact h.elim
    | true =>
      cases hg : o.guard with
      | some x => rw [hdst, hg] at h; exact h.elim
      | none =>
        rw [hdst, hg] at h
        simp only at h
        cases ht : turnOf g0 o.op with
        | some args =>
          rw [ht] at h
          simp only at h
          cases cur with
          | some X => exact h.elim
          | none =>
            obtain ⟨vs, hvs, z, ks, f, hcall, h2⟩ := onV_iff h
            rw [putK_eq] at h2
            have hnk : ∀ (j : Nat) (st : Stp), ds[j]? = some st → st.kill ≠ some 0 := by
              rcases hd with ⟨_, h3⟩ | ⟨_, _, h3, _⟩
              · exact h3
              · exact absurd rfl h3
            have hlook := hs.put hl ho (stT (V.i z) (some 0))
            obtain ⟨rest, L1, sF, t0, g1, g2, g3, g4, g5, g6, g7, g8⟩ := drT_plan (r := r) (i := i + 1) (ds := ds ++ [stT (V.i z) (some 0)]) h2 hall' (by simp [hl]) hlook (.inr ⟨i, Nat.lt_succ_self _, by simp, fun j st hj => by
              by_cases hji : j < i
              · rw [List.getElem?_append_left (by omega)] at hj
                exact ⟨fun hk => absurd hk (hnk j st hj), fun e => by omega⟩
              · have hlt := (List.getElem?_eq_some_iff.1 hj).1
                simp [hl] at hlt
                have : j = i := by omega
                subst this
                rw [← hl] at hj
                simp at hj
                subst hj
                exact ⟨fun _ => rfl, fun _ => rfl⟩⟩)
            have hL1 := g7 _ rfl
            refine ⟨stT (V.i z) (some 0) :: rest, L1, sF, t0, by simp [g1], by simp; omega, ?_, ?_, ?_, g6, fun X hX => (by cases hX), fun _ => ⟨ks, f, hL1⟩⟩
            · rw [List.append_assoc] at g3; exact g3
            · rw [List.append_assoc] at g4
              intro j st hj hst
              by_cases hji : j = i
              · subst hji
                have hst' : st = stT (V.i z) (some 0) := by
                  rw [List.getElem?_append_right (by omega), hl, Nat.sub_self] at hst
                  simpa using hst.symm
                subst hst'
                exact ⟨o, s, ho, hdst, hg, hs.app _, .inr ⟨rfl, args, vs, z, ht, hvs, rfl, by rw [hL1]; exact hcall⟩⟩
              · exact g4 j st (by omega) hst
            · rw [List.append_assoc] at g5
              rw [show i + (o :: r).length = i + 1 + r.length by simp; omega]; exact g5
        | none =>
          rw [ht] at h
          simp only at h
          obtain ⟨v, new, nx', h1, h2, h3⟩ := rd_det P n0 o.op _ h
          rw [putK_eq] at h3
          have hnx := Nat.eq_of_beq_eq_true h2
          have hlook := hs.put hl ho (stT v none)
          obtain ⟨rest, L1, sF, t0, g1, g2, g3, g4, g5, g6, g7, g8⟩ := drT_plan (r := r) (i := i + 1) (ds := ds ++ [stT v none]) h3 hall' (by simp [hl]) hlook (by
            have key : ∀ j st, (ds ++ [stT v none])[j]? = some st → ds[j]? = some st ∨ (j = i ∧ st.kill = none) := fun j st hj => by
              by_cases hji : j < i
              · rw [List.getElem?_append_left (by omega)] at hj; exact .inl hj
              · have hlt := (List.getElem?_eq_some_iff.1 hj).1
                simp [hl] at hlt
                have : j = i := by omega
                subst this
                rw [← hl] at hj
                simp at hj
                subst hj
                exact .inr ⟨hl.symm ▸ rfl, rfl⟩
            rcases hd with ⟨q1, q2⟩ | ⟨t0, q1, q2, q3⟩
            · refine .inl ⟨q1, fun j st hj => ?_⟩
              rcases key j st hj with hj | ⟨_, hk⟩
              · exact q2 j st hj
              · rw [hk]; simp
            · refine .inr ⟨t0, by omega, q2, fun j st hj => ?_⟩
              rcases key j st hj with hj | ⟨hji, hk⟩
              · exact q3 j st hj
              · rw [hk]
                exact ⟨fun h => (by cases h), fun e => (by omega)⟩)
          refine ⟨stT v none :: rest, L1, sF, t0, by simp [g1], by simp; omega, ?_, ?_, ?_, g6, g7, g8⟩
          · rw [List.append_assoc] at g3; exact g3
          · rw [List.append_assoc] at g4
            intro j st hj hst
            by_cases hji : j = i
            · subst hji
              have hst' : st = stT v none := by
                rw [List.getElem?_append_right (by omega), hl, Nat.sub_self] at hst
                simpa using hst.symm
              subst hst'
              exact ⟨o, s, ho, hdst, hg, hs.app _, .inl ⟨rfl, new, nx', hnx, h1⟩⟩
            · exact g4 j st (by omega) hst
          · rw [List.append_assoc] at g5
            rw [show i + (o :: r).length = i + 1 + r.length by simp; omega]; exact g5
end
end Go.Proofs.Ytjijjncddjkdlaa

/- A region that draws its order, with one call that turns a map: the rule. -/
namespace Go.Proofs.Ytjijjncddjkdlaa
open Go.RowKit
set_option linter.unusedVariables false
set_option linter.unusedSimpArgs false
section
variable {P : Program} {T : List (Nat × TD)} {n0 : Nat} {cx : Cx} {N na nx : Nat} {all : List Oper} {L Lv L1 : List E} {s0 : S} {ds : List Stp} {n : Nat}
/-- Behind the operations of D. -/
structure StR (n0 N nx : Nat) (all : List Oper) (L Lv L1 : List E) (s0 : S) (ds : List Stp) (n : Nat) (ρ0 : Env) (w0 : World) (df : List Deferred) (D : Nat → Bool) (ρ : Env) (a : Act) (w : World) : Prop where
  size : a.tmps.size = N
  defers : a.defers = df
  agr : AgrLt nx ρ0 ρ
  bel : Keep n0 Cx.top w0 w
  hv : Hp n0 ρ w Lv nx
  h0 : (∀ (j : Nat) (st : Stp), ds[j]? = some st → st.kill = some 0 → D j = false) → Hp n0 ρ w L nx
  h1 : (∃ (j : Nat) (st : Stp), ds[j]? = some st ∧ st.kill = some 0 ∧ D j = true) → Hp n0 ρ w L1 nx
  wfd : ∀ (j : Nat) (st : Stp), ds[j]? = some st → D j = true → st.v.wf nx
  done : ∀ (j : Nat) (st : Stp) (d : Nat), ds[j]? = some st → D j = true → gslot all j = some d → a.tmps[d]? = some (st.v.den ρ)
  old : ∀ t v, look s0 t = some v → (∀ j, j < n → D j = true → gslot all j ≠ some t) → a.tmps[t]? = some (v.den ρ)
theorem Hp.quiet {X Y : List E} {ρ : Env} {w w' : World} {new : List E} (h : Hp n0 ρ w X nx) (hs : ∀ e ∈ Y, e ∈ X) (hn : News n0 Y ρ ρ w w' nx nx new) (hb : Below w.heap.size w w') : Hp n0 ρ w' X nx :=
  (h.news hs hn hb (Agr.refl _ _) (fun e he => ⟨by omega, fun c hc => rfl⟩) (Nat.le_refl _)).mono (fun e he => List.mem_append.2 (.inr he)) (Nat.le_refl _)
theorem StR.step {g0 lm : Nat} {ks : KS} {f : MF} (hT : TOK P T) (hP : ∀ (j : Nat) (st : Stp), ds[j]? = some st → PT P T n0 N g0 all L Lv L1 nx s0 ds j st) (hn : ds.length = n) (hH : headB all.toArray n = true) {t0 : Nat} (ht0 : ∀ (j : Nat) (st : Stp), ds[j]? = some st → (st.kill = some 0 ↔ j = t0))
    (hLv : ∀ e ∈ Lv, e ∈ L) (hL1 : L1 = ⟨lm, .mp true ks f, []⟩ :: Lv) (hlm : lm < nx) {ρ0 : Env} {w0 w : World} {df : List Deferred} {a : Act} {D : Nat → Bool} (hs0 : ∀ t v, look s0 t = some v → v.wf nx)
    (h : ∃ ρ, StR n0 N nx all L Lv L1 s0 ds n ρ0 w0 df D ρ a w) (hc : Closed all fun j => D j = true) {i : Nat} (hi : i < n) (hDi : D i = false) (hdeps : ∀ o, all[i]? = some o → ∀ e ∈ o.after, Region.binds .any e = true → D e.on = true)
    {next : Act → World → Prop} {Q : Exit → Act → World → Prop} (hK : ∀ a' w', (∃ ρ', StR n0 N nx all L Lv L1 s0 ds n ρ0 w0 df (fun j => Nat.beq j i || D j) ρ' a' w') → next a' w') : ∀ rd, wpOpIn (FR rd) 0 P all.toArray Q i next a w := by
  intro rd
  obtain ⟨ρ, h⟩ := h
  obtain ⟨st, hst⟩ : ∃ st, ds[i]? = some st := ⟨ds[i]'(by omega), List.getElem?_eq_getElem (by omega)⟩
  obtain ⟨o, si, ho, hdst, hgd, hlook, hgood⟩ := (hP i st hst).oper
  have hdep := hdeps o ho
  have hmet : Met ρ a o all si nx := by
    intro t ht v hv
    rcases hlook t v hv with ⟨j, sj, hj, hsj, hg, hden, hwf⟩ | ⟨hnone, v0, hv0, hden, hwf⟩
    · have hDj : D j = true := by
        rcases (headB_spec hH hi hj).1 with hw | ⟨x, y, hx, hy, hap⟩
        · obtain ⟨oj, hoj, e, he, hb, hon⟩ := Region.waitsFor_spec hw
          simp only [List.getElem?_toArray, ho, Option.some.injEq] at hoj
          subst hoj
          rw [← hon]; exact hdep e he hb
        · obtain ⟨h1, _, _⟩ := Oper.apart_spec hap
          rw [ho] at hy; cases hy
          rw [gslot_some hx] at hg
          exact absurd ht (h1 t hg)
      exact ⟨by rw [hden ρ]; exact h.done j sj t hsj hDj hg, hwf _ (h.wfd j sj hsj hDj)⟩
    · have hno : ∀ j, j < n → D j = true → gslot all j ≠ some t := by
        intro j hj hDj hg
        rcases Nat.lt_trichotomy j i with hji | hji | hji
        · exact hnone j hji hg
        · rw [hji] at hDj; rw [hDj] at hDi; cases hDi
        · rcases (headB_spec hH hj hji).1 with hw | ⟨x, y, hx, hy, hap⟩
          · obtain ⟨oj, hoj, e, he, hb, hon⟩ := Region.waitsFor_spec hw
            simp only [List.getElem?_toArray] at hoj
            have := hc j oj hoj hDj e he hb
            simp only [hon] at this
            rw [this] at hDi; cases hDi
          · obtain ⟨_, _, h3⟩ := Oper.apart_spec hap
            rw [ho] at hx; cases hx
            rw [gslot_some hy] at hg
            exact absurd ht (h3 t hg)
      exact ⟨by rw [hden ρ]; exact h.old t v0 hv0 hno, hwf _ (hs0 t v0 hv0)⟩
  have hw : Region.wanted o (yielded all.toArray a.tmps) = true := by simp [Region.wanted, hgd]
  have hbeq : ∀ j, (Nat.beq j i || D j) = true → j = i ∨ D j = true := fun j hj => by
    simp only [Bool.or_eq_true] at hj
    exact hj.imp Nat.eq_of_beq_eq_true id
  -- the slots behind it
  have slots : ∀ ρ', AgrLt nx ρ ρ' → st.v.wf nx → (∀ (j : Nat) (sj : Stp) (d : Nat), ds[j]? = some sj → (Nat.beq j i || D j) = true → gslot all j = some d → (a.put o.dst (st.v.den ρ')).tmps[d]? = some (sj.v.den ρ')) ∧
      (∀ t v, look s0 t = some v → (∀ j, j < n → (Nat.beq j i || D j) = true → gslot all j ≠ some t) → (a.put o.dst (st.v.den ρ')).tmps[t]? = some (v.den ρ')) := by
    intro ρ' hag hvw
    constructor
    · intro j sj d hj hDj hg
      rcases hbeq j hDj with rfl | hDj
      · rw [hst] at hj; cases hj
        rw [gslot_some ho] at hg
        rw [hg] at hdst ⊢
        have hd' : d < N := Nat.le_of_ble_eq_true hdst
        simp [Act.put, h.size, hd']
      · have hne : j ≠ i := fun e => by rw [e] at hDj; rw [hDj] at hDi; cases hDi
        have hjn : j < n := by rw [← hn]; exact (List.getElem?_eq_some_iff.1 hj).1
        have hdn : o.dst ≠ some d := by
          rw [← gslot_some ho]
          rcases Nat.lt_or_gt_of_ne hne with hlt | hlt
          · exact (headB_spec hH hi hlt).2 d hg
          · intro he; exact (headB_spec hH hjn hlt).2 d he hg
        have h2 : (a.put o.dst (st.v.den ρ')).tmps[d]? = a.tmps[d]? := by
          cases hd : o.dst with
          | none => rfl
          | some x =>
            rw [hd] at hdn
            simp only [Act.put]
            rw [Array.getElem?_setIfInBounds_ne (fun e => hdn (by rw [e]))]
        rw [h2, h.done j sj d hj hDj hg, V.den_agr hag (h.wfd j sj hj hDj)]
    · intro t v hv hno
      have hdn : o.dst ≠ some t := by
        rw [← gslot_some ho]
        exact hno i hi (by simp)
      have h2 : (a.put o.dst (st.v.den ρ')).tmps[t]? = a.tmps[t]? := by
        cases hd : o.dst with
        | none => rfl
        | some x =>
          rw [hd] at hdn
          simp only [Act.put]
          rw [Array.getElem?_setIfInBounds_ne (fun e => hdn (by rw [e]))]
      rw [h2, h.old t v hv (fun j hj hDj => hno j hj (by simp [hDj])), V.den_agr hag (hs0 t v hv)]
  have hput : ∀ u, (a.put o.dst u).tmps.size = N := fun u => by cases hd : o.dst <;> simp [Act.put, h.size]
  have hwfs : st.v.wf nx → ∀ (j : Nat) (sj : Stp), ds[j]? = some sj → (Nat.beq j i || D j) = true → sj.v.wf nx := fun hvw j sj hj hDj => by
    rcases hbeq j hDj with rfl | hDj
    · rw [hst] at hj; cases hj; exact hvw
    · exact h.wfd j sj hj hDj
  rcases hgood with ⟨hk, new, nx', hnx, hrd⟩ | ⟨hk, args, vs, z, hto, hvs, hz, hcall⟩
  · subst hnx
    refine good_run hT ho hrd hmet h.hv hw (fun ρ' w' q1 q2 q3 q4 => ?_) rd
    have hρ : ρ' = ρ := funext fun l => q2 l (by omega)
    subst hρ
    apply hK
    obtain ⟨s1, s2⟩ := slots ρ' (AgrLt.refl _ _) q1
    have hni : i ≠ t0 := fun e => by rw [((ht0 i st hst).2 e)] at hk; cases hk
    refine ⟨ρ', hput _, by rw [put_defers]; exact h.defers, h.agr, h.bel.trans (Keep.of q3 h.hv.base), h.hv.quiet (fun e he => he) q4 q3, fun hh => ?_, fun ⟨j, sj, hj, hkj, hDj⟩ => ?_, hwfs q1, s1, s2⟩
    · refine (h.h0 fun j sj hj hkj => ?_).quiet hLv q4 q3
      have := hh j sj hj hkj
      simp only [Bool.or_eq_false_iff] at this; exact this.2
    · refine (h.h1 ⟨j, sj, hj, hkj, ?_⟩).quiet (fun e he => by rw [hL1]; exact List.mem_cons_of_mem _ he) q4 q3
      rcases hbeq j hDj with rfl | hDj
      · rw [(ht0 j sj hj).1 hkj] at hni; exact absurd rfl hni
      · exact hDj
  · have hit : i = t0 := (ht0 i st hst).1 hk
    have hpL := h.h0 fun j sj hj hkj => by
      rw [(ht0 j sj hj).1 hkj, ← hit]; exact hDi
    obtain ⟨arr, tys, hop, hargs⟩ := turnOf_some hto
    obtain ⟨hv1, hv2⟩ := evs_ok (a := a) (ρ := ρ) (nx := nx) hvs (fun x hx v hv => hmet.ev x (by rw [hop]; simp [Op.operands, Call.operands]; exact .inr (by rw [← hargs] at hx; simpa using hx)) v hv)
    have e2 := (hmet.ev (.func g0) (by rw [hop]; simp [Op.operands, Call.operands]) _ rfl).1
    have hex : (execOp a.eval o).run P w = .ok (.enter g0 (vs.map (V.den ρ)).toArray) w := by
      obtain ⟨dst, op, ty, pos, after, guard⟩ := o
      simp only at hop
      subst hop
      simp only [execOp, resolve, e2, V.den, A.den, C.den, Deferred.ofValue, Sem.run_bind, Sem.run_pure, Result.andThen, invoke, callB_run hcall.ok]
      have : (#[] ++ arr.map a.eval) ++ ([] : List Value).toArray = (vs.map (V.den ρ)).toArray := by
        apply Array.ext'
        rw [← hargs] at hv1
        simpa using hv1
      simpa using this
    unfold wpOpIn
    simp only [List.getElem?_toArray, ho, hw, if_true]
    refine Oper.wpR (fun c => by rw [hop]; simp) ?_
    unfold Oper.wp
    rw [hex]
    refine Calls.mono (hcall.run ρ w hpL hv2) ?_
    rintro e w' ⟨v, L', nx', ρ', rfl, g1, g2, g3, g4, g5, rfl, rfl⟩
    have hag : AgrLt nx ρ ρ' := g3.lt
    have hp1 : Hp n0 ρ' w' L' nx := by
      refine ⟨g5.base, g5.ok, fun e he => ?_, g5.fn, g5.apart⟩
      rw [hL1] at he
      rcases List.mem_cons.1 he with rfl | he
      · exact ⟨hlm, by simp⟩
      · exact h.hv.wf e he
    have hvw : st.v.wf nx := by rw [hz]; trivial
    obtain ⟨s1, s2⟩ := slots ρ' hag hvw
    rw [hz] at s1 s2
    have := hK (a.put o.dst ((V.i z).den ρ')) w' ⟨ρ', hput _, by rw [put_defers]; exact h.defers, h.agr.trans hag (Nat.le_refl _), h.bel.trans g4, hp1.mono (fun e he => by rw [hL1]; exact List.mem_cons_of_mem _ he) (Nat.le_refl _), fun hh => ?_, fun _ => hp1, hwfs hvw, s1, s2⟩
    · exact this
    · have := hh i st hst hk
      simp at this
theorem simG {St : (Nat → Bool) → Act → World → Prop} (hna : n ≤ all.length) (hH : headB all.toArray n = true)
    (ht : n = all.length ∨ (Region.sinkB .any all.toArray n = true ∧ Region.chainB .any all.toArray n = true)) {g : Nat} {rd : Option Nat} {Q : Exit → Act → World → Prop}
    (hstep : ∀ (D : Nat → Bool) (a : Act) (w : World) (i : Nat), i < n → D i = false → (Closed all fun j => D j = true) → (∀ o, all[i]? = some o → ∀ e ∈ o.after, Region.binds .any e = true → D e.on = true) → St D a w → ∀ (next : Act → World → Prop), (∀ a' w', St (fun j => Nat.beq j i || D j) a' w' → next a' w') → wpOpIn (FR rd) 0 P all.toArray Q i next a w)
    (hend : ∀ a w, St (fun j => Nat.blt j n) a w → wpAnyIn (FR rd) 0 P .any all.toArray Q g (listedN n (all.length - n)) a w) :
    ∀ (c : Nat) (listed : Array Bool) (a : Act) (w : World), cnt listed n = c → HeadInv .any all.toArray n listed → St (fun j => listed.getD j false) a w →
      wpAnyIn (FR rd) 0 P .any all.toArray Q (c + g) listed a w
  | 0, listed, a, w, hc, inv, h => by
    have hl := cnt_zero hc
    have htail : ∀ t, n ≤ t → listed.getD t false = false := fun t hnt => by
      by_cases hts : t < all.length
      · exact getD_both (inv.tail t hnt (by simpa using hts))
      · have hsz := inv.size; simp at hsz; simp [Array.getElem?_eq_none (show listed.size ≤ t by omega)]
    have hlist : listed = listedN n (all.length - n) := by
      have hsz := inv.size
      simp only [List.size_toArray] at hsz
      apply Array.ext
      · simp [listedN, hsz]; omega
      · intro i hi hi'
        by_cases hin : i < n
        · have := hl i hin
          simp [hi] at this
          rw [this]; simp [listedN, hin]
        · have := htail i (by omega)
          simp [hi] at this
          rw [this]; simp [listedN, List.getElem_append_right (show (List.replicate n true).length ≤ i by simp; omega)]
    rw [Nat.zero_add, hlist]
    refine hend a w ?_
    have he : (fun j => listed.getD j false) = fun j => Nat.blt j n := funext fun j => by
      by_cases hjn : j < n
      · have h2 : Nat.blt j n = true := Nat.ble_eq_true_of_le hjn
        rw [h2]; exact hl j hjn
      · have h1 := htail j (by omega)
        have h2 : Nat.blt j n = false := by
          cases hb : Nat.blt j n with
          | false => rfl
          | true => exact absurd (Nat.le_of_ble_eq_true hb) hjn
        rw [h2]; exact h1
    rw [← he]; exact h
  | c + 1, listed, a, w, hc, inv, h => by
    have hsz := inv.size
    simp only [List.size_toArray] at hsz
    obtain ⟨i0, hi0, hf0, hlow⟩ := cnt_pos (n := n) (listed := listed) (by omega)
    have hcl : Closed all fun j => listed.getD j false = true := fun j oj hj hD e he hb => inv.closed j oj (by simpa using hj) hD e he hb
    rw [show c + 1 + g = (c + g) + 1 by omega]
    refine ⟨fun hr => ?_, fun i hi => ?_⟩
    · exfalso
      have hlt : i0 < all.length := by omega
      have : i0 ∈ Region.ready .any all.toArray listed := mem_ready.2 ⟨getD_in (by omega) hf0, all[i0], by simp [hlt], fun e he hb => by
        exact hlow _ (headB_edges hH hi0 (List.getElem?_eq_getElem hlt) e he hb)⟩
      rw [hr] at this; cases this
    · obtain ⟨hun, oi, hoi, hall⟩ := mem_ready.1 hi
      have hin : i < n := by
        rcases Nat.lt_or_ge i n with hh | hh
        · exact hh
        · exfalso
          rcases ht with ht | ⟨ht1, ht2⟩
          · have := (Array.getElem?_eq_some_iff.1 hoi).1; simp at this; omega
          · by_cases hnl : n < all.length
            · exact tail_waits ht1 ht2 (by simpa using hnl) inv _ i0 rfl hi0 (getD_in (by omega) hf0) i hh hi
            · have := (Array.getElem?_eq_some_iff.1 hoi).1; simp at this; omega
      have hfi := getD_both hun
      refine hstep _ a w i hin hfi hcl (fun o ho e he hb => ?_) h _ (fun a' w' h' => ?_)
      · simp only [List.getElem?_toArray] at hoi
        rw [hoi] at ho; cases ho
        exact hall e he hb
      · have hcs := (cnt_set (i := i) (by omega) hfi n).1 hin
        refine simG hna hH ht hstep hend c _ a' w' (by omega) (inv.set hi hin) ?_
        have he : (fun j => (listed.setIfInBounds i true).getD j false) = fun j => Nat.beq j i || listed.getD j false := funext fun j => by
          by_cases hji : i = j
          · subst hji
            rw [getD_set_same (by omega)]; simp
          · rw [getD_set_ne false hji]
            have : Nat.beq j i = false := by
              cases hb : Nat.beq j i with
              | false => rfl
              | true => exact absurd (Nat.eq_of_beq_eq_true hb).symm hji
            rw [this]; rfl
        rw [he]; exact h'
end
end Go.Proofs.Ytjijjncddjkdlaa

/- Shore: small functions. -/
namespace Go.Proofs.Ytjijjncddjkdlaa
open Go.RowKit
set_option linter.unusedVariables false
set_option linter.unusedSimpArgs false
theorem between_spec (a b c : Int) : Spec Try.prog 52 [V.i a, V.i b, V.i c] [] 0 (Is (V.c (.bool (decide (a ≤ b ∧ b ≤ c))))) := by
  refine Spec.of tok Try.func52 rfl rfl rfl fun n0 cx => vc_ok tok ?_
  repeat ((conv => whnf); first | (refine And.intro (by first | omega | exact Nat.le_of_ble_eq_true rfl | (dsimp only [inK]; omega) | (simp only [mulS_eq]; omega) | (simp only [mulS_eq, setL_length]; omega) | (simp only [setL_length, List.length_map]; omega) | exact ⟨by omega, by omega, by first | exact Nat.le_of_ble_eq_true rfl | (dsimp only; omega) | (simp only [setL_length]; omega) | (simp only [setL_length, List.length_map]; omega)⟩ | exact ⟨by omega, by first | rfl | omega, by omega, Nat.le_of_ble_eq_true rfl, Nat.le_of_ble_eq_true rfl⟩ | exact ⟨rfl, rfl, rfl, Nat.le_of_ble_eq_true rfl, by first | rfl | omega | exact Nat.le_of_ble_eq_true rfl | (dsimp only; omega) | (simp; done) | (simp; omega), by first | rfl | omega | exact Nat.le_of_ble_eq_true rfl | (dsimp only; omega) | (simp; done) | (simp; omega), by omega, Nat.le_of_ble_eq_true rfl⟩ | exact Eq.refl true) ?_) | (refine Exists.intro _ (And.intro rfl ?_)) | (refine And.intro (And.intro rfl (chk_rowI _ _ _ _)) ?_) | (refine br_t (by omega) ?_) | (refine br_f (by omega) ?_) | (refine bs_t (by omega) ?_) | (refine bs_f (by omega) ?_) | (refine fun (K' : K3) hK' => ?_) | (refine hK' _ _ _ ?_; clear hK' K') | (refine draw_auto tok mixed (by kernel_rfl) ?_) | (refine bs_bt (Eq.refl true) ?_) | (refine bs_bf (Eq.refl false) ?_) | (refine br_bt (Eq.refl true) ?_) | (refine br_bf (Eq.refl false) ?_) | (refine CallK.m ?_) | (refine Two.l ?_) | (refine And.intro (And.intro rfl rfl) ?_))
  refine br_d (fun h => ?_) (fun h => ?_)
  all_goals
    repeat ((conv => whnf); first | (refine And.intro (by first | omega | exact Nat.le_of_ble_eq_true rfl | (dsimp only [inK]; omega) | (simp only [mulS_eq]; omega) | (simp only [mulS_eq, setL_length]; omega) | (simp only [setL_length, List.length_map]; omega) | exact ⟨by omega, by omega, by first | exact Nat.le_of_ble_eq_true rfl | (dsimp only; omega) | (simp only [setL_length]; omega) | (simp only [setL_length, List.length_map]; omega)⟩ | exact ⟨by omega, by first | rfl | omega, by omega, Nat.le_of_ble_eq_true rfl, Nat.le_of_ble_eq_true rfl⟩ | exact ⟨rfl, rfl, rfl, Nat.le_of_ble_eq_true rfl, by first | rfl | omega | exact Nat.le_of_ble_eq_true rfl | (dsimp only; omega) | (simp; done) | (simp; omega), by first | rfl | omega | exact Nat.le_of_ble_eq_true rfl | (dsimp only; omega) | (simp; done) | (simp; omega), by omega, Nat.le_of_ble_eq_true rfl⟩ | exact Eq.refl true) ?_) | (refine Exists.intro _ (And.intro rfl ?_)) | (refine And.intro (And.intro rfl (chk_rowI _ _ _ _)) ?_) | (refine br_t (by omega) ?_) | (refine br_f (by omega) ?_) | (refine bs_t (by omega) ?_) | (refine bs_f (by omega) ?_) | (refine fun (K' : K3) hK' => ?_) | (refine hK' _ _ _ ?_; clear hK' K') | (refine draw_auto tok mixed (by kernel_rfl) ?_) | (refine bs_bt (Eq.refl true) ?_) | (refine bs_bf (Eq.refl false) ?_) | (refine br_bt (Eq.refl true) ?_) | (refine br_bf (Eq.refl false) ?_) | (refine CallK.m ?_) | (refine Two.l ?_) | (refine And.intro (And.intro rfl rfl) ?_))
    intro ρ; show Value.bool _ = Value.bool _; simp [h]
abbrev Job := Int × Int
def jobC (l : List Job) : List C := l.flatMap fun j => [C.i j.1, C.i j.2]
theorem jobC_len (l : List Job) : (jobC l).length = 2 * l.length := by
  induction l with
  | nil => rfl
  | cons x l ih => simp only [jobC, List.flatMap_cons] at *; simp [ih]; omega
theorem jobC_0 : ∀ {l : List Job} {k : Nat}, k < l.length → (jobC l)[k * 2]? = some (C.i (l.getD k (0, 0)).1)
  | x :: l, 0, _ => rfl
  | x :: l, k + 1, h => by
    have := jobC_0 (l := l) (k := k) (by simpa using h)
    simp only [jobC, List.flatMap_cons] at *
    rw [show (k + 1) * 2 = k * 2 + 1 + 1 by omega]
    simpa using this
theorem jobC_1 : ∀ {l : List Job} {k : Nat}, k < l.length → (jobC l)[k * 2 + 1]? = some (C.i (l.getD k (0, 0)).2)
  | x :: l, 0, _ => rfl
  | x :: l, k + 1, h => by
    have := jobC_1 (l := l) (k := k) (by simpa using h)
    simp only [jobC, List.flatMap_cons] at *
    rw [show (k + 1) * 2 + 1 = k * 2 + 1 + 1 + 1 by omega]
    simpa using this
theorem wf_jobs (n : Nat) (l : List Job) : ∀ c ∈ jobC l, c.wf n := by
  intro c hc
  simp only [jobC, List.mem_flatMap] at hc
  obtain ⟨j, _, hc⟩ := hc
  simp at hc
  rcases hc with rfl | rfl <;> trivial
theorem jobL0 {l : List Job} {k : Nat} (h : k < l.length) : (jobC l)[addO (mulS ((k : Nat) : Int).toNat 2) 0]? = some (C.i (l.getD k (0, 0)).1) := by
  rw [addO_eq, mulS_eq]; exact jobC_0 h
theorem jobL1 {l : List Job} {k : Nat} (h : k < l.length) : (jobC l)[addO (mulS ((k : Nat) : Int).toNat 2) 1]? = some (C.i (l.getD k (0, 0)).2) := by
  rw [addO_eq, mulS_eq]; exact jobC_1 h
abbrev Pc := Int × Int × Int
/-- The reference's lead: (harm, hours, last) so far, and the best. -/
def runR (l : List Job) (f : Nat) : Nat → Pc × Pc
  | 0 => ((0, 0, (f : Int) - 1), (0, 0, 0))
  | n + 1 =>
    let st := runR l f n
    let j := l.getD (f + n) (0, 0)
    let now : Pc := (st.1.1 + j.2, st.1.2.1 + j.1, (f + n : Nat))
    (now, if f + n = f ∨ now.1 * st.2.2.1 ≥ st.2.1 * now.2.1 then now else st.2)
def JobsOk (l : List Job) : Prop := ∀ k, k < l.length → 1 ≤ (l.getD k (0, 0)).1 ∧ (l.getD k (0, 0)).1 ≤ 100 ∧ 0 ≤ (l.getD k (0, 0)).2 ∧ (l.getD k (0, 0)).2 ≤ 100
theorem runR_bd {l : List Job} {f : Nat} (hj : JobsOk l) : ∀ n, f + n ≤ l.length → 0 ≤ (runR l f n).1.1 ∧ (runR l f n).1.1 ≤ 100 * n ∧ 0 ≤ (runR l f n).1.2.1 ∧ (runR l f n).1.2.1 ≤ 100 * n ∧ 0 ≤ (runR l f n).2.1 ∧ (runR l f n).2.1 ≤ 100 * n ∧ 0 ≤ (runR l f n).2.2.1 ∧ (runR l f n).2.2.1 ≤ 100 * n
  | 0, _ => by simp [runR]
  | n + 1, h => by
    have ih := runR_bd (f := f) hj n (by omega)
    have hb := hj (f + n) (by omega)
    simp only [runR]
    refine ⟨by omega, by omega, by omega, by omega, ?_⟩
    split
    · exact ⟨by simp only; omega, by simp only; omega, by simp only; omega, by simp only; omega⟩
    · exact ⟨by omega, by omega, by omega, by omega⟩
theorem mul_bd {a b A B : Int} (h1 : 0 ≤ a) (h2 : a ≤ A) (h3 : 0 ≤ b) (h4 : b ≤ B) : 0 ≤ a * b ∧ a * b ≤ A * B :=
  ⟨Int.mul_nonneg h1 h3, Int.mul_le_mul h2 h4 h3 (by omega)⟩
set_option maxRecDepth 10000 in
theorem rlead_spec (l : List Job) (f : Nat) (hl : l.length ≤ 12) (hf : f ≤ l.length) (hj : JobsOk l) :
    Spec Try.prog 54 [V.c (.sl 0 l.length), V.i f] [⟨0, .ro 2, jobC l⟩] 1 (Is (V.agg [C.i (runR l f (l.length - f)).2.1, C.i (runR l f (l.length - f)).2.2.1, C.i (runR l f (l.length - f)).2.2.2])) := by
  have hjl := jobC_len l
  refine Spec.of tok Try.func54 rfl rfl rfl fun n0 cx => vc_ok tok ?_
  repeat ((conv => whnf); first | (refine And.intro (by first | omega | exact Nat.le_of_ble_eq_true rfl | (dsimp only [inK]; omega) | (simp only [mulS_eq]; omega) | (simp only [mulS_eq, setL_length]; omega) | (simp only [setL_length, List.length_map]; omega) | exact ⟨by omega, by omega, by first | exact Nat.le_of_ble_eq_true rfl | (dsimp only; omega) | (simp only [setL_length]; omega) | (simp only [setL_length, List.length_map]; omega)⟩ | exact ⟨by omega, by first | rfl | omega, by omega, Nat.le_of_ble_eq_true rfl, Nat.le_of_ble_eq_true rfl⟩ | exact ⟨rfl, rfl, rfl, Nat.le_of_ble_eq_true rfl, by first | rfl | omega | exact Nat.le_of_ble_eq_true rfl | (dsimp only; omega) | (simp; done) | (simp; omega), by first | rfl | omega | exact Nat.le_of_ble_eq_true rfl | (dsimp only; omega) | (simp; done) | (simp; omega), by omega, Nat.le_of_ble_eq_true rfl⟩ | exact Eq.refl true) ?_) | (refine Exists.intro _ (And.intro rfl ?_)) | (refine And.intro (And.intro rfl (chk_rowI _ _ _ _)) ?_) | (refine br_t (by omega) ?_) | (refine br_f (by omega) ?_) | (refine bs_t (by omega) ?_) | (refine bs_f (by omega) ?_) | (refine fun (K' : K3) hK' => ?_) | (refine hK' _ _ _ ?_; clear hK' K') | (refine draw_auto tok mixed (by kernel_rfl) ?_) | (refine bs_bt (Eq.refl true) ?_) | (refine bs_bf (Eq.refl false) ?_) | (refine br_bt (Eq.refl true) ?_) | (refine br_bf (Eq.refl false) ?_) | (refine CallK.m ?_) | (refine Two.l ?_) | (refine And.intro (And.intro rfl rfl) ?_))
  refine Tri.loop (γ := Nat) (fun n => f + n ≤ l.length) (fun n => [(0, V.c (.sl 0 l.length)), (1, V.i f), (4, V.c (.ptr 1 0)), (5, V.c (.ptr 2 0)), (6, V.c (.ptr 3 0)), (7, V.i ((f + n : Nat) : Int))])
    (fun n => [⟨0, .ro 2, jobC l⟩, ⟨1, .own 65, [C.i 0, C.i 0, C.i 0]⟩, ⟨2, .own 65, [C.i (runR l f n).1.1, C.i (runR l f n).1.2.1, C.i (runR l f n).1.2.2]⟩, ⟨3, .own 65, [C.i (runR l f n).2.1, C.i (runR l f n).2.2.1, C.i (runR l f n).2.2.2]⟩]) 4 (fun n => l.length - (f + n)) 0 (R0 := []) ?_ ?_ ?_
  · omega
  · skip
    refine ⟨?_, ?_, rfl, rfl, by first | exact Nat.le_of_ble_eq_true rfl | exact Nat.le_refl _ | omega⟩
    · repeat (first | exact trivial | refine And.intro (covS_syn (by first | rfl) rfl (by first | exact trivial | exact Nat.le_of_ble_eq_true rfl | exact hy | exact (fun p hp => nomatch hp) | (show (_ : Nat) < _; omega))) ?_ | refine And.intro (covS_bool rfl rfl (by first | rfl)) ?_)
    · repeat (first | exact trivial | refine And.intro (covE_id (Nat.le_of_ble_eq_true rfl) (by first | exact wf_ints _ _ | exact wf_bools _ _ | exact wf_jobs _ _ | simp [C.wf]) rfl (by first | rfl)) ?_)
  · intro n hn
    refine vc_ok tok ?_
    by_cases hlt : f + n < l.length
    · have hjb := hj (f + n) hlt
      have hrb := runR_bd (f := f) hj n hn
      have hm1 := mul_bd (a := (runR l f n).1.1 + (l.getD (f + n) (0, 0)).2) (b := (runR l f n).2.2.1) (A := 2000) (B := 2000) (by omega) (by omega) (by omega) (by omega)
      have hm2 := mul_bd (a := (runR l f n).2.1) (b := (runR l f n).1.2.1 + (l.getD (f + n) (0, 0)).1) (A := 2000) (B := 2000) (by omega) (by omega) (by omega) (by omega)
      by_cases h0 : n = 0
      · subst h0
        repeat ((conv => whnf); first | (refine And.intro (by first | omega | exact Nat.le_of_ble_eq_true rfl | (dsimp only [inK]; omega) | (simp only [mulS_eq]; omega) | (simp only [mulS_eq, setL_length]; omega) | (simp only [setL_length, List.length_map]; omega) | exact ⟨by omega, by omega, by first | exact Nat.le_of_ble_eq_true rfl | (dsimp only; omega) | (simp only [setL_length]; omega) | (simp only [setL_length, List.length_map]; omega)⟩ | exact ⟨by omega, by first | rfl | omega, by omega, Nat.le_of_ble_eq_true rfl, Nat.le_of_ble_eq_true rfl⟩ | exact ⟨rfl, rfl, rfl, Nat.le_of_ble_eq_true rfl, by first | rfl | omega | exact Nat.le_of_ble_eq_true rfl | (dsimp only; omega) | (simp; done) | (simp; omega), by first | rfl | omega | exact Nat.le_of_ble_eq_true rfl | (dsimp only; omega) | (simp; done) | (simp; omega), by omega, Nat.le_of_ble_eq_true rfl⟩ | exact Eq.refl true) ?_) | (with_reducible refine ld (jobL0 hlt) ?_) | (with_reducible refine ld (jobL1 hlt) ?_) | (refine Exists.intro _ (And.intro rfl ?_)) | (refine And.intro (And.intro rfl (chk_rowI _ _ _ _)) ?_) | (refine br_t (by omega) ?_) | (refine br_f (by omega) ?_) | (refine bs_t (by omega) ?_) | (refine bs_f (by omega) ?_) | (refine fun (K' : K3) hK' => ?_) | (refine hK' _ _ _ ?_; clear hK' K') | (refine draw_auto tok mixed (by kernel_rfl) ?_) | (refine bs_bt (Eq.refl true) ?_) | (refine bs_bf (Eq.refl false) ?_) | (refine br_bt (Eq.refl true) ?_) | (refine br_bf (Eq.refl false) ?_) | (refine CallK.m ?_) | (refine Two.l ?_) | (refine And.intro (And.intro rfl rfl) ?_))
        refine ⟨0 + 1, [], by omega, by omega, ?_⟩
        refine ⟨?_, ?_, rfl, rfl, by first | exact Nat.le_of_ble_eq_true rfl | exact Nat.le_refl _ | omega⟩
        · repeat (first | exact trivial | refine And.intro (covS_syn (by first | rfl) rfl (by first | exact trivial | exact Nat.le_of_ble_eq_true rfl | exact hy | exact (fun p hp => nomatch hp) | (show (_ : Nat) < _; omega))) ?_ | refine And.intro (covS_bool rfl rfl (by first | rfl)) ?_)
        · repeat (first | exact trivial | refine And.intro (covE_id (Nat.le_of_ble_eq_true rfl) (by first | exact wf_ints _ _ | exact wf_bools _ _ | exact wf_jobs _ _ | simp [C.wf]) rfl (by first | rfl | (exact (show ([C.i _, C.i _, C.i _] : List C) = [C.i _, C.i _, C.i _] by simp [runR])))) ?_)
      · by_cases hge : ((runR l f n).1.1 + (l.getD (f + n) (0, 0)).2) * (runR l f n).2.2.1 ≥ (runR l f n).2.1 * ((runR l f n).1.2.1 + (l.getD (f + n) (0, 0)).1)
        · have hR : (runR l f (n + 1)).2 = ((runR l f n).1.1 + (l.getD (f + n) (0, 0)).2, (runR l f n).1.2.1 + (l.getD (f + n) (0, 0)).1, ((f + n : Nat) : Int)) := if_pos (.inr hge)
          repeat ((conv => whnf); first | (refine And.intro (by first | omega | exact Nat.le_of_ble_eq_true rfl | (dsimp only [inK]; omega) | (simp only [mulS_eq]; omega) | (simp only [mulS_eq, setL_length]; omega) | (simp only [setL_length, List.length_map]; omega) | exact ⟨by omega, by omega, by first | exact Nat.le_of_ble_eq_true rfl | (dsimp only; omega) | (simp only [setL_length]; omega) | (simp only [setL_length, List.length_map]; omega)⟩ | exact ⟨by omega, by first | rfl | omega, by omega, Nat.le_of_ble_eq_true rfl, Nat.le_of_ble_eq_true rfl⟩ | exact ⟨rfl, rfl, rfl, Nat.le_of_ble_eq_true rfl, by first | rfl | omega | exact Nat.le_of_ble_eq_true rfl | (dsimp only; omega) | (simp; done) | (simp; omega), by first | rfl | omega | exact Nat.le_of_ble_eq_true rfl | (dsimp only; omega) | (simp; done) | (simp; omega), by omega, Nat.le_of_ble_eq_true rfl⟩ | exact Eq.refl true) ?_) | (with_reducible refine ld (jobL0 hlt) ?_) | (with_reducible refine ld (jobL1 hlt) ?_) | (refine Exists.intro _ (And.intro rfl ?_)) | (refine And.intro (And.intro rfl (chk_rowI _ _ _ _)) ?_) | (refine br_t (by omega) ?_) | (refine br_f (by omega) ?_) | (refine bs_t (by omega) ?_) | (refine bs_f (by omega) ?_) | (refine fun (K' : K3) hK' => ?_) | (refine hK' _ _ _ ?_; clear hK' K') | (refine draw_auto tok mixed (by kernel_rfl) ?_) | (refine bs_bt (Eq.refl true) ?_) | (refine bs_bf (Eq.refl false) ?_) | (refine br_bt (Eq.refl true) ?_) | (refine br_bf (Eq.refl false) ?_) | (refine CallK.m ?_) | (refine Two.l ?_) | (refine And.intro (And.intro rfl rfl) ?_))
          refine ⟨n + 1, [], by omega, by omega, ?_⟩
          refine ⟨?_, ?_, rfl, rfl, by first | exact Nat.le_of_ble_eq_true rfl | exact Nat.le_refl _ | omega⟩
          · repeat (first | exact trivial | refine And.intro (covS_syn (by first | rfl) rfl (by first | exact trivial | exact Nat.le_of_ble_eq_true rfl | exact hy | exact (fun p hp => nomatch hp) | (show (_ : Nat) < _; omega))) ?_ | refine And.intro (covS_bool rfl rfl (by first | rfl)) ?_)
          · repeat (first | exact trivial | refine And.intro (covE_id (Nat.le_of_ble_eq_true rfl) (by first | exact wf_ints _ _ | exact wf_bools _ _ | exact wf_jobs _ _ | simp [C.wf]) rfl (by first | rfl | (exact (show ([C.i _, C.i _, C.i _] : List C) = [C.i _, C.i _, C.i _] by rw [hR])))) ?_)
        · have hR : (runR l f (n + 1)).2 = (runR l f n).2 := if_neg (fun h => h.elim (fun e => h0 (by omega)) hge)
          repeat ((conv => whnf); first | (refine And.intro (by first | omega | exact Nat.le_of_ble_eq_true rfl | (dsimp only [inK]; omega) | (simp only [mulS_eq]; omega) | (simp only [mulS_eq, setL_length]; omega) | (simp only [setL_length, List.length_map]; omega) | exact ⟨by omega, by omega, by first | exact Nat.le_of_ble_eq_true rfl | (dsimp only; omega) | (simp only [setL_length]; omega) | (simp only [setL_length, List.length_map]; omega)⟩ | exact ⟨by omega, by first | rfl | omega, by omega, Nat.le_of_ble_eq_true rfl, Nat.le_of_ble_eq_true rfl⟩ | exact ⟨rfl, rfl, rfl, Nat.le_of_ble_eq_true rfl, by first | rfl | omega | exact Nat.le_of_ble_eq_true rfl | (dsimp only; omega) | (simp; done) | (simp; omega), by first | rfl | omega | exact Nat.le_of_ble_eq_true rfl | (dsimp only; omega) | (simp; done) | (simp; omega), by omega, Nat.le_of_ble_eq_true rfl⟩ | exact Eq.refl true) ?_) | (with_reducible refine ld (jobL0 hlt) ?_) | (with_reducible refine ld (jobL1 hlt) ?_) | (refine Exists.intro _ (And.intro rfl ?_)) | (refine And.intro (And.intro rfl (chk_rowI _ _ _ _)) ?_) | (refine br_t (by omega) ?_) | (refine br_f (by omega) ?_) | (refine bs_t (by omega) ?_) | (refine bs_f (by omega) ?_) | (refine fun (K' : K3) hK' => ?_) | (refine hK' _ _ _ ?_; clear hK' K') | (refine draw_auto tok mixed (by kernel_rfl) ?_) | (refine bs_bt (Eq.refl true) ?_) | (refine bs_bf (Eq.refl false) ?_) | (refine br_bt (Eq.refl true) ?_) | (refine br_bf (Eq.refl false) ?_) | (refine CallK.m ?_) | (refine Two.l ?_) | (refine And.intro (And.intro rfl rfl) ?_))
          refine ⟨n + 1, [], by omega, by omega, ?_⟩
          refine ⟨?_, ?_, rfl, rfl, by first | exact Nat.le_of_ble_eq_true rfl | exact Nat.le_refl _ | omega⟩
          · repeat (first | exact trivial | refine And.intro (covS_syn (by first | rfl) rfl (by first | exact trivial | exact Nat.le_of_ble_eq_true rfl | exact hy | exact (fun p hp => nomatch hp) | (show (_ : Nat) < _; omega))) ?_ | refine And.intro (covS_bool rfl rfl (by first | rfl)) ?_)
          · repeat (first | exact trivial | refine And.intro (covE_id (Nat.le_of_ble_eq_true rfl) (by first | exact wf_ints _ _ | exact wf_bools _ _ | exact wf_jobs _ _ | simp [C.wf]) rfl (by first | rfl | (exact (show ([C.i _, C.i _, C.i _] : List C) = [C.i _, C.i _, C.i _] by rw [hR])))) ?_)
    · have hnl : n = l.length - f := by omega
      repeat ((conv => whnf); first | (refine And.intro (by first | omega | exact Nat.le_of_ble_eq_true rfl | (dsimp only [inK]; omega) | (simp only [mulS_eq]; omega) | (simp only [mulS_eq, setL_length]; omega) | (simp only [setL_length, List.length_map]; omega) | exact ⟨by omega, by omega, by first | exact Nat.le_of_ble_eq_true rfl | (dsimp only; omega) | (simp only [setL_length]; omega) | (simp only [setL_length, List.length_map]; omega)⟩ | exact ⟨by omega, by first | rfl | omega, by omega, Nat.le_of_ble_eq_true rfl, Nat.le_of_ble_eq_true rfl⟩ | exact ⟨rfl, rfl, rfl, Nat.le_of_ble_eq_true rfl, by first | rfl | omega | exact Nat.le_of_ble_eq_true rfl | (dsimp only; omega) | (simp; done) | (simp; omega), by first | rfl | omega | exact Nat.le_of_ble_eq_true rfl | (dsimp only; omega) | (simp; done) | (simp; omega), by omega, Nat.le_of_ble_eq_true rfl⟩ | exact Eq.refl true) ?_) | (refine Exists.intro _ (And.intro rfl ?_)) | (refine And.intro (And.intro rfl (chk_rowI _ _ _ _)) ?_) | (refine br_t (by omega) ?_) | (refine br_f (by omega) ?_) | (refine bs_t (by omega) ?_) | (refine bs_f (by omega) ?_) | (refine fun (K' : K3) hK' => ?_) | (refine hK' _ _ _ ?_; clear hK' K') | (refine draw_auto tok mixed (by kernel_rfl) ?_) | (refine bs_bt (Eq.refl true) ?_) | (refine bs_bf (Eq.refl false) ?_) | (refine br_bt (Eq.refl true) ?_) | (refine br_bf (Eq.refl false) ?_) | (refine CallK.m ?_) | (refine Two.l ?_) | (refine And.intro (And.intro rfl rfl) ?_))
      subst hnl
      intro ρ; rfl
end Go.Proofs.Ytjijjncddjkdlaa

/- Shore: a coast in memory; many; visits. -/
namespace Go.Proofs.Ytjijjncddjkdlaa
open Go.RowKit
set_option linter.unusedVariables false
set_option linter.unusedSimpArgs false
abbrev Coast := List (List Job)
/-- The beaches, as slices: that of label b first. -/
def slsC (b : Nat) : Coast → List C
  | [] => []
  | x :: r => .sl b x.length :: slsC (b + 1) r
def entC (b : Nat) : Coast → List E
  | [] => []
  | x :: r => ⟨b, .ro 2, jobC x⟩ :: entC (b + 1) r
theorem slsC_len : ∀ {b : Nat} {j : Coast}, (slsC b j).length = j.length
  | _, [] => rfl
  | b, x :: r => by simp [slsC, slsC_len (b := b + 1) (j := r)]
theorem slsC_get : ∀ {b : Nat} {j : Coast} {k : Nat}, k < j.length → (slsC b j)[k]? = some (.sl (b + k) (j.getD k []).length)
  | b, x :: r, 0, _ => rfl
  | b, x :: r, k + 1, h => by
    have := slsC_get (b := b + 1) (j := r) (k := k) (by simpa using h)
    simp only [slsC, List.getElem?_cons_succ, this, List.getD_cons_succ]
    rw [show b + 1 + k = b + (k + 1) by omega]
theorem entC_find : ∀ {b : Nat} {j : Coast} {k : Nat}, k < j.length → find (entC b j) (b + k) = some ⟨b + k, .ro 2, jobC (j.getD k [])⟩
  | b, x :: r, 0, _ => by simp [entC, find]
  | b, x :: r, k + 1, h => by
    have hb : Nat.beq b (b + (k + 1)) = false := by
      cases hb : Nat.beq b (b + (k + 1)) with
      | false => rfl
      | true => have := Nat.eq_of_beq_eq_true hb; omega
    simp only [entC, find, hb, cond_false, List.getD_cons_succ]
    rw [show b + (k + 1) = b + 1 + k by omega]
    exact entC_find (by simpa using h)
theorem find_skip {lab l : Nat} {kd : Kd} {cs : List C} {L : List E} (h : lab ≠ l) : find (⟨lab, kd, cs⟩ :: L) l = find L l := by
  have hb : Nat.beq lab l = false := by
    cases hb : Nat.beq lab l with
    | false => rfl
    | true => exact absurd (Nat.eq_of_beq_eq_true hb) h
  rw [find, hb]
  rfl
theorem find_hi {lab l : Nat} {kd : Kd} {cs : List C} {L : List E} (h : l ≤ 20) (hb : Nat.ble 21 lab = true) : find (⟨lab, kd, cs⟩ :: L) l = find L l :=
  find_skip (by have := Nat.le_of_ble_eq_true hb; omega)
theorem wf_sls : ∀ (n b : Nat) (j : Coast), (b + j.length ≤ n) → ∀ c ∈ slsC b j, c.wf n
  | n, b, x :: r, h, c, hc => by
    simp only [List.length_cons] at h
    rcases List.mem_cons.1 hc with rfl | hc
    · show b < n; omega
    · exact wf_sls n (b + 1) r (by omega) c hc
theorem slL {b : Nat} {j : Coast} {k : Nat} (h : k < j.length) : (slsC b j)[mulS ((k : Nat) : Int).toNat 1]? = some (C.sl (b + k) (j.getD k []).length) := by
  rw [mulS_eq]; simpa using slsC_get h
theorem slLz {b : Nat} {j : Coast} {k : Nat} {z : Int} (hz : z = k) (h : k < j.length) : (slsC b j)[mulS z.toNat 1]? = some (C.sl (b + k) (j.getD k []).length) := by
  subst hz; exact slL h
/-- How many jobs the first k beaches have. -/
def manyN (j : Coast) (k : Nat) : Nat := ((j.take k).map List.length).sum
theorem manyN_succ {j : Coast} {k : Nat} (h : k < j.length) : manyN j (k + 1) = manyN j k + (j.getD k []).length := by
  have h1 : j.take (k + 1) = j.take k ++ [j.getD k []] := by
    rw [List.take_add_one, List.getD_eq_getElem?_getD, List.getElem?_eq_getElem h]; rfl
  unfold manyN
  rw [h1, List.map_append, List.sum_append]
  rfl
theorem many_spec (j : Coast) (hj : j.length ≤ 20) (hl : ∀ k, k < j.length → (j.getD k []).length ≤ 100) : Spec Try.prog 72 [V.c (.sl 0 j.length)] [⟨0, .ro 1, slsC 1 j⟩] 32 (Is (V.i (manyN j j.length))) := by
  have hlen := slsC_len (b := 1) (j := j)
  have hm : ∀ k, k ≤ j.length → manyN j k ≤ 100 * k := by
    intro k hk
    induction k with
    | zero => simp [manyN]
    | succ k ih => rw [manyN_succ (by omega)]; have := hl k (by omega); have := ih (by omega); omega
  refine Spec.of tok Try.func72 rfl rfl rfl fun n0 cx => vc_ok tok ?_
  repeat ((conv => whnf); first | (refine And.intro (by first | omega | exact Nat.le_of_ble_eq_true rfl | (dsimp only [inK]; omega) | (simp only [mulS_eq]; omega) | (simp only [mulS_eq, setL_length]; omega) | (simp only [setL_length, List.length_map]; omega) | exact ⟨by omega, by omega, by first | exact Nat.le_of_ble_eq_true rfl | (dsimp only; omega) | (simp only [setL_length]; omega) | (simp only [setL_length, List.length_map]; omega)⟩ | exact ⟨by omega, by first | rfl | omega, by omega, Nat.le_of_ble_eq_true rfl, Nat.le_of_ble_eq_true rfl⟩ | exact ⟨rfl, rfl, rfl, Nat.le_of_ble_eq_true rfl, by first | rfl | omega | exact Nat.le_of_ble_eq_true rfl | (dsimp only; omega) | (simp; done) | (simp; omega), by first | rfl | omega | exact Nat.le_of_ble_eq_true rfl | (dsimp only; omega) | (simp; done) | (simp; omega), by omega, Nat.le_of_ble_eq_true rfl⟩ | exact Eq.refl true) ?_) | (refine Exists.intro _ (And.intro rfl ?_)) | (refine And.intro (And.intro rfl (chk_rowI _ _ _ _)) ?_) | (refine br_t (by omega) ?_) | (refine br_f (by omega) ?_) | (refine bs_t (by omega) ?_) | (refine bs_f (by omega) ?_) | (refine fun (K' : K3) hK' => ?_) | (refine hK' _ _ _ ?_; clear hK' K') | (refine draw_auto tok mixed (by kernel_rfl) ?_) | (refine bs_bt (Eq.refl true) ?_) | (refine bs_bf (Eq.refl false) ?_) | (refine br_bt (Eq.refl true) ?_) | (refine br_bf (Eq.refl false) ?_) | (refine CallK.m ?_) | (refine Two.l ?_) | (refine And.intro (And.intro rfl rfl) ?_))
  refine Tri.loop (γ := Nat) (fun k => k ≤ j.length) (fun k => [(0, V.c (.sl 0 j.length)), (6, V.c (.sl 0 j.length)), (7, V.i j.length), (8, V.i (k : Nat)), (3, V.i (manyN j k))])
    (fun k => [⟨0, .ro 1, slsC 1 j⟩]) 32 (fun k => j.length - k) 0 (R0 := []) ?_ ?_ ?_
  · omega
  · skip
    refine ⟨?_, ?_, rfl, rfl, by first | exact Nat.le_of_ble_eq_true rfl | exact Nat.le_refl _ | omega⟩
    · repeat (first | exact trivial | refine And.intro (covS_syn (by first | rfl) rfl (by first | exact trivial | exact Nat.le_of_ble_eq_true rfl | exact hy | exact (fun p hp => nomatch hp) | (show (_ : Nat) < _; omega))) ?_ | refine And.intro (covS_bool rfl rfl (by first | rfl)) ?_)
    · repeat (first | exact trivial | refine And.intro (covE_id (Nat.le_of_ble_eq_true rfl) (by first | exact wf_ints _ _ | exact wf_bools _ _ | first | exact wf_sls _ _ _ (by omega) | exact wf_jobs _ _ | simp [C.wf]) rfl (by first | rfl)) ?_)
  · intro k hk
    refine vc_ok tok ?_
    by_cases hlt : k < j.length
    · have h1 := hm k hk
      have h2 := hl k hlt
      have h3 := manyN_succ hlt
      repeat ((conv => whnf); first | (refine And.intro (by first | omega | exact Nat.le_of_ble_eq_true rfl | (dsimp only [inK]; omega) | (simp only [mulS_eq]; omega) | (simp only [mulS_eq, setL_length]; omega) | (simp only [setL_length, List.length_map]; omega) | exact ⟨by omega, by omega, by first | exact Nat.le_of_ble_eq_true rfl | (dsimp only; omega) | (simp only [setL_length]; omega) | (simp only [setL_length, List.length_map]; omega)⟩ | exact ⟨by omega, by first | rfl | omega, by omega, Nat.le_of_ble_eq_true rfl, Nat.le_of_ble_eq_true rfl⟩ | exact ⟨rfl, rfl, rfl, Nat.le_of_ble_eq_true rfl, by first | rfl | omega | exact Nat.le_of_ble_eq_true rfl | (dsimp only; omega) | (simp; done) | (simp; omega), by first | rfl | omega | exact Nat.le_of_ble_eq_true rfl | (dsimp only; omega) | (simp; done) | (simp; omega), by omega, Nat.le_of_ble_eq_true rfl⟩ | exact Eq.refl true) ?_) | (with_reducible refine ld (slL hlt) ?_) | (refine Exists.intro _ (And.intro rfl ?_)) | (refine And.intro (And.intro rfl (chk_rowI _ _ _ _)) ?_) | (refine br_t (by omega) ?_) | (refine br_f (by omega) ?_) | (refine bs_t (by omega) ?_) | (refine bs_f (by omega) ?_) | (refine fun (K' : K3) hK' => ?_) | (refine hK' _ _ _ ?_; clear hK' K') | (refine draw_auto tok mixed (by kernel_rfl) ?_) | (refine bs_bt (Eq.refl true) ?_) | (refine bs_bf (Eq.refl false) ?_) | (refine br_bt (Eq.refl true) ?_) | (refine br_bf (Eq.refl false) ?_) | (refine CallK.m ?_) | (refine Two.l ?_) | (refine And.intro (And.intro rfl rfl) ?_))
      refine ⟨k + 1, [], by omega, by omega, ?_⟩
      refine ⟨?_, ?_, rfl, rfl, by first | exact Nat.le_of_ble_eq_true rfl | exact Nat.le_refl _ | omega⟩
      · repeat (first | exact trivial | refine And.intro (covS_syn (by first | rfl | (refine congrArg some (congrArg V.i ?_); omega)) rfl (by first | exact trivial | exact Nat.le_of_ble_eq_true rfl | exact hy | exact (fun p hp => nomatch hp) | (show (_ : Nat) < _; omega))) ?_ | refine And.intro (covS_bool rfl rfl (by first | rfl)) ?_)
      · repeat (first | exact trivial | refine And.intro (covE_id (Nat.le_of_ble_eq_true rfl) (by first | exact wf_ints _ _ | exact wf_bools _ _ | first | exact wf_sls _ _ _ (by omega) | exact wf_jobs _ _ | simp [C.wf]) rfl (by first | rfl)) ?_)
    · have hk2 : k = j.length := by omega
      subst hk2
      repeat ((conv => whnf); first | (refine And.intro (by first | omega | exact Nat.le_of_ble_eq_true rfl | (dsimp only [inK]; omega) | (simp only [mulS_eq]; omega) | (simp only [mulS_eq, setL_length]; omega) | (simp only [setL_length, List.length_map]; omega) | exact ⟨by omega, by omega, by first | exact Nat.le_of_ble_eq_true rfl | (dsimp only; omega) | (simp only [setL_length]; omega) | (simp only [setL_length, List.length_map]; omega)⟩ | exact ⟨by omega, by first | rfl | omega, by omega, Nat.le_of_ble_eq_true rfl, Nat.le_of_ble_eq_true rfl⟩ | exact ⟨rfl, rfl, rfl, Nat.le_of_ble_eq_true rfl, by first | rfl | omega | exact Nat.le_of_ble_eq_true rfl | (dsimp only; omega) | (simp; done) | (simp; omega), by first | rfl | omega | exact Nat.le_of_ble_eq_true rfl | (dsimp only; omega) | (simp; done) | (simp; omega), by omega, Nat.le_of_ble_eq_true rfl⟩ | exact Eq.refl true) ?_) | (refine Exists.intro _ (And.intro rfl ?_)) | (refine And.intro (And.intro rfl (chk_rowI _ _ _ _)) ?_) | (refine br_t (by omega) ?_) | (refine br_f (by omega) ?_) | (refine bs_t (by omega) ?_) | (refine bs_f (by omega) ?_) | (refine fun (K' : K3) hK' => ?_) | (refine hK' _ _ _ ?_; clear hK' K') | (refine draw_auto tok mixed (by kernel_rfl) ?_) | (refine bs_bt (Eq.refl true) ?_) | (refine bs_bf (Eq.refl false) ?_) | (refine br_bt (Eq.refl true) ?_) | (refine br_bf (Eq.refl false) ?_) | (refine CallK.m ?_) | (refine Two.l ?_) | (refine And.intro (And.intro rfl rfl) ?_))
      intro ρ; rfl
theorem visits_spec (lc n lo m nx : Nat) (L : List E) : SpecM Try.prog 67 [V.c (.sl lc n), V.c (.sl lo m)] L nx (fun v L' nx' => v = V.c (.fn 81 [(nx, 0), (nx + 1, 0)]) ∧ L' = ⟨nx + 1, .own 35, [.sl lo m]⟩ :: ⟨nx, .own 57, [.sl lc n]⟩ :: L ∧ nx' = nx + 1 + 1) := by
  refine SpecM.of tok Try.func67 rfl rfl rfl fun n0 cx => vc_ok tok ?_
  repeat ((conv => whnf); first | (refine And.intro (by first | omega | exact Nat.le_of_ble_eq_true rfl | (dsimp only [inK]; omega) | (simp only [mulS_eq]; omega) | (simp only [mulS_eq, setL_length]; omega) | (simp only [setL_length, List.length_map]; omega) | exact ⟨by omega, by omega, by first | exact Nat.le_of_ble_eq_true rfl | (dsimp only; omega) | (simp only [setL_length]; omega) | (simp only [setL_length, List.length_map]; omega)⟩ | exact ⟨by omega, by first | rfl | omega, by omega, Nat.le_of_ble_eq_true rfl, Nat.le_of_ble_eq_true rfl⟩ | exact ⟨rfl, rfl, rfl, Nat.le_of_ble_eq_true rfl, by first | rfl | omega | exact Nat.le_of_ble_eq_true rfl | (dsimp only; omega) | (simp; done) | (simp; omega), by first | rfl | omega | exact Nat.le_of_ble_eq_true rfl | (dsimp only; omega) | (simp; done) | (simp; omega), by omega, Nat.le_of_ble_eq_true rfl⟩ | exact Eq.refl true) ?_) | (refine Exists.intro _ (And.intro rfl ?_)) | (refine And.intro (And.intro rfl (chk_rowI _ _ _ _)) ?_) | (refine br_t (by omega) ?_) | (refine br_f (by omega) ?_) | (refine bs_t (by omega) ?_) | (refine bs_f (by omega) ?_) | (refine fun (K' : K3) hK' => ?_) | (refine hK' _ _ _ ?_; clear hK' K') | (refine draw_auto tok mixed (by kernel_rfl) ?_) | (refine bs_bt (Eq.refl true) ?_) | (refine bs_bf (Eq.refl false) ?_) | (refine br_bt (Eq.refl true) ?_) | (refine br_bf (Eq.refl false) ?_) | (refine CallK.m ?_) | (refine Two.l ?_) | (refine And.intro (And.intro rfl rfl) ?_))
  exact ⟨rfl, rfl, rfl⟩
end Go.Proofs.Ytjijjncddjkdlaa

/- Shore: the harm of an order. -/
namespace Go.Proofs.Ytjijjncddjkdlaa
open Go.RowKit
set_option linter.unusedVariables false
set_option linter.unusedSimpArgs false
theorem entC_mem : ∀ {b : Nat} {j : Coast} {e : E}, e ∈ entC b j → ∃ k, k < j.length ∧ e = ⟨b + k, .ro 2, jobC (j.getD k [])⟩
  | b, x :: r, e, h => by
    rcases List.mem_cons.1 h with rfl | h
    · exact ⟨0, by simp, rfl⟩
    · obtain ⟨k, h1, rfl⟩ := entC_mem h
      exact ⟨k + 1, by simpa using h1, by rw [List.getD_cons_succ, show b + 1 + k = b + (k + 1) by omega]⟩
theorem covL_all {R : Rn} {nx : Nat} {L : List E} : ∀ {q : List E}, (∀ e ∈ q, covE R nx L e) → covL R nx L q
  | [], _ => trivial
  | e :: q, h => ⟨h e (by simp), covL_all fun x hx => h x (by simp [hx])⟩
theorem covL_ent {nx : Nat} {L : List E} {b : Nat} {j : Coast} (hnx : b + j.length ≤ nx) (hL : ∀ k, k < j.length → find L (b + k) = find (entC b j) (b + k)) : covL [] nx L (entC b j) := by
  refine covL_all fun e he => ?_
  obtain ⟨k, hk, rfl⟩ := entC_mem he
  exact covE_id (by simp only; omega) (wf_jobs _ _) ((hL k hk).trans (entC_find hk)) rfl
theorem injB_entC : ∀ {b : Nat} {j : Coast}, injB [] (entC b j) = true
  | b, [] => rfl
  | b, x :: r => by
    simp only [entC, injB, Bool.and_eq_true]
    refine ⟨List.all_eq_true.2 fun e he => ?_, injB_entC⟩
    obtain ⟨k, hk, rfl⟩ := entC_mem he
    have : Nat.beq (b + 1 + k) b = false := by
      cases hb : Nat.beq (b + 1 + k) b with
      | false => rfl
      | true => have := Nat.eq_of_beq_eq_true hb; omega
    have h2 : Nat.beq b (b + 1 + k) = false := by
      cases hb : Nat.beq b (b + 1 + k) with
      | false => rfl
      | true => have := Nat.eq_of_beq_eq_true hb; omega
    simp [renL, this, h2]
theorem injB_ent {j : Coast} (hj : j.length ≤ 20) : ∀ {p : List E}, (p.all fun e => Nat.beq e.lab 0 || Nat.ble 21 e.lab) = true → injB [] p = true → injB [] (p ++ entC 1 j) = true
  | [], _, _ => injB_entC
  | x :: p, h1, h2 => by
    simp only [List.all_cons, Bool.and_eq_true] at h1
    simp only [injB, Bool.and_eq_true] at h2
    simp only [List.cons_append, injB, Bool.and_eq_true]
    refine ⟨List.all_eq_true.2 fun e he => ?_, injB_ent hj h1.2 h2.2⟩
    rcases List.mem_append.1 he with he | he
    · exact List.all_eq_true.1 h2.1 e he
    · obtain ⟨k, hk, rfl⟩ := entC_mem he
      have hx : x.lab = 0 ∨ 21 ≤ x.lab := by
        have := h1.1
        simp only [Bool.or_eq_true] at this
        exact this.imp Nat.eq_of_beq_eq_true Nat.le_of_ble_eq_true
      have e1 : Nat.beq (1 + k) x.lab = false := by
        cases hb : Nat.beq (1 + k) x.lab with
        | false => rfl
        | true => have := Nat.eq_of_beq_eq_true hb; omega
      have e2 : Nat.beq x.lab (1 + k) = false := by
        cases hb : Nat.beq x.lab (1 + k) with
        | false => rfl
        | true => have := Nat.eq_of_beq_eq_true hb; omega
      simp [renL, e1, e2]
theorem updL_ent {l o : Nat} {vs : List C} : ∀ {b : Nat} {j : Coast}, b + j.length ≤ l → updL (entC b j) l o vs = entC b j
  | b, [], _ => rfl
  | b, x :: r, h => by
    simp only [List.length_cons] at h
    have e1 : Nat.beq b l = false := by
      cases hb : Nat.beq b l with
      | false => rfl
      | true => have := Nat.eq_of_beq_eq_true hb; omega
    simp only [entC, updL, e1, cond_false]
    rw [updL_ent (by omega)]
theorem updK_ent {l o b : Nat} {vs : List C} {j : Coast} {K : List E → Prop} (h : b + j.length ≤ l) (hK : K (entC b j)) : updK l o vs (entC b j) K := by
  rw [updK_eq, updL_ent h]; exact hK
theorem rmL_ent {l : Nat} : ∀ {b : Nat} {j : Coast}, b + j.length ≤ l → rmL (entC b j) l = entC b j
  | b, [], _ => rfl
  | b, x :: r, h => by
    simp only [List.length_cons] at h
    have e1 : Nat.beq b l = false := by
      cases hb : Nat.beq b l with
      | false => rfl
      | true => have := Nat.eq_of_beq_eq_true hb; omega
    simp only [entC, rmL, e1, cond_false]
    rw [rmL_ent (by omega)]
theorem rmK_ent {l b : Nat} {j : Coast} {K : List E → Prop} (h : b + j.length ≤ l) (hK : K (entC b j)) : rmK l (entC b j) K := by
  rw [rmK_eq, rmL_ent h]; exact hK
theorem updOL_ent {l : Nat} {o : Obj} : ∀ {b : Nat} {j : Coast}, b + j.length ≤ l → updOL l o (entC b j) = entC b j
  | b, [], _ => rfl
  | b, x :: r, h => by
    simp only [List.length_cons] at h
    have e1 : Nat.beq b l = false := by
      cases hb : Nat.beq b l with
      | false => rfl
      | true => have := Nat.eq_of_beq_eq_true hb; omega
    simp only [entC, updOL, e1, cond_false]
    rw [updOL_ent (by omega)]
theorem updO_ent {l b : Nat} {o : Obj} {j : Coast} {K : List E → Prop} (h : b + j.length ≤ l) (hK : K (entC b j)) : updO l o (entC b j) K := by
  rw [updO_eq, updOL_ent h]; exact hK
/-- The i-th job of an order: its beach, its place there. -/
def beachO (o : List Int) (i : Nat) : Nat := (o.getD i 0).toNat
def cntO (o : List Int) (i b : Nat) : Nat := (o.take i).count (b : Int)
def jobO (j : Coast) (o : List Int) (i : Nat) : Job := (j.getD (beachO o i) []).getD (cntO o i (beachO o i)) (0, 0)
def hourO (j : Coast) (o : List Int) : Nat → Int
  | 0 => 0
  | i + 1 => hourO j o i + (jobO j o i).1
def harmO (j : Coast) (o : List Int) : Nat → Int
  | 0 => 0
  | i + 1 => harmO j o i + (jobO j o i).2 * hourO j o (i + 1)
def nextO (j : Coast) (o : List Int) (i : Nat) : List Int := (List.range j.length).map fun b => (cntO o i b : Int)
structure OrdOk (j : Coast) (o : List Int) : Prop where
  len : o.length ≤ 100
  beach : ∀ i, i < o.length → o.getD i 0 = (beachO o i : Int) ∧ beachO o i < j.length
  place : ∀ i, i < o.length → cntO o i (beachO o i) < (j.getD (beachO o i) []).length
structure CoastOk (j : Coast) : Prop where
  len : j.length ≤ 20
  jobs : ∀ b, b < j.length → JobsOk (j.getD b []) ∧ (j.getD b []).length ≤ 100
theorem jobO_bd {j : Coast} {o : List Int} (hj : CoastOk j) (ho : OrdOk j o) {i : Nat} (hi : i < o.length) : 1 ≤ (jobO j o i).1 ∧ (jobO j o i).1 ≤ 100 ∧ 0 ≤ (jobO j o i).2 ∧ (jobO j o i).2 ≤ 100 :=
  (hj.jobs _ (ho.beach i hi).2).1 _ (ho.place i hi)
theorem hourO_bd {j : Coast} {o : List Int} (hj : CoastOk j) (ho : OrdOk j o) : ∀ i, i ≤ o.length → 0 ≤ hourO j o i ∧ hourO j o i ≤ 100 * i
  | 0, _ => by simp [hourO]
  | i + 1, h => by
    have h1 := hourO_bd hj ho i (by omega)
    have h2 := jobO_bd hj ho (i := i) (by omega)
    simp only [hourO]; omega
theorem harmO_bd {j : Coast} {o : List Int} (hj : CoastOk j) (ho : OrdOk j o) : ∀ i, i ≤ o.length → 0 ≤ harmO j o i ∧ harmO j o i ≤ 1000000 * i
  | 0, _ => by simp [harmO]
  | i + 1, h => by
    have h1 := harmO_bd hj ho i (by omega)
    have h2 := jobO_bd hj ho (i := i) (by omega)
    have h3 := hourO_bd hj ho (i + 1) h
    have h4 := ho.len
    have h5 := mul_bd (A := 100) (B := 10000) h2.2.2.1 h2.2.2.2 h3.1 (by omega)
    simp only [harmO]; omega
theorem nextO_get {j : Coast} {o : List Int} {i b : Nat} (hb : b < j.length) : (nextO j o i).getD b 0 = cntO o i b := by
  simp [nextO, List.getD_eq_getElem?_getD, hb]
theorem nextO_len {j : Coast} {o : List Int} {i : Nat} : (nextO j o i).length = j.length := by simp [nextO]
theorem cntO_succ {o : List Int} {i b : Nat} (hi : i < o.length) : cntO o (i + 1) b = cntO o i b + if o.getD i 0 = (b : Int) then 1 else 0 := by
  have h1 : o.take (i + 1) = o.take i ++ [o.getD i 0] := by
    rw [List.take_add_one, List.getD_eq_getElem?_getD, List.getElem?_eq_getElem hi]; rfl
  unfold cntO
  rw [h1, List.count_append]
  congr 1
  by_cases h : o.getD i 0 = (b : Int)
  · rw [h]; simp
  · rw [if_neg h, List.count_singleton, if_neg (by simpa using h)]
theorem nextO_set {j : Coast} {o : List Int} {i : Nat} (ho : OrdOk j o) (hi : i < o.length) : (nextO j o i).set (beachO o i) ((cntO o i (beachO o i) : Int) + 1) = nextO j o (i + 1) := by
  obtain ⟨h1, h2⟩ := ho.beach i hi
  apply List.ext_getElem (by simp [nextO])
  intro b hb hb'
  simp only [nextO, List.length_map, List.length_range] at hb'
  have h3 := cntO_succ (o := o) (b := b) hi
  rw [List.getElem_set]
  by_cases h : beachO o i = b
  · subst h
    rw [if_pos h1] at h3
    simp [nextO, h3]
  · rw [if_neg (by rw [h1]; omega)] at h3
    simp [nextO, h, h3]
theorem nextO_zero {j : Coast} {o : List Int} : repC j.length [C.i 0] = (nextO j o 0).map C.i := by
  have h : nextO j o 0 = List.replicate j.length 0 := by
    apply List.ext_getElem (by simp [nextO])
    intro b hb hb'
    simp [nextO, cntO]
  rw [h, List.map_replicate]
  generalize j.length = n
  induction n with
  | zero => rfl
  | succ n ih => rw [List.replicate_succ, ← ih]; rfl
theorem nextL {j : Coast} {o : List Int} {i b : Nat} {z : Int} (hz : z = b) (hb : b < j.length) : ((nextO j o i).map C.i)[mulS z.toNat 1]? = some (C.i (cntO o i b)) := by
  rw [intLz hz (by rw [nextO_len]; exact hb), nextO_get hb]
theorem jobT {l : List Job} {k : Nat} {z : Int} (hz : z = k) (h : k < l.length) : takeC (jobC l) (mulS z.toNat 2) 2 = some [C.i (l.getD k (0, 0)).1, C.i (l.getD k (0, 0)).2] := by
  subst hz
  rw [mulS_eq]
  have h0 := jobC_0 h
  have h1 := jobC_1 h
  simp only [takeC, Int.toNat_natCast]
  rw [h0, h1]
theorem onV_ld {α : Type} {o : Option α} {c : α} {K : α → Prop} (h : o = some c) (hK : K c) : onV o K := by rw [h]; exact hK
theorem nextS {j : Coast} {o : List Int} {i : Nat} {z v : Int} (ho : OrdOk j o) (hi : i < o.length) (hz : z = beachO o i) (hv : v = cntO o i (beachO o i) + 1) : setL ((nextO j o i).map C.i) (mulS z.toNat 1) [C.i v] = (nextO j o (i + 1)).map C.i := by
  subst hz hv
  rw [mulS_eq, ← nextO_set ho hi]
  simp only [setL, Int.toNat_natCast, Nat.mul_one, List.map_set]
end Go.Proofs.Ytjijjncddjkdlaa

/- Shore: which jobs are valid. -/
namespace Go.Proofs.Ytjijjncddjkdlaa
open Go.RowKit
set_option linter.unusedVariables false
set_option linter.unusedSimpArgs false
def jobBad (x : Job) : Bool := !decide (1 ≤ x.1 ∧ x.1 ≤ 100) || !decide (0 ≤ x.2 ∧ x.2 ≤ 100)
theorem bad_spec (x : Job) : Spec Try.prog 62 [V.agg [C.i x.1, C.i x.2]] [] 0 (Is (V.c (.bool (jobBad x)))) := by
  refine Spec.of tok Try.func62 rfl rfl rfl fun n0 cx => vc_ok tok ?_
  by_cases h1 : 1 ≤ x.1 ∧ x.1 ≤ 100
  · repeat ((conv => whnf); first | (refine And.intro (by first | omega | exact Nat.le_of_ble_eq_true rfl | (dsimp only [inK]; omega) | (simp only [mulS_eq]; omega) | (simp only [mulS_eq, setL_length]; omega) | (simp only [setL_length, List.length_map]; omega) | exact ⟨by omega, by omega, by first | exact Nat.le_of_ble_eq_true rfl | (dsimp only; omega) | (simp only [setL_length]; omega) | (simp only [setL_length, List.length_map]; omega)⟩ | exact ⟨by omega, by first | rfl | omega, by omega, Nat.le_of_ble_eq_true rfl, Nat.le_of_ble_eq_true rfl⟩ | exact ⟨rfl, rfl, rfl, Nat.le_of_ble_eq_true rfl, by first | rfl | omega | exact Nat.le_of_ble_eq_true rfl | (dsimp only; omega) | (simp; done) | (simp; omega), by first | rfl | omega | exact Nat.le_of_ble_eq_true rfl | (dsimp only; omega) | (simp; done) | (simp; omega), by omega, Nat.le_of_ble_eq_true rfl⟩ | exact Eq.refl true) ?_) | (refine Exists.intro _ (And.intro rfl ?_)) | (refine And.intro (And.intro rfl (chk_rowI _ _ _ _)) ?_) | (refine br_t (by omega) ?_) | (refine br_f (by omega) ?_) | (refine bs_t (by omega) ?_) | (refine bs_f (by omega) ?_) | (refine fun (K' : K3) hK' => ?_) | (refine hK' _ _ _ ?_; clear hK' K') | (refine draw_auto tok mixed (by kernel_rfl) ?_) | (refine CallK.val (R := []) (between_spec _ _ _) (by kernel_rfl) rfl (by simp [V.wf, A.wf, C.wf, V.i]) trivial rfl rfl trivial ?_) | (refine bs_bf (by simp [h1]) ?_) | (refine bs_bt (Eq.refl true) ?_) | (refine bs_bf (Eq.refl false) ?_) | (refine br_bt (Eq.refl true) ?_) | (refine br_bf (Eq.refl false) ?_) | (refine CallK.m ?_) | (refine Two.l ?_) | (refine And.intro (And.intro rfl rfl) ?_))
    intro ρ; show Value.bool _ = Value.bool _; simp [jobBad, h1]
  · repeat ((conv => whnf); first | (refine And.intro (by first | omega | exact Nat.le_of_ble_eq_true rfl | (dsimp only [inK]; omega) | (simp only [mulS_eq]; omega) | (simp only [mulS_eq, setL_length]; omega) | (simp only [setL_length, List.length_map]; omega) | exact ⟨by omega, by omega, by first | exact Nat.le_of_ble_eq_true rfl | (dsimp only; omega) | (simp only [setL_length]; omega) | (simp only [setL_length, List.length_map]; omega)⟩ | exact ⟨by omega, by first | rfl | omega, by omega, Nat.le_of_ble_eq_true rfl, Nat.le_of_ble_eq_true rfl⟩ | exact ⟨rfl, rfl, rfl, Nat.le_of_ble_eq_true rfl, by first | rfl | omega | exact Nat.le_of_ble_eq_true rfl | (dsimp only; omega) | (simp; done) | (simp; omega), by first | rfl | omega | exact Nat.le_of_ble_eq_true rfl | (dsimp only; omega) | (simp; done) | (simp; omega), by omega, Nat.le_of_ble_eq_true rfl⟩ | exact Eq.refl true) ?_) | (refine Exists.intro _ (And.intro rfl ?_)) | (refine And.intro (And.intro rfl (chk_rowI _ _ _ _)) ?_) | (refine br_t (by omega) ?_) | (refine br_f (by omega) ?_) | (refine bs_t (by omega) ?_) | (refine bs_f (by omega) ?_) | (refine fun (K' : K3) hK' => ?_) | (refine hK' _ _ _ ?_; clear hK' K') | (refine draw_auto tok mixed (by kernel_rfl) ?_) | (refine CallK.val (R := []) (between_spec _ _ _) (by kernel_rfl) rfl (by simp [V.wf, A.wf, C.wf, V.i]) trivial rfl rfl trivial ?_) | (refine bs_bt (by simp [h1]) ?_) | (refine bs_bt (Eq.refl true) ?_) | (refine bs_bf (Eq.refl false) ?_) | (refine br_bt (Eq.refl true) ?_) | (refine br_bf (Eq.refl false) ?_) | (refine CallK.m ?_) | (refine Two.l ?_) | (refine And.intro (And.intro rfl rfl) ?_))
    intro ρ; show Value.bool _ = Value.bool _; simp [jobBad, h1]
theorem index_spec (l : List Job) (hl : l.length ≤ 100) : Spec Try.prog 80 [V.c (.sl 0 l.length), V.c (.fn 62 [])] [⟨0, .ro 2, jobC l⟩] 1 (Is (V.i (match l.findIdx? jobBad with | some k => (k : Int) | none => -1))) := by
  have hjl := jobC_len l
  refine Spec.of tok Try.func80 rfl rfl rfl fun n0 cx => vc_ok tok ?_
  repeat ((conv => whnf); first | (refine And.intro (by first | omega | exact Nat.le_of_ble_eq_true rfl | (dsimp only [inK]; omega) | (simp only [mulS_eq]; omega) | (simp only [mulS_eq, setL_length]; omega) | (simp only [setL_length, List.length_map]; omega) | exact ⟨by omega, by omega, by first | exact Nat.le_of_ble_eq_true rfl | (dsimp only; omega) | (simp only [setL_length]; omega) | (simp only [setL_length, List.length_map]; omega)⟩ | exact ⟨by omega, by first | rfl | omega, by omega, Nat.le_of_ble_eq_true rfl, Nat.le_of_ble_eq_true rfl⟩ | exact ⟨rfl, rfl, rfl, Nat.le_of_ble_eq_true rfl, by first | rfl | omega | exact Nat.le_of_ble_eq_true rfl | (dsimp only; omega) | (simp; done) | (simp; omega), by first | rfl | omega | exact Nat.le_of_ble_eq_true rfl | (dsimp only; omega) | (simp; done) | (simp; omega), by omega, Nat.le_of_ble_eq_true rfl⟩ | exact Eq.refl true) ?_) | (refine Exists.intro _ (And.intro rfl ?_)) | (refine And.intro (And.intro rfl (chk_rowI _ _ _ _)) ?_) | (refine br_t (by omega) ?_) | (refine br_f (by omega) ?_) | (refine bs_t (by omega) ?_) | (refine bs_f (by omega) ?_) | (refine fun (K' : K3) hK' => ?_) | (refine hK' _ _ _ ?_; clear hK' K') | (refine draw_auto tok mixed (by kernel_rfl) ?_) | (refine bs_bt (Eq.refl true) ?_) | (refine bs_bf (Eq.refl false) ?_) | (refine br_bt (Eq.refl true) ?_) | (refine br_bf (Eq.refl false) ?_) | (refine CallK.m ?_) | (refine Two.l ?_) | (refine And.intro (And.intro rfl rfl) ?_))
  refine Tri.loop (γ := Nat) (fun k => k ≤ l.length ∧ ∀ i, i < k → jobBad (l.getD i (0, 0)) = false) (fun k => [(0, V.c (.sl 0 l.length)), (1, V.c (.fn 62 [])), (7, V.i l.length), (8, V.i (k : Nat))]) (fun k => [⟨0, .ro 2, jobC l⟩]) 1 (fun k => l.length - k) 0 (R0 := []) ?_ ?_ ?_
  · exact ⟨by omega, by omega⟩
  · skip
    refine ⟨?_, ?_, rfl, rfl, by first | exact Nat.le_of_ble_eq_true rfl | exact Nat.le_refl _ | omega⟩
    · repeat (first | exact trivial | refine And.intro (covS_syn (by first | rfl) rfl (by first | exact trivial | exact Nat.le_of_ble_eq_true rfl | exact hy | exact (fun p hp => nomatch hp) | (show (_ : Nat) < _; omega))) ?_ | refine And.intro (covS_bool rfl rfl (by first | rfl)) ?_)
    · repeat (first | exact trivial | refine And.intro (covE_id (Nat.le_of_ble_eq_true rfl) (by first | exact wf_ints _ _ | exact wf_bools _ _ | first | exact wf_sls _ _ _ (by omega) | exact wf_jobs _ _ | simp [C.wf]) rfl (by first | rfl)) ?_)
  · rintro k ⟨hk, hb⟩
    refine vc_ok tok ?_
    by_cases hlt : k < l.length
    · cases hbad : jobBad (l.getD k (0, 0)) with
      | true =>
        repeat ((conv => whnf); first | (refine And.intro (by first | omega | exact Nat.le_of_ble_eq_true rfl | (dsimp only [inK]; omega) | (simp only [mulS_eq]; omega) | (simp only [mulS_eq, setL_length]; omega) | (simp only [setL_length, List.length_map]; omega) | exact ⟨by omega, by omega, by first | exact Nat.le_of_ble_eq_true rfl | (dsimp only; omega) | (simp only [setL_length]; omega) | (simp only [setL_length, List.length_map]; omega)⟩ | exact ⟨by omega, by first | rfl | omega, by omega, Nat.le_of_ble_eq_true rfl, Nat.le_of_ble_eq_true rfl⟩ | exact ⟨rfl, rfl, rfl, Nat.le_of_ble_eq_true rfl, by first | rfl | omega | exact Nat.le_of_ble_eq_true rfl | (dsimp only; omega) | (simp; done) | (simp; omega), by first | rfl | omega | exact Nat.le_of_ble_eq_true rfl | (dsimp only; omega) | (simp; done) | (simp; omega), by omega, Nat.le_of_ble_eq_true rfl⟩ | exact Eq.refl true) ?_) | (with_reducible refine ld (jobT rfl hlt) ?_) | (refine Exists.intro _ (And.intro rfl ?_)) | (refine And.intro (And.intro rfl (chk_rowI _ _ _ _)) ?_) | (refine br_t (by omega) ?_) | (refine br_f (by omega) ?_) | (refine bs_t (by omega) ?_) | (refine bs_f (by omega) ?_) | (refine fun (K' : K3) hK' => ?_) | (refine hK' _ _ _ ?_; clear hK' K') | (refine draw_auto tok mixed (by kernel_rfl) ?_) | (refine CallK.val (R := []) (bad_spec _) (by kernel_rfl) rfl (by simp [V.wf, A.wf, C.wf]) trivial rfl rfl trivial ?_) | (refine br_bt hbad ?_) | (refine bs_bt (Eq.refl true) ?_) | (refine bs_bf (Eq.refl false) ?_) | (refine br_bt (Eq.refl true) ?_) | (refine br_bf (Eq.refl false) ?_) | (refine CallK.m ?_) | (refine Two.l ?_) | (refine And.intro (And.intro rfl rfl) ?_))
        intro ρ
        have : l.findIdx? jobBad = some k := by
          rw [List.findIdx?_eq_some_iff_getElem]
          refine ⟨hlt, by simpa [List.getD_eq_getElem?_getD, hlt] using hbad, fun i hi => ?_⟩
          have := hb i hi
          simpa [List.getD_eq_getElem?_getD, show i < l.length by omega] using this
        rw [this]; rfl
      | false =>
        repeat ((conv => whnf); first | (refine And.intro (by first | omega | exact Nat.le_of_ble_eq_true rfl | (dsimp only [inK]; omega) | (simp only [mulS_eq]; omega) | (simp only [mulS_eq, setL_length]; omega) | (simp only [setL_length, List.length_map]; omega) | exact ⟨by omega, by omega, by first | exact Nat.le_of_ble_eq_true rfl | (dsimp only; omega) | (simp only [setL_length]; omega) | (simp only [setL_length, List.length_map]; omega)⟩ | exact ⟨by omega, by first | rfl | omega, by omega, Nat.le_of_ble_eq_true rfl, Nat.le_of_ble_eq_true rfl⟩ | exact ⟨rfl, rfl, rfl, Nat.le_of_ble_eq_true rfl, by first | rfl | omega | exact Nat.le_of_ble_eq_true rfl | (dsimp only; omega) | (simp; done) | (simp; omega), by first | rfl | omega | exact Nat.le_of_ble_eq_true rfl | (dsimp only; omega) | (simp; done) | (simp; omega), by omega, Nat.le_of_ble_eq_true rfl⟩ | exact Eq.refl true) ?_) | (with_reducible refine ld (jobT rfl hlt) ?_) | (refine Exists.intro _ (And.intro rfl ?_)) | (refine And.intro (And.intro rfl (chk_rowI _ _ _ _)) ?_) | (refine br_t (by omega) ?_) | (refine br_f (by omega) ?_) | (refine bs_t (by omega) ?_) | (refine bs_f (by omega) ?_) | (refine fun (K' : K3) hK' => ?_) | (refine hK' _ _ _ ?_; clear hK' K') | (refine draw_auto tok mixed (by kernel_rfl) ?_) | (refine CallK.val (R := []) (bad_spec _) (by kernel_rfl) rfl (by simp [V.wf, A.wf, C.wf]) trivial rfl rfl trivial ?_) | (refine br_bf hbad ?_) | (refine bs_bt (Eq.refl true) ?_) | (refine bs_bf (Eq.refl false) ?_) | (refine br_bt (Eq.refl true) ?_) | (refine br_bf (Eq.refl false) ?_) | (refine CallK.m ?_) | (refine Two.l ?_) | (refine And.intro (And.intro rfl rfl) ?_))
        refine ⟨k + 1, [], ⟨by omega, fun i hi => ?_⟩, by omega, ?_⟩
        · by_cases h : i = k
          · rw [h]; exact hbad
          · exact hb i (by omega)
        refine ⟨?_, ?_, rfl, rfl, by first | exact Nat.le_of_ble_eq_true rfl | exact Nat.le_refl _ | omega⟩
        · repeat (first | exact trivial | refine And.intro (covS_syn (by first | rfl | (refine congrArg some (congrArg V.i ?_); omega)) rfl (by first | exact trivial | exact Nat.le_of_ble_eq_true rfl | exact hy | exact (fun p hp => nomatch hp) | (show (_ : Nat) < _; omega))) ?_ | refine And.intro (covS_bool rfl rfl (by first | rfl)) ?_)
        · repeat (first | exact trivial | refine And.intro (covE_id (Nat.le_of_ble_eq_true rfl) (by first | exact wf_ints _ _ | exact wf_bools _ _ | first | exact wf_sls _ _ _ (by omega) | exact wf_jobs _ _ | simp [C.wf]) rfl (by first | rfl)) ?_)
    · repeat ((conv => whnf); first | (refine And.intro (by first | omega | exact Nat.le_of_ble_eq_true rfl | (dsimp only [inK]; omega) | (simp only [mulS_eq]; omega) | (simp only [mulS_eq, setL_length]; omega) | (simp only [setL_length, List.length_map]; omega) | exact ⟨by omega, by omega, by first | exact Nat.le_of_ble_eq_true rfl | (dsimp only; omega) | (simp only [setL_length]; omega) | (simp only [setL_length, List.length_map]; omega)⟩ | exact ⟨by omega, by first | rfl | omega, by omega, Nat.le_of_ble_eq_true rfl, Nat.le_of_ble_eq_true rfl⟩ | exact ⟨rfl, rfl, rfl, Nat.le_of_ble_eq_true rfl, by first | rfl | omega | exact Nat.le_of_ble_eq_true rfl | (dsimp only; omega) | (simp; done) | (simp; omega), by first | rfl | omega | exact Nat.le_of_ble_eq_true rfl | (dsimp only; omega) | (simp; done) | (simp; omega), by omega, Nat.le_of_ble_eq_true rfl⟩ | exact Eq.refl true) ?_) | (refine Exists.intro _ (And.intro rfl ?_)) | (refine And.intro (And.intro rfl (chk_rowI _ _ _ _)) ?_) | (refine br_t (by omega) ?_) | (refine br_f (by omega) ?_) | (refine bs_t (by omega) ?_) | (refine bs_f (by omega) ?_) | (refine fun (K' : K3) hK' => ?_) | (refine hK' _ _ _ ?_; clear hK' K') | (refine draw_auto tok mixed (by kernel_rfl) ?_) | (refine bs_bt (Eq.refl true) ?_) | (refine bs_bf (Eq.refl false) ?_) | (refine br_bt (Eq.refl true) ?_) | (refine br_bf (Eq.refl false) ?_) | (refine CallK.m ?_) | (refine Two.l ?_) | (refine And.intro (And.intro rfl rfl) ?_))
      intro ρ
      have : l.findIdx? jobBad = none := by
        rw [List.findIdx?_eq_none_iff]
        intro x hx
        obtain ⟨i, hi, rfl⟩ := List.mem_iff_getElem.1 hx
        have := hb i (by omega)
        simpa [List.getD_eq_getElem?_getD, hi] using this
      rw [this]; rfl
theorem contains_spec (l : List Job) (hl : l.length ≤ 100) : Spec Try.prog 61 [V.c (.sl 0 l.length), V.c (.fn 62 [])] [⟨0, .ro 2, jobC l⟩] 1 (Is (V.c (.bool (l.any jobBad)))) := by
  refine Spec.of tok Try.func61 rfl rfl rfl fun n0 cx => vc_ok tok ?_
  repeat ((conv => whnf); first | (refine And.intro (by first | omega | exact Nat.le_of_ble_eq_true rfl | (dsimp only [inK]; omega) | (simp only [mulS_eq]; omega) | (simp only [mulS_eq, setL_length]; omega) | (simp only [setL_length, List.length_map]; omega) | exact ⟨by omega, by omega, by first | exact Nat.le_of_ble_eq_true rfl | (dsimp only; omega) | (simp only [setL_length]; omega) | (simp only [setL_length, List.length_map]; omega)⟩ | exact ⟨by omega, by first | rfl | omega, by omega, Nat.le_of_ble_eq_true rfl, Nat.le_of_ble_eq_true rfl⟩ | exact ⟨rfl, rfl, rfl, Nat.le_of_ble_eq_true rfl, by first | rfl | omega | exact Nat.le_of_ble_eq_true rfl | (dsimp only; omega) | (simp; done) | (simp; omega), by first | rfl | omega | exact Nat.le_of_ble_eq_true rfl | (dsimp only; omega) | (simp; done) | (simp; omega), by omega, Nat.le_of_ble_eq_true rfl⟩ | exact Eq.refl true) ?_) | (refine Exists.intro _ (And.intro rfl ?_)) | (refine And.intro (And.intro rfl (chk_rowI _ _ _ _)) ?_) | (refine br_t (by omega) ?_) | (refine br_f (by omega) ?_) | (refine bs_t (by omega) ?_) | (refine bs_f (by omega) ?_) | (refine fun (K' : K3) hK' => ?_) | (refine hK' _ _ _ ?_; clear hK' K') | (refine draw_auto tok mixed (by kernel_rfl) ?_) | (refine CallK.val (R := []) (index_spec _ hl) (by kernel_rfl) rfl (by simp [V.wf, A.wf, C.wf]) ⟨roE_id (by omega) (wf_jobs _ _) rfl (.inr rfl) rfl, trivial⟩ rfl rfl trivial ?_) | (refine bs_bt (Eq.refl true) ?_) | (refine bs_bf (Eq.refl false) ?_) | (refine br_bt (Eq.refl true) ?_) | (refine br_bf (Eq.refl false) ?_) | (refine CallK.m ?_) | (refine Two.l ?_) | (refine And.intro (And.intro rfl rfl) ?_))
  intro ρ
  show Value.bool _ = Value.bool _
  congr 1
  cases h : l.findIdx? jobBad with
  | none =>
    have : l.any jobBad = false := by simpa [List.any_eq_false] using List.findIdx?_eq_none_iff.1 h
    simp [this]
  | some k =>
    have : l.any jobBad = true := by
      obtain ⟨h1, h2, _⟩ := List.findIdx?_eq_some_iff_getElem.1 h
      exact List.any_eq_true.2 ⟨_, List.getElem_mem h1, h2⟩
    simp [this]
end Go.Proofs.Ytjijjncddjkdlaa

/- Shore: Valid. -/
namespace Go.Proofs.Ytjijjncddjkdlaa
open Go.RowKit
set_option linter.unusedVariables false
set_option linter.unusedSimpArgs false
theorem ren_jobs (R : Rn) (l : List Job) : seqO ((jobC l).map (C.ren R)) = some (jobC l) := seqO_fix fun c hc => by
  simp only [jobC, List.mem_flatMap] at hc
  obtain ⟨j, _, hc⟩ := hc
  simp at hc
  rcases hc with rfl | rfl <;> rfl
/-- A beach of a coast, as a callee reads it. -/
theorem roE_beach {nx z l : Nat} {L : List E} {b : List Job} (h1 : 0 < nx) (h3 : find L l = some ⟨l, .ro 2, jobC b⟩) (hz : z = 0 ∨ z = 2) : roL [(0, some l)] nx L [⟨0, .ro z, jobC b⟩] :=
  ⟨⟨h1, wf_jobs _ _, .ro 2, jobC b, h3, hz.imp id (fun h => by rw [h]; rfl), ren_jobs _ _⟩, trivial⟩
def validL (j : Coast) : Bool := (j.all fun b => !(b.any jobBad)) && decide (1 ≤ (j.length : Int) ∧ (j.length : Int) ≤ 6) && decide ((manyN j j.length : Int) ≤ 12)
theorem manyN_bd {j : Coast} (hl : ∀ k, k < j.length → (j.getD k []).length ≤ 100) : ∀ k, k ≤ j.length → manyN j k ≤ 100 * k := by
  intro k hk
  induction k with
  | zero => simp [manyN]
  | succ k ih => rw [manyN_succ (by omega)]; have := hl k (by omega); have := ih (by omega); omega
theorem valid_spec (j : Coast) (hj : j.length ≤ 20) (hl : ∀ k, k < j.length → (j.getD k []).length ≤ 100) : Spec Try.prog 23 [V.c (.sl 0 j.length)] (⟨0, .ro 1, slsC 1 j⟩ :: entC 1 j) 32 (Is (V.c (.bool (validL j)))) := by
  have hlen := slsC_len (b := 1) (j := j)
  refine Spec.of tok Try.func23 rfl rfl rfl fun n0 cx => vc_ok tok ?_
  repeat ((conv => whnf); first | (refine And.intro (by first | omega | exact Nat.le_of_ble_eq_true rfl | (dsimp only [inK]; omega) | (simp only [mulS_eq]; omega) | (simp only [mulS_eq, setL_length]; omega) | (simp only [setL_length, List.length_map]; omega) | exact ⟨by omega, by omega, by first | exact Nat.le_of_ble_eq_true rfl | (dsimp only; omega) | (simp only [setL_length]; omega) | (simp only [setL_length, List.length_map]; omega)⟩ | exact ⟨by omega, by first | rfl | omega, by omega, Nat.le_of_ble_eq_true rfl, Nat.le_of_ble_eq_true rfl⟩ | exact ⟨rfl, rfl, rfl, Nat.le_of_ble_eq_true rfl, by first | rfl | omega | exact Nat.le_of_ble_eq_true rfl | (dsimp only; omega) | (simp; done) | (simp; omega), by first | rfl | omega | exact Nat.le_of_ble_eq_true rfl | (dsimp only; omega) | (simp; done) | (simp; omega), by omega, Nat.le_of_ble_eq_true rfl⟩ | exact Eq.refl true) ?_) | (refine Exists.intro _ (And.intro rfl ?_)) | (refine And.intro (And.intro rfl (chk_rowI _ _ _ _)) ?_) | (refine br_t (by omega) ?_) | (refine br_f (by omega) ?_) | (refine bs_t (by omega) ?_) | (refine bs_f (by omega) ?_) | (refine fun (K' : K3) hK' => ?_) | (refine hK' _ _ _ ?_; clear hK' K') | (refine draw_auto tok mixed (by kernel_rfl) ?_) | (refine bs_bt (Eq.refl true) ?_) | (refine bs_bf (Eq.refl false) ?_) | (refine br_bt (Eq.refl true) ?_) | (refine br_bf (Eq.refl false) ?_) | (refine CallK.m ?_) | (refine Two.l ?_) | (refine And.intro (And.intro rfl rfl) ?_))
  refine Tri.loop (γ := Nat) (fun k => k ≤ j.length ∧ ∀ i, i < k → (j.getD i []).any jobBad = false) (fun k => [(0, V.c (.sl 0 j.length)), (6, V.c (.sl 0 j.length)), (7, V.i j.length), (8, V.i (k : Nat)), (3, V.i (manyN j k))])
    (fun k => ⟨0, .ro 1, slsC 1 j⟩ :: entC 1 j) 32 (fun k => j.length - k) 0 (R0 := []) ?_ ?_ ?_
  · exact ⟨by omega, by omega⟩
  · skip
    refine ⟨?_, ?_, injB_ent (p := [_]) (by omega) rfl rfl, rfl, by first | exact Nat.le_of_ble_eq_true rfl | exact Nat.le_refl _ | omega⟩
    · repeat (first | exact trivial | refine And.intro (covS_syn (by first | rfl) rfl (by first | exact trivial | exact Nat.le_of_ble_eq_true rfl | exact hy | exact (fun p hp => nomatch hp) | (show (_ : Nat) < _; omega))) ?_ | refine And.intro (covS_bool rfl rfl (by first | rfl)) ?_)
    · repeat (first | exact trivial | (exact covL_ent (by omega) (fun k hk => by (try simp only [flatN]); (repeat (first | rw [find_skip (by omega)] | rw [find_hi (by omega) (by rfl)])))) | refine And.intro (covE_id (Nat.le_of_ble_eq_true rfl) (by first | exact wf_ints _ _ | exact wf_bools _ _ | first | exact wf_sls _ _ _ (by omega) | exact wf_jobs _ _ | simp [C.wf]) rfl (by first | rfl)) ?_)
  · rintro k ⟨hk, hb⟩
    refine vc_ok tok ?_
    have h1 := manyN_bd hl k hk
    by_cases hlt : k < j.length
    · have h2 := hl k hlt
      have h3 := manyN_succ hlt
      cases hbad : (j.getD k []).any jobBad with
      | true =>
        repeat ((conv => whnf); first | (refine And.intro (by first | omega | exact Nat.le_of_ble_eq_true rfl | (dsimp only [inK]; omega) | (simp only [mulS_eq]; omega) | (simp only [mulS_eq, setL_length]; omega) | (simp only [setL_length, List.length_map]; omega) | exact ⟨by omega, by omega, by first | exact Nat.le_of_ble_eq_true rfl | (dsimp only; omega) | (simp only [setL_length]; omega) | (simp only [setL_length, List.length_map]; omega)⟩ | exact ⟨by omega, by first | rfl | omega, by omega, Nat.le_of_ble_eq_true rfl, Nat.le_of_ble_eq_true rfl⟩ | exact ⟨rfl, rfl, rfl, Nat.le_of_ble_eq_true rfl, by first | rfl | omega | exact Nat.le_of_ble_eq_true rfl | (dsimp only; omega) | (simp; done) | (simp; omega), by first | rfl | omega | exact Nat.le_of_ble_eq_true rfl | (dsimp only; omega) | (simp; done) | (simp; omega), by omega, Nat.le_of_ble_eq_true rfl⟩ | exact Eq.refl true) ?_) | (with_reducible refine ld (slL hlt) ?_) | (refine Exists.intro _ (And.intro rfl ?_)) | (refine And.intro (And.intro rfl (chk_rowI _ _ _ _)) ?_) | (refine br_t (by omega) ?_) | (refine br_f (by omega) ?_) | (refine bs_t (by omega) ?_) | (refine bs_f (by omega) ?_) | (refine fun (K' : K3) hK' => ?_) | (refine hK' _ _ _ ?_; clear hK' K') | (refine draw_auto tok mixed (by kernel_rfl) ?_) | (refine CallK.val (R := [(0, some (1 + k))]) (contains_spec (j.getD k []) h2) (by kernel_rfl) rfl (by simp [V.wf, A.wf, C.wf]) (roE_beach (by omega) (by ((try (conv => lhs; arg 1; whnf)); (repeat (first | rw [find_skip (by omega)] | rw [find_hi (by omega) (by rfl)])); exact entC_find hlt)) (.inr rfl)) rfl rfl trivial ?_) | (refine br_bt hbad ?_) | (refine bs_bt (Eq.refl true) ?_) | (refine bs_bf (Eq.refl false) ?_) | (refine br_bt (Eq.refl true) ?_) | (refine br_bf (Eq.refl false) ?_) | (refine CallK.m ?_) | (refine Two.l ?_) | (refine And.intro (And.intro rfl rfl) ?_))
        intro ρ; show Value.bool _ = Value.bool _
        have : (j.all fun b => !(b.any jobBad)) = false := by
          apply Bool.eq_false_iff.2
          intro h
          have := List.all_eq_true.1 h _ (List.getElem_mem hlt)
          rw [List.getD_eq_getElem?_getD, List.getElem?_eq_getElem hlt] at hbad
          simp only [Option.getD_some] at hbad
          rw [hbad] at this; cases this
        simp [validL, this]
      | false =>
        repeat ((conv => whnf); first | (refine And.intro (by first | omega | exact Nat.le_of_ble_eq_true rfl | (dsimp only [inK]; omega) | (simp only [mulS_eq]; omega) | (simp only [mulS_eq, setL_length]; omega) | (simp only [setL_length, List.length_map]; omega) | exact ⟨by omega, by omega, by first | exact Nat.le_of_ble_eq_true rfl | (dsimp only; omega) | (simp only [setL_length]; omega) | (simp only [setL_length, List.length_map]; omega)⟩ | exact ⟨by omega, by first | rfl | omega, by omega, Nat.le_of_ble_eq_true rfl, Nat.le_of_ble_eq_true rfl⟩ | exact ⟨rfl, rfl, rfl, Nat.le_of_ble_eq_true rfl, by first | rfl | omega | exact Nat.le_of_ble_eq_true rfl | (dsimp only; omega) | (simp; done) | (simp; omega), by first | rfl | omega | exact Nat.le_of_ble_eq_true rfl | (dsimp only; omega) | (simp; done) | (simp; omega), by omega, Nat.le_of_ble_eq_true rfl⟩ | exact Eq.refl true) ?_) | (with_reducible refine ld (slL hlt) ?_) | (refine Exists.intro _ (And.intro rfl ?_)) | (refine And.intro (And.intro rfl (chk_rowI _ _ _ _)) ?_) | (refine br_t (by omega) ?_) | (refine br_f (by omega) ?_) | (refine bs_t (by omega) ?_) | (refine bs_f (by omega) ?_) | (refine fun (K' : K3) hK' => ?_) | (refine hK' _ _ _ ?_; clear hK' K') | (refine draw_auto tok mixed (by kernel_rfl) ?_) | (refine CallK.val (R := [(0, some (1 + k))]) (contains_spec (j.getD k []) h2) (by kernel_rfl) rfl (by simp [V.wf, A.wf, C.wf]) (roE_beach (by omega) (by ((try (conv => lhs; arg 1; whnf)); (repeat (first | rw [find_skip (by omega)] | rw [find_hi (by omega) (by rfl)])); exact entC_find hlt)) (.inr rfl)) rfl rfl trivial ?_) | (refine br_bf hbad ?_) | (refine bs_bt (Eq.refl true) ?_) | (refine bs_bf (Eq.refl false) ?_) | (refine br_bt (Eq.refl true) ?_) | (refine br_bf (Eq.refl false) ?_) | (refine CallK.m ?_) | (refine Two.l ?_) | (refine And.intro (And.intro rfl rfl) ?_))
        refine ⟨k + 1, [], ⟨by omega, fun i hi => ?_⟩, by omega, ?_⟩
        · by_cases h : i = k
          · rw [h]; exact hbad
          · exact hb i (by omega)
        refine ⟨?_, ?_, injB_ent (p := [_]) (by omega) rfl rfl, rfl, by first | exact Nat.le_of_ble_eq_true rfl | exact Nat.le_refl _ | omega⟩
        · repeat (first | exact trivial | refine And.intro (covS_syn (by first | rfl | (refine congrArg some (congrArg V.i ?_); omega)) rfl (by first | exact trivial | exact Nat.le_of_ble_eq_true rfl | exact hy | exact (fun p hp => nomatch hp) | (show (_ : Nat) < _; omega))) ?_ | refine And.intro (covS_bool rfl rfl (by first | rfl)) ?_)
        · repeat (first | exact trivial | (exact covL_ent (by omega) (fun k hk => by (try simp only [flatN]); (repeat (first | rw [find_skip (by omega)] | rw [find_hi (by omega) (by rfl)])))) | refine And.intro (covE_id (Nat.le_of_ble_eq_true rfl) (by first | exact wf_ints _ _ | exact wf_bools _ _ | first | exact wf_sls _ _ _ (by omega) | exact wf_jobs _ _ | simp [C.wf]) rfl (by first | rfl)) ?_)
    · have hkl : k = j.length := by omega
      subst hkl
      have hall : (j.all fun b => !(b.any jobBad)) = true := by
        refine List.all_eq_true.2 fun b hbm => ?_
        obtain ⟨i, hi, rfl⟩ := List.mem_iff_getElem.1 hbm
        have := hb i hi
        rw [List.getD_eq_getElem?_getD, List.getElem?_eq_getElem hi] at this
        simp only [Option.getD_some] at this
        rw [this]; rfl
      by_cases h6 : 1 ≤ (j.length : Int) ∧ (j.length : Int) ≤ 6
      · repeat ((conv => whnf); first | (refine And.intro (by first | omega | exact Nat.le_of_ble_eq_true rfl | (dsimp only [inK]; omega) | (simp only [mulS_eq]; omega) | (simp only [mulS_eq, setL_length]; omega) | (simp only [setL_length, List.length_map]; omega) | exact ⟨by omega, by omega, by first | exact Nat.le_of_ble_eq_true rfl | (dsimp only; omega) | (simp only [setL_length]; omega) | (simp only [setL_length, List.length_map]; omega)⟩ | exact ⟨by omega, by first | rfl | omega, by omega, Nat.le_of_ble_eq_true rfl, Nat.le_of_ble_eq_true rfl⟩ | exact ⟨rfl, rfl, rfl, Nat.le_of_ble_eq_true rfl, by first | rfl | omega | exact Nat.le_of_ble_eq_true rfl | (dsimp only; omega) | (simp; done) | (simp; omega), by first | rfl | omega | exact Nat.le_of_ble_eq_true rfl | (dsimp only; omega) | (simp; done) | (simp; omega), by omega, Nat.le_of_ble_eq_true rfl⟩ | exact Eq.refl true) ?_) | (refine Exists.intro _ (And.intro rfl ?_)) | (refine And.intro (And.intro rfl (chk_rowI _ _ _ _)) ?_) | (refine br_t (by omega) ?_) | (refine br_f (by omega) ?_) | (refine bs_t (by omega) ?_) | (refine bs_f (by omega) ?_) | (refine fun (K' : K3) hK' => ?_) | (refine hK' _ _ _ ?_; clear hK' K') | (refine draw_auto tok mixed (by kernel_rfl) ?_) | (refine CallK.val (R := []) (between_spec _ _ _) (by kernel_rfl) rfl (by simp [V.wf, A.wf, C.wf, V.i]) trivial rfl rfl trivial ?_) | (refine br_t h6 ?_) | (refine bs_t h6 ?_) | (refine bs_bt (Eq.refl true) ?_) | (refine bs_bf (Eq.refl false) ?_) | (refine br_bt (Eq.refl true) ?_) | (refine br_bf (Eq.refl false) ?_) | (refine CallK.m ?_) | (refine Two.l ?_) | (refine And.intro (And.intro rfl rfl) ?_))
        intro ρ; show Value.bool _ = Value.bool _
        simp [validL, hall, h6]
      · repeat ((conv => whnf); first | (refine And.intro (by first | omega | exact Nat.le_of_ble_eq_true rfl | (dsimp only [inK]; omega) | (simp only [mulS_eq]; omega) | (simp only [mulS_eq, setL_length]; omega) | (simp only [setL_length, List.length_map]; omega) | exact ⟨by omega, by omega, by first | exact Nat.le_of_ble_eq_true rfl | (dsimp only; omega) | (simp only [setL_length]; omega) | (simp only [setL_length, List.length_map]; omega)⟩ | exact ⟨by omega, by first | rfl | omega, by omega, Nat.le_of_ble_eq_true rfl, Nat.le_of_ble_eq_true rfl⟩ | exact ⟨rfl, rfl, rfl, Nat.le_of_ble_eq_true rfl, by first | rfl | omega | exact Nat.le_of_ble_eq_true rfl | (dsimp only; omega) | (simp; done) | (simp; omega), by first | rfl | omega | exact Nat.le_of_ble_eq_true rfl | (dsimp only; omega) | (simp; done) | (simp; omega), by omega, Nat.le_of_ble_eq_true rfl⟩ | exact Eq.refl true) ?_) | (refine Exists.intro _ (And.intro rfl ?_)) | (refine And.intro (And.intro rfl (chk_rowI _ _ _ _)) ?_) | (refine br_t (by omega) ?_) | (refine br_f (by omega) ?_) | (refine bs_t (by omega) ?_) | (refine bs_f (by omega) ?_) | (refine fun (K' : K3) hK' => ?_) | (refine hK' _ _ _ ?_; clear hK' K') | (refine draw_auto tok mixed (by kernel_rfl) ?_) | (refine CallK.val (R := []) (between_spec _ _ _) (by kernel_rfl) rfl (by simp [V.wf, A.wf, C.wf, V.i]) trivial rfl rfl trivial ?_) | (refine br_f h6 ?_) | (refine bs_f h6 ?_) | (refine bs_bt (Eq.refl true) ?_) | (refine bs_bf (Eq.refl false) ?_) | (refine br_bt (Eq.refl true) ?_) | (refine br_bf (Eq.refl false) ?_) | (refine CallK.m ?_) | (refine Two.l ?_) | (refine And.intro (And.intro rfl rfl) ?_))
        intro ρ; show Value.bool _ = Value.bool _
        simp [validL, hall, h6]
end Go.Proofs.Ytjijjncddjkdlaa

/- Shore: open, above, Count. -/
namespace Go.Proofs.Ytjijjncddjkdlaa
open Go.RowKit
set_option linter.unusedVariables false
set_option linter.unusedSimpArgs false
/-- The coast lies at label 0, its beaches at 1 and on. -/
structure HasC (L : List E) (j : Coast) : Prop where
  sl : find L 0 = some ⟨0, .ro 1, slsC 1 j⟩
  be : ∀ k, k < j.length → find L (1 + k) = some ⟨1 + k, .ro 2, jobC (j.getD k [])⟩
structure Sized (j : Coast) : Prop where
  len : j.length ≤ 20
  be : ∀ k, k < j.length → (j.getD k []).length ≤ 100
theorem roL_all {R : Rn} {nx : Nat} {L : List E} : ∀ {q : List E}, (∀ e ∈ q, roE R nx L e) → roL R nx L q
  | [], _ => trivial
  | e :: q, h => ⟨h e (by simp), roL_all fun x hx => h x (by simp [hx])⟩
theorem HasC.ro {L : List E} {j : Coast} (h : HasC L j) (hj : Sized j) : roL [] 32 L (⟨0, .ro 1, slsC 1 j⟩ :: entC 1 j) := by
  have := hj.len
  refine ⟨roE_id (by omega) (wf_sls _ _ _ (by omega)) h.sl (.inr rfl) rfl, roL_all fun e he => ?_⟩
  obtain ⟨k, hk, rfl⟩ := entC_mem he
  exact roE_id (by omega) (wf_jobs _ _) (h.be k hk) (.inr rfl) rfl
theorem injC {j : Coast} (hj : Sized j) : injB [] (⟨0, .ro 1, slsC 1 j⟩ :: entC 1 j) = true := injB_ent (p := [_]) hj.len rfl rfl
theorem open_spec (j : Coast) (hj : Sized j) (nx : Nat) (L : List E) (hL : HasC L j) : SpecM Try.prog 51 [V.c (.sl 0 j.length)] L nx (fun v L' nx' => (v = if validL j then .tup [.c (.sl 0 j.length), .c (C.i 0)] else .tup [.c .nil, .c (C.i 60)]) ∧ L' = L ∧ nx' = nx) := by
  refine SpecM.of tok Try.func51 rfl rfl rfl fun n0 cx => vc_ok tok ?_
  cases hv : validL j with
  | true =>
    repeat ((conv => whnf); first | (refine And.intro (by first | omega | exact Nat.le_of_ble_eq_true rfl | (dsimp only [inK]; omega) | (simp only [mulS_eq]; omega) | (simp only [mulS_eq, setL_length]; omega) | (simp only [setL_length, List.length_map]; omega) | exact ⟨by omega, by omega, by first | exact Nat.le_of_ble_eq_true rfl | (dsimp only; omega) | (simp only [setL_length]; omega) | (simp only [setL_length, List.length_map]; omega)⟩ | exact ⟨by omega, by first | rfl | omega, by omega, Nat.le_of_ble_eq_true rfl, Nat.le_of_ble_eq_true rfl⟩ | exact ⟨rfl, rfl, rfl, Nat.le_of_ble_eq_true rfl, by first | rfl | omega | exact Nat.le_of_ble_eq_true rfl | (dsimp only; omega) | (simp; done) | (simp; omega), by first | rfl | omega | exact Nat.le_of_ble_eq_true rfl | (dsimp only; omega) | (simp; done) | (simp; omega), by omega, Nat.le_of_ble_eq_true rfl⟩ | exact Eq.refl true) ?_) | (refine Exists.intro _ (And.intro rfl ?_)) | (refine And.intro (And.intro rfl (chk_rowI _ _ _ _)) ?_) | (refine br_t (by omega) ?_) | (refine br_f (by omega) ?_) | (refine bs_t (by omega) ?_) | (refine bs_f (by omega) ?_) | (refine fun (K' : K3) hK' => ?_) | (refine hK' _ _ _ ?_; clear hK' K') | (refine draw_auto tok mixed (by kernel_rfl) ?_) | (refine CallK.val (R := []) (valid_spec j hj.len hj.be) (by kernel_rfl) rfl (by simp [V.wf, A.wf, C.wf]) (hL.ro hj) (injC hj) rfl trivial ?_) | (refine br_bf (by simp [hv]) ?_) | (refine bs_bt (Eq.refl true) ?_) | (refine bs_bf (Eq.refl false) ?_) | (refine br_bt (Eq.refl true) ?_) | (refine br_bf (Eq.refl false) ?_) | (refine CallK.m ?_) | (refine Two.l ?_) | (refine And.intro (And.intro rfl rfl) ?_))
    exact ⟨rfl, rfl, rfl⟩
  | false =>
    repeat ((conv => whnf); first | (refine And.intro (by first | omega | exact Nat.le_of_ble_eq_true rfl | (dsimp only [inK]; omega) | (simp only [mulS_eq]; omega) | (simp only [mulS_eq, setL_length]; omega) | (simp only [setL_length, List.length_map]; omega) | exact ⟨by omega, by omega, by first | exact Nat.le_of_ble_eq_true rfl | (dsimp only; omega) | (simp only [setL_length]; omega) | (simp only [setL_length, List.length_map]; omega)⟩ | exact ⟨by omega, by first | rfl | omega, by omega, Nat.le_of_ble_eq_true rfl, Nat.le_of_ble_eq_true rfl⟩ | exact ⟨rfl, rfl, rfl, Nat.le_of_ble_eq_true rfl, by first | rfl | omega | exact Nat.le_of_ble_eq_true rfl | (dsimp only; omega) | (simp; done) | (simp; omega), by first | rfl | omega | exact Nat.le_of_ble_eq_true rfl | (dsimp only; omega) | (simp; done) | (simp; omega), by omega, Nat.le_of_ble_eq_true rfl⟩ | exact Eq.refl true) ?_) | (refine Exists.intro _ (And.intro rfl ?_)) | (refine And.intro (And.intro rfl (chk_rowI _ _ _ _)) ?_) | (refine br_t (by omega) ?_) | (refine br_f (by omega) ?_) | (refine bs_t (by omega) ?_) | (refine bs_f (by omega) ?_) | (refine fun (K' : K3) hK' => ?_) | (refine hK' _ _ _ ?_; clear hK' K') | (refine draw_auto tok mixed (by kernel_rfl) ?_) | (refine CallK.val (R := []) (valid_spec j hj.len hj.be) (by kernel_rfl) rfl (by simp [V.wf, A.wf, C.wf]) (hL.ro hj) (injC hj) rfl trivial ?_) | (refine br_bt (by simp [hv]) ?_) | (refine bs_bt (Eq.refl true) ?_) | (refine bs_bf (Eq.refl false) ?_) | (refine br_bt (Eq.refl true) ?_) | (refine br_bf (Eq.refl false) ?_) | (refine CallK.m ?_) | (refine Two.l ?_) | (refine And.intro (And.intro rfl rfl) ?_))
    exact ⟨rfl, rfl, rfl⟩
/-- Whether the rate of a piece (hours, harm, last) is greater. -/
def aboveB (p o : Pc) : Bool := decide (o.1 = 0) || decide (p.2.1 * o.1 > o.2.1 * p.1)
theorem above_spec (p o : Pc) (h1 : 0 ≤ p.1 ∧ p.1 ≤ 20000) (h2 : 0 ≤ p.2.1 ∧ p.2.1 ≤ 20000) (h3 : 0 ≤ o.1 ∧ o.1 ≤ 20000) (h4 : 0 ≤ o.2.1 ∧ o.2.1 ≤ 20000) :
    Spec Try.prog 79 [V.agg [C.i p.1, C.i p.2.1, C.i p.2.2], V.agg [C.i o.1, C.i o.2.1, C.i o.2.2]] [] 0 (Is (V.c (.bool (aboveB p o)))) := by
  have hm1 := mul_bd h2.1 h2.2 h3.1 h3.2
  have hm2 := mul_bd h4.1 h4.2 h1.1 h1.2
  refine Spec.of tok Try.func79 rfl rfl rfl fun n0 cx => vc_ok tok ?_
  by_cases h0 : o.1 = 0
  · repeat ((conv => whnf); first | (refine And.intro (by first | omega | exact Nat.le_of_ble_eq_true rfl | (dsimp only [inK]; omega) | (simp only [mulS_eq]; omega) | (simp only [mulS_eq, setL_length]; omega) | (simp only [setL_length, List.length_map]; omega) | exact ⟨by omega, by omega, by first | exact Nat.le_of_ble_eq_true rfl | (dsimp only; omega) | (simp only [setL_length]; omega) | (simp only [setL_length, List.length_map]; omega)⟩ | exact ⟨by omega, by first | rfl | omega, by omega, Nat.le_of_ble_eq_true rfl, Nat.le_of_ble_eq_true rfl⟩ | exact ⟨rfl, rfl, rfl, Nat.le_of_ble_eq_true rfl, by first | rfl | omega | exact Nat.le_of_ble_eq_true rfl | (dsimp only; omega) | (simp; done) | (simp; omega), by first | rfl | omega | exact Nat.le_of_ble_eq_true rfl | (dsimp only; omega) | (simp; done) | (simp; omega), by omega, Nat.le_of_ble_eq_true rfl⟩ | exact Eq.refl true) ?_) | (refine Exists.intro _ (And.intro rfl ?_)) | (refine And.intro (And.intro rfl (chk_rowI _ _ _ _)) ?_) | (refine br_t (by omega) ?_) | (refine br_f (by omega) ?_) | (refine bs_t (by omega) ?_) | (refine bs_f (by omega) ?_) | (refine fun (K' : K3) hK' => ?_) | (refine hK' _ _ _ ?_; clear hK' K') | (refine draw_auto tok mixed (by kernel_rfl) ?_) | (refine bs_t h0 ?_) | (refine bs_bt (Eq.refl true) ?_) | (refine bs_bf (Eq.refl false) ?_) | (refine br_bt (Eq.refl true) ?_) | (refine br_bf (Eq.refl false) ?_) | (refine CallK.m ?_) | (refine Two.l ?_) | (refine And.intro (And.intro rfl rfl) ?_))
    intro ρ; show Value.bool _ = Value.bool _; simp [aboveB, h0]
  · repeat ((conv => whnf); first | (refine And.intro (by first | omega | exact Nat.le_of_ble_eq_true rfl | (dsimp only [inK]; omega) | (simp only [mulS_eq]; omega) | (simp only [mulS_eq, setL_length]; omega) | (simp only [setL_length, List.length_map]; omega) | exact ⟨by omega, by omega, by first | exact Nat.le_of_ble_eq_true rfl | (dsimp only; omega) | (simp only [setL_length]; omega) | (simp only [setL_length, List.length_map]; omega)⟩ | exact ⟨by omega, by first | rfl | omega, by omega, Nat.le_of_ble_eq_true rfl, Nat.le_of_ble_eq_true rfl⟩ | exact ⟨rfl, rfl, rfl, Nat.le_of_ble_eq_true rfl, by first | rfl | omega | exact Nat.le_of_ble_eq_true rfl | (dsimp only; omega) | (simp; done) | (simp; omega), by first | rfl | omega | exact Nat.le_of_ble_eq_true rfl | (dsimp only; omega) | (simp; done) | (simp; omega), by omega, Nat.le_of_ble_eq_true rfl⟩ | exact Eq.refl true) ?_) | (refine Exists.intro _ (And.intro rfl ?_)) | (refine And.intro (And.intro rfl (chk_rowI _ _ _ _)) ?_) | (refine br_t (by omega) ?_) | (refine br_f (by omega) ?_) | (refine bs_t (by omega) ?_) | (refine bs_f (by omega) ?_) | (refine fun (K' : K3) hK' => ?_) | (refine hK' _ _ _ ?_; clear hK' K') | (refine draw_auto tok mixed (by kernel_rfl) ?_) | (refine bs_f h0 ?_) | (refine bs_bt (Eq.refl true) ?_) | (refine bs_bf (Eq.refl false) ?_) | (refine br_bt (Eq.refl true) ?_) | (refine br_bf (Eq.refl false) ?_) | (refine CallK.m ?_) | (refine Two.l ?_) | (refine And.intro (And.intro rfl rfl) ?_))
    intro ρ; show Value.bool _ = Value.bool _; simp [aboveB, h0]
end Go.Proofs.Ytjijjncddjkdlaa

/- Shore: lead. -/
namespace Go.Proofs.Ytjijjncddjkdlaa
open Go.RowKit
set_option linter.unusedVariables false
set_option linter.unusedSimpArgs false
/-- shore's lead: (hours, harm, last) so far, and the best. -/
def runS (l : List Job) (f : Nat) : Nat → Pc × Pc
  | 0 => ((0, 0, 0), (0, 0, 0))
  | n + 1 =>
    let st := runS l f n
    let j := l.getD (f + n) (0, 0)
    let now : Pc := (st.1.1 + j.1, st.1.2.1 + j.2, (f + n : Nat))
    (now, if aboveB st.2 now then st.2 else now)
theorem runS_bd {l : List Job} {f : Nat} (hj : JobsOk l) : ∀ n, f + n ≤ l.length → 0 ≤ (runS l f n).1.1 ∧ (runS l f n).1.1 ≤ 100 * n ∧ 0 ≤ (runS l f n).1.2.1 ∧ (runS l f n).1.2.1 ≤ 100 * n ∧ 0 ≤ (runS l f n).2.1 ∧ (runS l f n).2.1 ≤ 100 * n ∧ 0 ≤ (runS l f n).2.2.1 ∧ (runS l f n).2.2.1 ≤ 100 * n
  | 0, _ => by simp [runS]
  | n + 1, h => by
    have ih := runS_bd (f := f) hj n (by omega)
    have hb := hj (f + n) (by omega)
    simp only [runS]
    refine ⟨by omega, by omega, by omega, by omega, ?_⟩
    split
    · exact ⟨by omega, by omega, by omega, by omega⟩
    · exact ⟨by simp only; omega, by simp only; omega, by simp only; omega, by simp only; omega⟩
theorem jobC_drop : ∀ {l : List Job} {f : Nat}, (jobC l).drop (f * 2) = jobC (l.drop f)
  | l, 0 => by simp
  | [], f + 1 => by simp [jobC]
  | x :: l, f + 1 => by
    have := jobC_drop (l := l) (f := f)
    simp only [jobC, List.flatMap_cons] at *
    rw [show (f + 1) * 2 = f * 2 + 1 + 1 by omega]
    simpa using this
theorem jobC_td {l : List Job} {f : Nat} : ((jobC l).drop (f * 2)).take ((l.length - f) * 2) = jobC (l.drop f) := by
  rw [jobC_drop, List.take_of_length_le]
  rw [jobC_len]; simp; omega
theorem jobTd {l : List Job} {f k : Nat} {z : Int} (hz : z = k) (h : f + k < l.length) : takeC (jobC (l.drop f)) (mulS z.toNat 2) 2 = some [C.i (l.getD (f + k) (0, 0)).1, C.i (l.getD (f + k) (0, 0)).2] := by
  rw [jobT hz (by simp; omega)]
  simp [List.getD_eq_getElem?_getD]
set_option maxRecDepth 10000 in
theorem lead_spec (l : List Job) (f : Nat) (hl : l.length ≤ 100) (hf : f ≤ l.length) (hj : JobsOk l) :
    Spec Try.prog 53 [V.c (.sl 0 l.length), V.i f] [⟨0, .ro 2, jobC l⟩] 1 (Is (V.agg [C.i (runS l f (l.length - f)).2.1, C.i (runS l f (l.length - f)).2.2.1, C.i (runS l f (l.length - f)).2.2.2])) := by
  have hjl := jobC_len l
  refine Spec.of tok Try.func53 rfl rfl rfl fun n0 cx => vc_ok tok ?_
  repeat ((conv => whnf); first | (refine And.intro (by first | omega | exact Nat.le_of_ble_eq_true rfl | (dsimp only [inK]; omega) | (simp only [mulS_eq]; omega) | (simp only [mulS_eq, setL_length]; omega) | (simp only [setL_length, List.length_map]; omega) | exact ⟨by omega, by omega, by first | exact Nat.le_of_ble_eq_true rfl | (dsimp only; omega) | (simp only [setL_length]; omega) | (simp only [setL_length, List.length_map]; omega)⟩ | exact ⟨by omega, by first | rfl | omega, by omega, Nat.le_of_ble_eq_true rfl, Nat.le_of_ble_eq_true rfl⟩ | exact ⟨rfl, rfl, rfl, Nat.le_of_ble_eq_true rfl, by first | rfl | omega | exact Nat.le_of_ble_eq_true rfl | (dsimp only; omega) | (simp; done) | (simp; omega), by first | rfl | omega | exact Nat.le_of_ble_eq_true rfl | (dsimp only; omega) | (simp; done) | (simp; omega), by omega, Nat.le_of_ble_eq_true rfl⟩ | exact Eq.refl true) ?_) | (refine Exists.intro _ (And.intro rfl ?_)) | (refine And.intro (And.intro rfl (chk_rowI _ _ _ _)) ?_) | (refine br_t (by omega) ?_) | (refine br_f (by omega) ?_) | (refine bs_t (by omega) ?_) | (refine bs_f (by omega) ?_) | (refine fun (K' : K3) hK' => ?_) | (refine hK' _ _ _ ?_; clear hK' K') | (refine draw_auto tok mixed (by kernel_rfl) ?_) | (refine bs_bt (Eq.refl true) ?_) | (refine bs_bf (Eq.refl false) ?_) | (refine br_bt (Eq.refl true) ?_) | (refine br_bf (Eq.refl false) ?_) | (refine CallK.m ?_) | (refine Two.l ?_) | (refine And.intro (And.intro rfl rfl) ?_))
  refine Tri.loop (γ := Nat) (fun n => f + n ≤ l.length) (fun n => [(0, V.c (.sl 0 l.length)), (1, V.i f), (4, V.c (.ptr 1 0)), (5, V.c (.ptr 2 0)), (6, V.c (.ptr 3 0)), (11, V.c (.sl 4 (l.length - f))), (12, V.i (l.length - f : Nat)), (13, V.i (n : Nat))])
    (fun n => [⟨4, .ro 2, jobC (l.drop f)⟩, ⟨0, .ro 2, jobC l⟩, ⟨1, .own 62, [C.i 0, C.i 0, C.i 0]⟩, ⟨2, .own 62, [C.i (runS l f n).2.1, C.i (runS l f n).2.2.1, C.i (runS l f n).2.2.2]⟩, ⟨3, .own 62, [C.i (runS l f n).1.1, C.i (runS l f n).1.2.1, C.i (runS l f n).1.2.2]⟩]) 5 (fun n => l.length - (f + n)) 0 (R0 := []) ?_ ?_ ?_
  · omega
  · skip
    refine ⟨?_, ?_, rfl, rfl, by first | exact Nat.le_of_ble_eq_true rfl | exact Nat.le_refl _ | omega⟩
    · repeat (first | exact trivial | refine And.intro (covS_syn (by first | rfl) rfl (by first | exact trivial | exact Nat.le_of_ble_eq_true rfl | exact hy | exact (fun p hp => nomatch hp) | (show (_ : Nat) < _; omega))) ?_ | refine And.intro (covS_bool rfl rfl (by first | rfl)) ?_)
    · repeat (first | exact trivial | refine And.intro (covE_id (Nat.le_of_ble_eq_true rfl) (by first | exact wf_ints _ _ | exact wf_bools _ _ | first | exact wf_sls _ _ _ (by omega) | exact wf_jobs _ _ | simp [C.wf]) rfl (by first | rfl | (exact jobC_td))) ?_)
  · intro n hn
    refine vc_ok tok ?_
    have hdl : (jobC (l.drop f)).length = 2 * (l.length - f) := by rw [jobC_len]; simp
    by_cases hlt : f + n < l.length
    · have hjb := hj (f + n) hlt
      have hrb := runS_bd (f := f) hj n hn
      cases hab : aboveB (runS l f n).2 ((runS l f n).1.1 + (l.getD (f + n) (0, 0)).1, (runS l f n).1.2.1 + (l.getD (f + n) (0, 0)).2, (f : Int) + (n : Int)) with
      | true =>
        have hR : (runS l f (n + 1)).2 = (runS l f n).2 := if_pos (by rw [← hab]; rfl)
        repeat ((conv => whnf); first | (refine And.intro (by first | omega | exact Nat.le_of_ble_eq_true rfl | (dsimp only [inK]; omega) | (simp only [mulS_eq]; omega) | (simp only [mulS_eq, setL_length]; omega) | (simp only [setL_length, List.length_map]; omega) | exact ⟨by omega, by omega, by first | exact Nat.le_of_ble_eq_true rfl | (dsimp only; omega) | (simp only [setL_length]; omega) | (simp only [setL_length, List.length_map]; omega)⟩ | exact ⟨by omega, by first | rfl | omega, by omega, Nat.le_of_ble_eq_true rfl, Nat.le_of_ble_eq_true rfl⟩ | exact ⟨rfl, rfl, rfl, Nat.le_of_ble_eq_true rfl, by first | rfl | omega | exact Nat.le_of_ble_eq_true rfl | (dsimp only; omega) | (simp; done) | (simp; omega), by first | rfl | omega | exact Nat.le_of_ble_eq_true rfl | (dsimp only; omega) | (simp; done) | (simp; omega), by omega, Nat.le_of_ble_eq_true rfl⟩ | exact Eq.refl true) ?_) | (with_reducible refine ld (jobTd rfl hlt) ?_) | (refine Exists.intro _ (And.intro rfl ?_)) | (refine And.intro (And.intro rfl (chk_rowI _ _ _ _)) ?_) | (refine br_t (by omega) ?_) | (refine br_f (by omega) ?_) | (refine bs_t (by omega) ?_) | (refine bs_f (by omega) ?_) | (refine fun (K' : K3) hK' => ?_) | (refine hK' _ _ _ ?_; clear hK' K') | (refine draw_auto tok mixed (by kernel_rfl) ?_) | (refine CallK.val (R := []) (above_spec (runS l f n).2 ((runS l f n).1.1 + (l.getD (f + n) (0, 0)).1, (runS l f n).1.2.1 + (l.getD (f + n) (0, 0)).2, (f : Int) + (n : Int)) (by omega) (by omega) (by simp only; omega) (by simp only; omega)) (by kernel_rfl) rfl (by simp [V.wf, A.wf, C.wf]) trivial rfl rfl trivial ?_) | (refine br_bf (by rw [hab]; rfl) ?_) | (refine bs_bt (Eq.refl true) ?_) | (refine bs_bf (Eq.refl false) ?_) | (refine br_bt (Eq.refl true) ?_) | (refine br_bf (Eq.refl false) ?_) | (refine CallK.m ?_) | (refine Two.l ?_) | (refine And.intro (And.intro rfl rfl) ?_))
        refine ⟨n + 1, [], by omega, by omega, ?_⟩
        refine ⟨?_, ?_, rfl, rfl, by first | exact Nat.le_of_ble_eq_true rfl | exact Nat.le_refl _ | omega⟩
        · repeat (first | exact trivial | refine And.intro (covS_syn (by first | rfl | (refine congrArg some (congrArg V.i ?_); omega)) rfl (by first | exact trivial | exact Nat.le_of_ble_eq_true rfl | exact hy | exact (fun p hp => nomatch hp) | (show (_ : Nat) < _; omega))) ?_ | refine And.intro (covS_bool rfl rfl (by first | rfl)) ?_)
        · repeat (first | exact trivial | refine And.intro (covE_id (Nat.le_of_ble_eq_true rfl) (by first | exact wf_ints _ _ | exact wf_bools _ _ | first | exact wf_sls _ _ _ (by omega) | exact wf_jobs _ _ | simp [C.wf]) rfl (by first | rfl | (exact (show ([C.i _, C.i _, C.i _] : List C) = [C.i _, C.i _, C.i _] by rw [hR])))) ?_)
      | false =>
        have hR : (runS l f (n + 1)).2 = ((runS l f n).1.1 + (l.getD (f + n) (0, 0)).1, (runS l f n).1.2.1 + (l.getD (f + n) (0, 0)).2, (f : Int) + (n : Int)) := if_neg (fun h => Bool.noConfusion (hab.symm.trans h))
        repeat ((conv => whnf); first | (refine And.intro (by first | omega | exact Nat.le_of_ble_eq_true rfl | (dsimp only [inK]; omega) | (simp only [mulS_eq]; omega) | (simp only [mulS_eq, setL_length]; omega) | (simp only [setL_length, List.length_map]; omega) | exact ⟨by omega, by omega, by first | exact Nat.le_of_ble_eq_true rfl | (dsimp only; omega) | (simp only [setL_length]; omega) | (simp only [setL_length, List.length_map]; omega)⟩ | exact ⟨by omega, by first | rfl | omega, by omega, Nat.le_of_ble_eq_true rfl, Nat.le_of_ble_eq_true rfl⟩ | exact ⟨rfl, rfl, rfl, Nat.le_of_ble_eq_true rfl, by first | rfl | omega | exact Nat.le_of_ble_eq_true rfl | (dsimp only; omega) | (simp; done) | (simp; omega), by first | rfl | omega | exact Nat.le_of_ble_eq_true rfl | (dsimp only; omega) | (simp; done) | (simp; omega), by omega, Nat.le_of_ble_eq_true rfl⟩ | exact Eq.refl true) ?_) | (with_reducible refine ld (jobTd rfl hlt) ?_) | (refine Exists.intro _ (And.intro rfl ?_)) | (refine And.intro (And.intro rfl (chk_rowI _ _ _ _)) ?_) | (refine br_t (by omega) ?_) | (refine br_f (by omega) ?_) | (refine bs_t (by omega) ?_) | (refine bs_f (by omega) ?_) | (refine fun (K' : K3) hK' => ?_) | (refine hK' _ _ _ ?_; clear hK' K') | (refine draw_auto tok mixed (by kernel_rfl) ?_) | (refine CallK.val (R := []) (above_spec (runS l f n).2 ((runS l f n).1.1 + (l.getD (f + n) (0, 0)).1, (runS l f n).1.2.1 + (l.getD (f + n) (0, 0)).2, (f : Int) + (n : Int)) (by omega) (by omega) (by simp only; omega) (by simp only; omega)) (by kernel_rfl) rfl (by simp [V.wf, A.wf, C.wf]) trivial rfl rfl trivial ?_) | (refine br_bt (by rw [hab]; rfl) ?_) | (refine bs_bt (Eq.refl true) ?_) | (refine bs_bf (Eq.refl false) ?_) | (refine br_bt (Eq.refl true) ?_) | (refine br_bf (Eq.refl false) ?_) | (refine CallK.m ?_) | (refine Two.l ?_) | (refine And.intro (And.intro rfl rfl) ?_))
        refine ⟨n + 1, [], by omega, by omega, ?_⟩
        refine ⟨?_, ?_, rfl, rfl, by first | exact Nat.le_of_ble_eq_true rfl | exact Nat.le_refl _ | omega⟩
        · repeat (first | exact trivial | refine And.intro (covS_syn (by first | rfl | (refine congrArg some (congrArg V.i ?_); omega)) rfl (by first | exact trivial | exact Nat.le_of_ble_eq_true rfl | exact hy | exact (fun p hp => nomatch hp) | (show (_ : Nat) < _; omega))) ?_ | refine And.intro (covS_bool rfl rfl (by first | rfl)) ?_)
        · repeat (first | exact trivial | refine And.intro (covE_id (Nat.le_of_ble_eq_true rfl) (by first | exact wf_ints _ _ | exact wf_bools _ _ | first | exact wf_sls _ _ _ (by omega) | exact wf_jobs _ _ | simp [C.wf]) rfl (by first | rfl | (exact (show ([C.i _, C.i _, C.i _] : List C) = [C.i _, C.i _, C.i _] by rw [hR])))) ?_)
    · have hnl : n = l.length - f := by omega
      repeat ((conv => whnf); first | (refine And.intro (by first | omega | exact Nat.le_of_ble_eq_true rfl | (dsimp only [inK]; omega) | (simp only [mulS_eq]; omega) | (simp only [mulS_eq, setL_length]; omega) | (simp only [setL_length, List.length_map]; omega) | exact ⟨by omega, by omega, by first | exact Nat.le_of_ble_eq_true rfl | (dsimp only; omega) | (simp only [setL_length]; omega) | (simp only [setL_length, List.length_map]; omega)⟩ | exact ⟨by omega, by first | rfl | omega, by omega, Nat.le_of_ble_eq_true rfl, Nat.le_of_ble_eq_true rfl⟩ | exact ⟨rfl, rfl, rfl, Nat.le_of_ble_eq_true rfl, by first | rfl | omega | exact Nat.le_of_ble_eq_true rfl | (dsimp only; omega) | (simp; done) | (simp; omega), by first | rfl | omega | exact Nat.le_of_ble_eq_true rfl | (dsimp only; omega) | (simp; done) | (simp; omega), by omega, Nat.le_of_ble_eq_true rfl⟩ | exact Eq.refl true) ?_) | (refine Exists.intro _ (And.intro rfl ?_)) | (refine And.intro (And.intro rfl (chk_rowI _ _ _ _)) ?_) | (refine br_t (by omega) ?_) | (refine br_f (by omega) ?_) | (refine bs_t (by omega) ?_) | (refine bs_f (by omega) ?_) | (refine fun (K' : K3) hK' => ?_) | (refine hK' _ _ _ ?_; clear hK' K') | (refine draw_auto tok mixed (by kernel_rfl) ?_) | (refine bs_bt (Eq.refl true) ?_) | (refine bs_bf (Eq.refl false) ?_) | (refine br_bt (Eq.refl true) ?_) | (refine br_bf (Eq.refl false) ?_) | (refine CallK.m ?_) | (refine Two.l ?_) | (refine And.intro (And.intro rfl rfl) ?_))
      subst hnl
      intro ρ; rfl
end Go.Proofs.Ytjijjncddjkdlaa

/- Shore: the reference's Count and Valid, and Long. -/
namespace Go.Proofs.Ytjijjncddjkdlaa
open Go.RowKit
set_option linter.unusedVariables false
set_option linter.unusedSimpArgs false
theorem count_spec (j : Coast) (hj : Sized j) : Spec Try.prog 56 [V.c (.sl 0 j.length)] [⟨0, .ro 1, slsC 1 j⟩] 32 (Is (V.i (manyN j j.length))) := by
  have hj20 := hj.len
  have hlen := slsC_len (b := 1) (j := j)
  refine Spec.of tok Try.func56 rfl rfl rfl fun n0 cx => vc_ok tok ?_
  repeat ((conv => whnf); first | (refine And.intro (by first | omega | exact Nat.le_of_ble_eq_true rfl | (dsimp only [inK]; omega) | (simp only [mulS_eq]; omega) | (simp only [mulS_eq, setL_length]; omega) | (simp only [setL_length, List.length_map]; omega) | exact ⟨by omega, by omega, by first | exact Nat.le_of_ble_eq_true rfl | (dsimp only; omega) | (simp only [setL_length]; omega) | (simp only [setL_length, List.length_map]; omega)⟩ | exact ⟨by omega, by first | rfl | omega, by omega, Nat.le_of_ble_eq_true rfl, Nat.le_of_ble_eq_true rfl⟩ | exact ⟨rfl, rfl, rfl, Nat.le_of_ble_eq_true rfl, by first | rfl | omega | exact Nat.le_of_ble_eq_true rfl | (dsimp only; omega) | (simp; done) | (simp; omega), by first | rfl | omega | exact Nat.le_of_ble_eq_true rfl | (dsimp only; omega) | (simp; done) | (simp; omega), by omega, Nat.le_of_ble_eq_true rfl⟩ | exact Eq.refl true) ?_) | (refine Exists.intro _ (And.intro rfl ?_)) | (refine And.intro (And.intro rfl (chk_rowI _ _ _ _)) ?_) | (refine br_t (by omega) ?_) | (refine br_f (by omega) ?_) | (refine bs_t (by omega) ?_) | (refine bs_f (by omega) ?_) | (refine fun (K' : K3) hK' => ?_) | (refine hK' _ _ _ ?_; clear hK' K') | (refine draw_auto tok mixed (by kernel_rfl) ?_) | (refine bs_bt (Eq.refl true) ?_) | (refine bs_bf (Eq.refl false) ?_) | (refine br_bt (Eq.refl true) ?_) | (refine br_bf (Eq.refl false) ?_) | (refine CallK.m ?_) | (refine Two.l ?_) | (refine And.intro (And.intro rfl rfl) ?_))
  refine Tri.loop (γ := Nat) (fun k => k ≤ j.length) (fun k => [(0, V.c (.sl 0 j.length)), (4, V.i (k : Nat)), (3, V.i (manyN j k))])
    (fun k => [⟨0, .ro 1, slsC 1 j⟩]) 32 (fun k => j.length - k) 0 (R0 := []) ?_ ?_ ?_
  · omega
  · skip
    refine ⟨?_, ?_, rfl, rfl, by first | exact Nat.le_of_ble_eq_true rfl | exact Nat.le_refl _ | omega⟩
    · repeat (first | exact trivial | refine And.intro (covS_syn (by first | rfl) rfl (by first | exact trivial | exact Nat.le_of_ble_eq_true rfl | exact hy | exact (fun p hp => nomatch hp) | (show (_ : Nat) < _; omega))) ?_ | refine And.intro (covS_bool rfl rfl (by first | rfl)) ?_)
    · repeat (first | exact trivial | refine And.intro (covE_id (Nat.le_of_ble_eq_true rfl) (by first | exact wf_ints _ _ | exact wf_bools _ _ | first | exact wf_sls _ _ _ (by omega) | exact wf_jobs _ _ | simp [C.wf]) rfl (by first | rfl)) ?_)
  · intro k hk
    refine vc_ok tok ?_
    by_cases hlt : k < j.length
    · have h1 := manyN_bd hj.be k hk
      have h2 := hj.be k hlt
      have h3 := manyN_succ hlt
      have h4 : (if (100 : Int) < ((j.getD k []).length : Int) then (100 : Int) else ((j.getD k []).length : Int)) = ((j.getD k []).length : Int) := if_neg (by omega)
      repeat ((conv => whnf); first | (refine And.intro (by first | omega | exact Nat.le_of_ble_eq_true rfl | (dsimp only [inK]; omega) | (simp only [mulS_eq]; omega) | (simp only [mulS_eq, setL_length]; omega) | (simp only [setL_length, List.length_map]; omega) | exact ⟨by omega, by omega, by first | exact Nat.le_of_ble_eq_true rfl | (dsimp only; omega) | (simp only [setL_length]; omega) | (simp only [setL_length, List.length_map]; omega)⟩ | exact ⟨by omega, by first | rfl | omega, by omega, Nat.le_of_ble_eq_true rfl, Nat.le_of_ble_eq_true rfl⟩ | exact ⟨rfl, rfl, rfl, Nat.le_of_ble_eq_true rfl, by first | rfl | omega | exact Nat.le_of_ble_eq_true rfl | (dsimp only; omega) | (simp; done) | (simp; omega), by first | rfl | omega | exact Nat.le_of_ble_eq_true rfl | (dsimp only; omega) | (simp; done) | (simp; omega), by omega, Nat.le_of_ble_eq_true rfl⟩ | exact Eq.refl true) ?_) | (with_reducible refine ld (slL hlt) ?_) | (refine Exists.intro _ (And.intro rfl ?_)) | (refine And.intro (And.intro rfl (chk_rowI _ _ _ _)) ?_) | (refine br_t (by omega) ?_) | (refine br_f (by omega) ?_) | (refine bs_t (by omega) ?_) | (refine bs_f (by omega) ?_) | (refine fun (K' : K3) hK' => ?_) | (refine hK' _ _ _ ?_; clear hK' K') | (refine draw_auto tok mixed (by kernel_rfl) ?_) | (rw [h4]) | (refine bs_bt (Eq.refl true) ?_) | (refine bs_bf (Eq.refl false) ?_) | (refine br_bt (Eq.refl true) ?_) | (refine br_bf (Eq.refl false) ?_) | (refine CallK.m ?_) | (refine Two.l ?_) | (refine And.intro (And.intro rfl rfl) ?_))
      refine ⟨k + 1, [], by omega, by omega, ?_⟩
      refine ⟨?_, ?_, rfl, rfl, by first | exact Nat.le_of_ble_eq_true rfl | exact Nat.le_refl _ | omega⟩
      · repeat (first | exact trivial | refine And.intro (covS_syn (by first | rfl | (refine congrArg some (congrArg V.i ?_); omega)) rfl (by first | exact trivial | exact Nat.le_of_ble_eq_true rfl | exact hy | exact (fun p hp => nomatch hp) | (show (_ : Nat) < _; omega))) ?_ | refine And.intro (covS_bool rfl rfl (by first | rfl)) ?_)
      · repeat (first | exact trivial | refine And.intro (covE_id (Nat.le_of_ble_eq_true rfl) (by first | exact wf_ints _ _ | exact wf_bools _ _ | first | exact wf_sls _ _ _ (by omega) | exact wf_jobs _ _ | simp [C.wf]) rfl (by first | rfl)) ?_)
    · have hk2 : k = j.length := by omega
      subst hk2
      repeat ((conv => whnf); first | (refine And.intro (by first | omega | exact Nat.le_of_ble_eq_true rfl | (dsimp only [inK]; omega) | (simp only [mulS_eq]; omega) | (simp only [mulS_eq, setL_length]; omega) | (simp only [setL_length, List.length_map]; omega) | exact ⟨by omega, by omega, by first | exact Nat.le_of_ble_eq_true rfl | (dsimp only; omega) | (simp only [setL_length]; omega) | (simp only [setL_length, List.length_map]; omega)⟩ | exact ⟨by omega, by first | rfl | omega, by omega, Nat.le_of_ble_eq_true rfl, Nat.le_of_ble_eq_true rfl⟩ | exact ⟨rfl, rfl, rfl, Nat.le_of_ble_eq_true rfl, by first | rfl | omega | exact Nat.le_of_ble_eq_true rfl | (dsimp only; omega) | (simp; done) | (simp; omega), by first | rfl | omega | exact Nat.le_of_ble_eq_true rfl | (dsimp only; omega) | (simp; done) | (simp; omega), by omega, Nat.le_of_ble_eq_true rfl⟩ | exact Eq.refl true) ?_) | (refine Exists.intro _ (And.intro rfl ?_)) | (refine And.intro (And.intro rfl (chk_rowI _ _ _ _)) ?_) | (refine br_t (by omega) ?_) | (refine br_f (by omega) ?_) | (refine bs_t (by omega) ?_) | (refine bs_f (by omega) ?_) | (refine fun (K' : K3) hK' => ?_) | (refine hK' _ _ _ ?_; clear hK' K') | (refine draw_auto tok mixed (by kernel_rfl) ?_) | (refine bs_bt (Eq.refl true) ?_) | (refine bs_bf (Eq.refl false) ?_) | (refine br_bt (Eq.refl true) ?_) | (refine br_bf (Eq.refl false) ?_) | (refine CallK.m ?_) | (refine Two.l ?_) | (refine And.intro (And.intro rfl rfl) ?_))
      intro ρ; rfl
end Go.Proofs.Ytjijjncddjkdlaa

/- Shore: the reference's Valid. -/
namespace Go.Proofs.Ytjijjncddjkdlaa
open Go.RowKit
set_option linter.unusedVariables false
set_option linter.unusedSimpArgs false
theorem bad_true {x : Job} (h : x.1 < 1 ∨ x.1 > 100 ∨ x.2 < 0 ∨ x.2 > 100) : jobBad x = true := by
  simp only [jobBad, Bool.or_eq_true, Bool.not_eq_true', decide_eq_false_iff_not]; omega
theorem bad_false {x : Job} (h : 1 ≤ x.1 ∧ x.1 ≤ 100 ∧ 0 ≤ x.2 ∧ x.2 ≤ 100) : jobBad x = false := by
  simp only [jobBad, Bool.or_eq_false_iff, Bool.not_eq_false', decide_eq_true_eq]; omega
theorem validL_bad {j : Coast} {k m : Nat} (hk : k < j.length) (hm : m < (j.getD k []).length) (h : jobBad ((j.getD k []).getD m (0, 0)) = true) : validL j = false := by
  have : (j.all fun b => !(b.any jobBad)) = false := by
    refine Bool.eq_false_iff.2 fun hh => ?_
    have h1 := List.all_eq_true.1 hh _ (List.getElem_mem hk)
    have e1 : j.getD k [] = j[k] := by rw [List.getD_eq_getElem?_getD, List.getElem?_eq_getElem hk]; rfl
    rw [e1] at h hm
    rw [List.getD_eq_getElem?_getD, List.getElem?_eq_getElem hm] at h
    have h2 : (j[k]).any jobBad = true := List.any_eq_true.2 ⟨_, List.getElem_mem hm, h⟩
    rw [h2] at h1; cases h1
  simp [validL, this]
theorem validL_ok {j : Coast} (h : ∀ k, k < j.length → ∀ m, m < (j.getD k []).length → jobBad ((j.getD k []).getD m (0, 0)) = false) (h1 : 1 ≤ j.length ∧ j.length ≤ 6) (h2 : manyN j j.length ≤ 12) : validL j = true := by
  have : (j.all fun b => !(b.any jobBad)) = true := by
    refine List.all_eq_true.2 fun b hb => ?_
    obtain ⟨k, hk, rfl⟩ := List.mem_iff_getElem.1 hb
    have e1 : j.getD k [] = j[k] := by rw [List.getD_eq_getElem?_getD, List.getElem?_eq_getElem hk]; rfl
    have h3 : (j[k]).any jobBad = false := by
      refine Bool.eq_false_iff.2 fun hh => ?_
      obtain ⟨x, hx, hx2⟩ := List.any_eq_true.1 hh
      obtain ⟨m, hm, rfl⟩ := List.mem_iff_getElem.1 hx
      have := h k hk m (by rw [e1]; exact hm)
      rw [e1, List.getD_eq_getElem?_getD, List.getElem?_eq_getElem hm] at this
      rw [Option.getD_some] at this
      rw [this] at hx2; cases hx2
    rw [h3]; rfl
  simp only [validL, this, Bool.true_and, Bool.and_eq_true, decide_eq_true_eq]
  omega
set_option maxRecDepth 10000 in
theorem rvalid_spec (j : Coast) (hj : Sized j) : Spec Try.prog 18 [V.c (.sl 0 j.length)] (⟨0, .ro 1, slsC 1 j⟩ :: entC 1 j) 32 (Is (V.c (.bool (validL j)))) := by
  have hj20 := hj.len
  have hlen := slsC_len (b := 1) (j := j)
  have hwf : ∀ c ∈ slsC 1 j, c.wf 32 := wf_sls _ _ _ (by omega)
  refine Spec.of tok Try.func18 rfl rfl rfl fun n0 cx => vc_ok tok ?_
  by_cases h1 : (j.length : Int) < 1
  · repeat ((conv => whnf); first | (refine And.intro (by first | omega | exact Nat.le_of_ble_eq_true rfl | (dsimp only [inK]; omega) | (simp only [mulS_eq]; omega) | (simp only [mulS_eq, setL_length]; omega) | (simp only [setL_length, List.length_map]; omega) | exact ⟨by omega, by omega, by first | exact Nat.le_of_ble_eq_true rfl | (dsimp only; omega) | (simp only [setL_length]; omega) | (simp only [setL_length, List.length_map]; omega)⟩ | exact ⟨by omega, by first | rfl | omega, by omega, Nat.le_of_ble_eq_true rfl, Nat.le_of_ble_eq_true rfl⟩ | exact ⟨rfl, rfl, rfl, Nat.le_of_ble_eq_true rfl, by first | rfl | omega | exact Nat.le_of_ble_eq_true rfl | (dsimp only; omega) | (simp; done) | (simp; omega), by first | rfl | omega | exact Nat.le_of_ble_eq_true rfl | (dsimp only; omega) | (simp; done) | (simp; omega), by omega, Nat.le_of_ble_eq_true rfl⟩ | exact Eq.refl true) ?_) | (refine Exists.intro _ (And.intro rfl ?_)) | (refine And.intro (And.intro rfl (chk_rowI _ _ _ _)) ?_) | (refine br_t (by omega) ?_) | (refine br_f (by omega) ?_) | (refine bs_t (by omega) ?_) | (refine bs_f (by omega) ?_) | (refine fun (K' : K3) hK' => ?_) | (refine hK' _ _ _ ?_; clear hK' K') | (refine draw_auto tok mixed (by kernel_rfl) ?_) | (refine bs_bt (Eq.refl true) ?_) | (refine bs_bf (Eq.refl false) ?_) | (refine br_bt (Eq.refl true) ?_) | (refine br_bf (Eq.refl false) ?_) | (refine CallK.m ?_) | (refine Two.l ?_) | (refine And.intro (And.intro rfl rfl) ?_))
    intro ρ; show Value.bool _ = Value.bool _; simp [validL]; omega
  by_cases h6 : (j.length : Int) > 6
  · repeat ((conv => whnf); first | (refine And.intro (by first | omega | exact Nat.le_of_ble_eq_true rfl | (dsimp only [inK]; omega) | (simp only [mulS_eq]; omega) | (simp only [mulS_eq, setL_length]; omega) | (simp only [setL_length, List.length_map]; omega) | exact ⟨by omega, by omega, by first | exact Nat.le_of_ble_eq_true rfl | (dsimp only; omega) | (simp only [setL_length]; omega) | (simp only [setL_length, List.length_map]; omega)⟩ | exact ⟨by omega, by first | rfl | omega, by omega, Nat.le_of_ble_eq_true rfl, Nat.le_of_ble_eq_true rfl⟩ | exact ⟨rfl, rfl, rfl, Nat.le_of_ble_eq_true rfl, by first | rfl | omega | exact Nat.le_of_ble_eq_true rfl | (dsimp only; omega) | (simp; done) | (simp; omega), by first | rfl | omega | exact Nat.le_of_ble_eq_true rfl | (dsimp only; omega) | (simp; done) | (simp; omega), by omega, Nat.le_of_ble_eq_true rfl⟩ | exact Eq.refl true) ?_) | (refine Exists.intro _ (And.intro rfl ?_)) | (refine And.intro (And.intro rfl (chk_rowI _ _ _ _)) ?_) | (refine br_t (by omega) ?_) | (refine br_f (by omega) ?_) | (refine bs_t (by omega) ?_) | (refine bs_f (by omega) ?_) | (refine fun (K' : K3) hK' => ?_) | (refine hK' _ _ _ ?_; clear hK' K') | (refine draw_auto tok mixed (by kernel_rfl) ?_) | (refine bs_bt (Eq.refl true) ?_) | (refine bs_bf (Eq.refl false) ?_) | (refine br_bt (Eq.refl true) ?_) | (refine br_bf (Eq.refl false) ?_) | (refine CallK.m ?_) | (refine Two.l ?_) | (refine And.intro (And.intro rfl rfl) ?_))
    intro ρ; show Value.bool _ = Value.bool _; simp [validL]; omega
  by_cases h12 : (manyN j j.length : Int) > 12
  · repeat ((conv => whnf); first | (refine And.intro (by first | omega | exact Nat.le_of_ble_eq_true rfl | (dsimp only [inK]; omega) | (simp only [mulS_eq]; omega) | (simp only [mulS_eq, setL_length]; omega) | (simp only [setL_length, List.length_map]; omega) | exact ⟨by omega, by omega, by first | exact Nat.le_of_ble_eq_true rfl | (dsimp only; omega) | (simp only [setL_length]; omega) | (simp only [setL_length, List.length_map]; omega)⟩ | exact ⟨by omega, by first | rfl | omega, by omega, Nat.le_of_ble_eq_true rfl, Nat.le_of_ble_eq_true rfl⟩ | exact ⟨rfl, rfl, rfl, Nat.le_of_ble_eq_true rfl, by first | rfl | omega | exact Nat.le_of_ble_eq_true rfl | (dsimp only; omega) | (simp; done) | (simp; omega), by first | rfl | omega | exact Nat.le_of_ble_eq_true rfl | (dsimp only; omega) | (simp; done) | (simp; omega), by omega, Nat.le_of_ble_eq_true rfl⟩ | exact Eq.refl true) ?_) | (refine Exists.intro _ (And.intro rfl ?_)) | (refine And.intro (And.intro rfl (chk_rowI _ _ _ _)) ?_) | (refine br_t (by omega) ?_) | (refine br_f (by omega) ?_) | (refine bs_t (by omega) ?_) | (refine bs_f (by omega) ?_) | (refine fun (K' : K3) hK' => ?_) | (refine hK' _ _ _ ?_; clear hK' K') | (refine draw_auto tok mixed (by kernel_rfl) ?_) | (refine CallK.val (R := []) (count_spec j hj) (by kernel_rfl) rfl (by simp [V.wf, A.wf, C.wf]) ⟨roE_id (by omega) hwf rfl (.inr rfl) rfl, trivial⟩ rfl rfl trivial ?_) | (refine bs_bt (Eq.refl true) ?_) | (refine bs_bf (Eq.refl false) ?_) | (refine br_bt (Eq.refl true) ?_) | (refine br_bf (Eq.refl false) ?_) | (refine CallK.m ?_) | (refine Two.l ?_) | (refine And.intro (And.intro rfl rfl) ?_))
    intro ρ; show Value.bool _ = Value.bool _; simp [validL]; omega
  repeat ((conv => whnf); first | (refine And.intro (by first | omega | exact Nat.le_of_ble_eq_true rfl | (dsimp only [inK]; omega) | (simp only [mulS_eq]; omega) | (simp only [mulS_eq, setL_length]; omega) | (simp only [setL_length, List.length_map]; omega) | exact ⟨by omega, by omega, by first | exact Nat.le_of_ble_eq_true rfl | (dsimp only; omega) | (simp only [setL_length]; omega) | (simp only [setL_length, List.length_map]; omega)⟩ | exact ⟨by omega, by first | rfl | omega, by omega, Nat.le_of_ble_eq_true rfl, Nat.le_of_ble_eq_true rfl⟩ | exact ⟨rfl, rfl, rfl, Nat.le_of_ble_eq_true rfl, by first | rfl | omega | exact Nat.le_of_ble_eq_true rfl | (dsimp only; omega) | (simp; done) | (simp; omega), by first | rfl | omega | exact Nat.le_of_ble_eq_true rfl | (dsimp only; omega) | (simp; done) | (simp; omega), by omega, Nat.le_of_ble_eq_true rfl⟩ | exact Eq.refl true) ?_) | (refine Exists.intro _ (And.intro rfl ?_)) | (refine And.intro (And.intro rfl (chk_rowI _ _ _ _)) ?_) | (refine br_t (by omega) ?_) | (refine br_f (by omega) ?_) | (refine bs_t (by omega) ?_) | (refine bs_f (by omega) ?_) | (refine fun (K' : K3) hK' => ?_) | (refine hK' _ _ _ ?_; clear hK' K') | (refine draw_auto tok mixed (by kernel_rfl) ?_) | (refine CallK.val (R := []) (count_spec j hj) (by kernel_rfl) rfl (by simp [V.wf, A.wf, C.wf]) ⟨roE_id (by omega) hwf rfl (.inr rfl) rfl, trivial⟩ rfl rfl trivial ?_) | (refine bs_bt (Eq.refl true) ?_) | (refine bs_bf (Eq.refl false) ?_) | (refine br_bt (Eq.refl true) ?_) | (refine br_bf (Eq.refl false) ?_) | (refine CallK.m ?_) | (refine Two.l ?_) | (refine And.intro (And.intro rfl rfl) ?_))
  refine Tri.loop (γ := Nat) (fun k => k ≤ j.length ∧ ∀ i, i < k → ∀ m, m < (j.getD i []).length → jobBad ((j.getD i []).getD m (0, 0)) = false) (fun k => [(0, V.c (.sl 0 j.length)), (3, V.i (k : Nat))])
    (fun k => ⟨0, .ro 1, slsC 1 j⟩ :: entC 1 j) 32 (fun k => j.length - k) 0 (R0 := []) ?_ ?_ ?_
  · exact ⟨by omega, by omega⟩
  · skip
    refine ⟨?_, ?_, injB_ent (p := [_]) (by omega) rfl rfl, rfl, by first | exact Nat.le_of_ble_eq_true rfl | exact Nat.le_refl _ | omega⟩
    · repeat (first | exact trivial | refine And.intro (covS_syn (by first | rfl) rfl (by first | exact trivial | exact Nat.le_of_ble_eq_true rfl | exact hy | exact (fun p hp => nomatch hp) | (show (_ : Nat) < _; omega))) ?_ | refine And.intro (covS_bool rfl rfl (by first | rfl)) ?_)
    · repeat (first | exact trivial | (exact covL_ent (by omega) (fun k hk => by (try simp only [flatN]); (repeat (first | rw [find_skip (by omega)] | rw [find_hi (by omega) (by rfl)])))) | refine And.intro (covE_id (Nat.le_of_ble_eq_true rfl) (by first | exact wf_ints _ _ | exact wf_bools _ _ | first | exact wf_sls _ _ _ (by omega) | exact wf_jobs _ _ | simp [C.wf]) rfl (by first | rfl)) ?_)
  · rintro k ⟨hk, hb⟩
    refine vc_ok tok ?_
    by_cases hlt : k < j.length
    · have hbl := hj.be k hlt
      have hjl := jobC_len (j.getD k [])
      repeat ((conv => whnf); first | (refine And.intro (by first | omega | exact Nat.le_of_ble_eq_true rfl | (dsimp only [inK]; omega) | (simp only [mulS_eq]; omega) | (simp only [mulS_eq, setL_length]; omega) | (simp only [setL_length, List.length_map]; omega) | exact ⟨by omega, by omega, by first | exact Nat.le_of_ble_eq_true rfl | (dsimp only; omega) | (simp only [setL_length]; omega) | (simp only [setL_length, List.length_map]; omega)⟩ | exact ⟨by omega, by first | rfl | omega, by omega, Nat.le_of_ble_eq_true rfl, Nat.le_of_ble_eq_true rfl⟩ | exact ⟨rfl, rfl, rfl, Nat.le_of_ble_eq_true rfl, by first | rfl | omega | exact Nat.le_of_ble_eq_true rfl | (dsimp only; omega) | (simp; done) | (simp; omega), by first | rfl | omega | exact Nat.le_of_ble_eq_true rfl | (dsimp only; omega) | (simp; done) | (simp; omega), by omega, Nat.le_of_ble_eq_true rfl⟩ | exact Eq.refl true) ?_) | (with_reducible refine ld (slL hlt) ?_) | (refine Exists.intro _ (And.intro rfl ?_)) | (refine And.intro (And.intro rfl (chk_rowI _ _ _ _)) ?_) | (refine br_t (by omega) ?_) | (refine br_f (by omega) ?_) | (refine bs_t (by omega) ?_) | (refine bs_f (by omega) ?_) | (refine fun (K' : K3) hK' => ?_) | (refine hK' _ _ _ ?_; clear hK' K') | (refine draw_auto tok mixed (by kernel_rfl) ?_) | (refine bs_bt (Eq.refl true) ?_) | (refine bs_bf (Eq.refl false) ?_) | (refine br_bt (Eq.refl true) ?_) | (refine br_bf (Eq.refl false) ?_) | (refine CallK.m ?_) | (refine Two.l ?_) | (refine And.intro (And.intro rfl rfl) ?_))
      refine Tri.loop (γ := Nat) (fun m => m ≤ (j.getD k []).length ∧ ∀ i, i < m → jobBad ((j.getD k []).getD i (0, 0)) = false) (fun m => [(0, V.c (.sl 0 j.length)), (3, V.i (k : Nat)), (4, V.i (m : Nat))])
        (fun m => ⟨0, .ro 1, slsC 1 j⟩ :: entC 1 j) 32 (fun m => (j.getD k []).length - m) 0 (R0 := []) ?_ ?_ ?_
      · exact ⟨by omega, by omega⟩
      · skip
        refine ⟨?_, ?_, injB_ent (p := [_]) (by omega) rfl rfl, rfl, by first | exact Nat.le_of_ble_eq_true rfl | exact Nat.le_refl _ | omega⟩
        · repeat (first | exact trivial | refine And.intro (covS_syn (by first | rfl) rfl (by first | exact trivial | exact Nat.le_of_ble_eq_true rfl | exact hy | exact (fun p hp => nomatch hp) | (show (_ : Nat) < _; omega))) ?_ | refine And.intro (covS_bool rfl rfl (by first | rfl)) ?_)
        · repeat (first | exact trivial | (exact covL_ent (by omega) (fun k hk => by (try simp only [flatN]); (repeat (first | rw [find_skip (by omega)] | rw [find_hi (by omega) (by rfl)])))) | refine And.intro (covE_id (Nat.le_of_ble_eq_true rfl) (by first | exact wf_ints _ _ | exact wf_bools _ _ | first | exact wf_sls _ _ _ (by omega) | exact wf_jobs _ _ | simp [C.wf]) rfl (by first | rfl)) ?_)
      · rintro m ⟨hm, hbm⟩
        refine vc_ok tok ?_
        by_cases hmt : m < (j.getD k []).length
        · by_cases a1 : ((j.getD k []).getD m (0, 0)).1 < 1
          · repeat ((conv => whnf); first | (refine And.intro (by first | omega | exact Nat.le_of_ble_eq_true rfl | (dsimp only [inK]; omega) | (simp only [mulS_eq]; omega) | (simp only [mulS_eq, setL_length]; omega) | (simp only [setL_length, List.length_map]; omega) | exact ⟨by omega, by omega, by first | exact Nat.le_of_ble_eq_true rfl | (dsimp only; omega) | (simp only [setL_length]; omega) | (simp only [setL_length, List.length_map]; omega)⟩ | exact ⟨by omega, by first | rfl | omega, by omega, Nat.le_of_ble_eq_true rfl, Nat.le_of_ble_eq_true rfl⟩ | exact ⟨rfl, rfl, rfl, Nat.le_of_ble_eq_true rfl, by first | rfl | omega | exact Nat.le_of_ble_eq_true rfl | (dsimp only; omega) | (simp; done) | (simp; omega), by first | rfl | omega | exact Nat.le_of_ble_eq_true rfl | (dsimp only; omega) | (simp; done) | (simp; omega), by omega, Nat.le_of_ble_eq_true rfl⟩ | exact Eq.refl true) ?_) | (with_reducible refine ld (slL hlt) ?_) | (with_reducible refine ld (jobT rfl hmt) ?_) | (refine Exists.intro _ (And.intro rfl ?_)) | (refine And.intro (And.intro rfl (chk_rowI _ _ _ _)) ?_) | (refine br_t (by omega) ?_) | (refine br_f (by omega) ?_) | (refine bs_t (by omega) ?_) | (refine bs_f (by omega) ?_) | (refine fun (K' : K3) hK' => ?_) | (refine hK' _ _ _ ?_; clear hK' K') | (refine draw_auto tok mixed (by kernel_rfl) ?_) | (refine onV_ld (c := ⟨1 + k, .ro 2, jobC (j.getD k [])⟩) (by ((try (conv => lhs; arg 1; whnf)); (repeat (first | rw [find_skip (by omega)] | rw [find_hi (by omega) (by rfl)])); exact entC_find hlt)) ?_) | (with_reducible refine updK_ent (by omega) ?_) | (refine bs_bt (Eq.refl true) ?_) | (refine bs_bf (Eq.refl false) ?_) | (refine br_bt (Eq.refl true) ?_) | (refine br_bf (Eq.refl false) ?_) | (refine CallK.m ?_) | (refine Two.l ?_) | (refine And.intro (And.intro rfl rfl) ?_))
            intro ρ; show Value.bool _ = Value.bool _; rw [validL_bad hlt hmt (bad_true (by omega))]
          by_cases a2 : ((j.getD k []).getD m (0, 0)).1 > 100
          · repeat ((conv => whnf); first | (refine And.intro (by first | omega | exact Nat.le_of_ble_eq_true rfl | (dsimp only [inK]; omega) | (simp only [mulS_eq]; omega) | (simp only [mulS_eq, setL_length]; omega) | (simp only [setL_length, List.length_map]; omega) | exact ⟨by omega, by omega, by first | exact Nat.le_of_ble_eq_true rfl | (dsimp only; omega) | (simp only [setL_length]; omega) | (simp only [setL_length, List.length_map]; omega)⟩ | exact ⟨by omega, by first | rfl | omega, by omega, Nat.le_of_ble_eq_true rfl, Nat.le_of_ble_eq_true rfl⟩ | exact ⟨rfl, rfl, rfl, Nat.le_of_ble_eq_true rfl, by first | rfl | omega | exact Nat.le_of_ble_eq_true rfl | (dsimp only; omega) | (simp; done) | (simp; omega), by first | rfl | omega | exact Nat.le_of_ble_eq_true rfl | (dsimp only; omega) | (simp; done) | (simp; omega), by omega, Nat.le_of_ble_eq_true rfl⟩ | exact Eq.refl true) ?_) | (with_reducible refine ld (slL hlt) ?_) | (with_reducible refine ld (jobT rfl hmt) ?_) | (refine Exists.intro _ (And.intro rfl ?_)) | (refine And.intro (And.intro rfl (chk_rowI _ _ _ _)) ?_) | (refine br_t (by omega) ?_) | (refine br_f (by omega) ?_) | (refine bs_t (by omega) ?_) | (refine bs_f (by omega) ?_) | (refine fun (K' : K3) hK' => ?_) | (refine hK' _ _ _ ?_; clear hK' K') | (refine draw_auto tok mixed (by kernel_rfl) ?_) | (refine onV_ld (c := ⟨1 + k, .ro 2, jobC (j.getD k [])⟩) (by ((try (conv => lhs; arg 1; whnf)); (repeat (first | rw [find_skip (by omega)] | rw [find_hi (by omega) (by rfl)])); exact entC_find hlt)) ?_) | (with_reducible refine updK_ent (by omega) ?_) | (refine bs_bt (Eq.refl true) ?_) | (refine bs_bf (Eq.refl false) ?_) | (refine br_bt (Eq.refl true) ?_) | (refine br_bf (Eq.refl false) ?_) | (refine CallK.m ?_) | (refine Two.l ?_) | (refine And.intro (And.intro rfl rfl) ?_))
            intro ρ; show Value.bool _ = Value.bool _; rw [validL_bad hlt hmt (bad_true (by omega))]
          by_cases a3 : ((j.getD k []).getD m (0, 0)).2 < 0
          · repeat ((conv => whnf); first | (refine And.intro (by first | omega | exact Nat.le_of_ble_eq_true rfl | (dsimp only [inK]; omega) | (simp only [mulS_eq]; omega) | (simp only [mulS_eq, setL_length]; omega) | (simp only [setL_length, List.length_map]; omega) | exact ⟨by omega, by omega, by first | exact Nat.le_of_ble_eq_true rfl | (dsimp only; omega) | (simp only [setL_length]; omega) | (simp only [setL_length, List.length_map]; omega)⟩ | exact ⟨by omega, by first | rfl | omega, by omega, Nat.le_of_ble_eq_true rfl, Nat.le_of_ble_eq_true rfl⟩ | exact ⟨rfl, rfl, rfl, Nat.le_of_ble_eq_true rfl, by first | rfl | omega | exact Nat.le_of_ble_eq_true rfl | (dsimp only; omega) | (simp; done) | (simp; omega), by first | rfl | omega | exact Nat.le_of_ble_eq_true rfl | (dsimp only; omega) | (simp; done) | (simp; omega), by omega, Nat.le_of_ble_eq_true rfl⟩ | exact Eq.refl true) ?_) | (with_reducible refine ld (slL hlt) ?_) | (with_reducible refine ld (jobT rfl hmt) ?_) | (refine Exists.intro _ (And.intro rfl ?_)) | (refine And.intro (And.intro rfl (chk_rowI _ _ _ _)) ?_) | (refine br_t (by omega) ?_) | (refine br_f (by omega) ?_) | (refine bs_t (by omega) ?_) | (refine bs_f (by omega) ?_) | (refine fun (K' : K3) hK' => ?_) | (refine hK' _ _ _ ?_; clear hK' K') | (refine draw_auto tok mixed (by kernel_rfl) ?_) | (refine onV_ld (c := ⟨1 + k, .ro 2, jobC (j.getD k [])⟩) (by ((try (conv => lhs; arg 1; whnf)); (repeat (first | rw [find_skip (by omega)] | rw [find_hi (by omega) (by rfl)])); exact entC_find hlt)) ?_) | (with_reducible refine updK_ent (by omega) ?_) | (refine bs_bt (Eq.refl true) ?_) | (refine bs_bf (Eq.refl false) ?_) | (refine br_bt (Eq.refl true) ?_) | (refine br_bf (Eq.refl false) ?_) | (refine CallK.m ?_) | (refine Two.l ?_) | (refine And.intro (And.intro rfl rfl) ?_))
            intro ρ; show Value.bool _ = Value.bool _; rw [validL_bad hlt hmt (bad_true (by omega))]
          by_cases a4 : ((j.getD k []).getD m (0, 0)).2 > 100
          · repeat ((conv => whnf); first | (refine And.intro (by first | omega | exact Nat.le_of_ble_eq_true rfl | (dsimp only [inK]; omega) | (simp only [mulS_eq]; omega) | (simp only [mulS_eq, setL_length]; omega) | (simp only [setL_length, List.length_map]; omega) | exact ⟨by omega, by omega, by first | exact Nat.le_of_ble_eq_true rfl | (dsimp only; omega) | (simp only [setL_length]; omega) | (simp only [setL_length, List.length_map]; omega)⟩ | exact ⟨by omega, by first | rfl | omega, by omega, Nat.le_of_ble_eq_true rfl, Nat.le_of_ble_eq_true rfl⟩ | exact ⟨rfl, rfl, rfl, Nat.le_of_ble_eq_true rfl, by first | rfl | omega | exact Nat.le_of_ble_eq_true rfl | (dsimp only; omega) | (simp; done) | (simp; omega), by first | rfl | omega | exact Nat.le_of_ble_eq_true rfl | (dsimp only; omega) | (simp; done) | (simp; omega), by omega, Nat.le_of_ble_eq_true rfl⟩ | exact Eq.refl true) ?_) | (with_reducible refine ld (slL hlt) ?_) | (with_reducible refine ld (jobT rfl hmt) ?_) | (refine Exists.intro _ (And.intro rfl ?_)) | (refine And.intro (And.intro rfl (chk_rowI _ _ _ _)) ?_) | (refine br_t (by omega) ?_) | (refine br_f (by omega) ?_) | (refine bs_t (by omega) ?_) | (refine bs_f (by omega) ?_) | (refine fun (K' : K3) hK' => ?_) | (refine hK' _ _ _ ?_; clear hK' K') | (refine draw_auto tok mixed (by kernel_rfl) ?_) | (refine onV_ld (c := ⟨1 + k, .ro 2, jobC (j.getD k [])⟩) (by ((try (conv => lhs; arg 1; whnf)); (repeat (first | rw [find_skip (by omega)] | rw [find_hi (by omega) (by rfl)])); exact entC_find hlt)) ?_) | (with_reducible refine updK_ent (by omega) ?_) | (refine bs_bt (Eq.refl true) ?_) | (refine bs_bf (Eq.refl false) ?_) | (refine br_bt (Eq.refl true) ?_) | (refine br_bf (Eq.refl false) ?_) | (refine CallK.m ?_) | (refine Two.l ?_) | (refine And.intro (And.intro rfl rfl) ?_))
            intro ρ; show Value.bool _ = Value.bool _; rw [validL_bad hlt hmt (bad_true (by omega))]
          have hgood : jobBad ((j.getD k []).getD m (0, 0)) = false := bad_false (by omega)
          repeat ((conv => whnf); first | (refine And.intro (by first | omega | exact Nat.le_of_ble_eq_true rfl | (dsimp only [inK]; omega) | (simp only [mulS_eq]; omega) | (simp only [mulS_eq, setL_length]; omega) | (simp only [setL_length, List.length_map]; omega) | exact ⟨by omega, by omega, by first | exact Nat.le_of_ble_eq_true rfl | (dsimp only; omega) | (simp only [setL_length]; omega) | (simp only [setL_length, List.length_map]; omega)⟩ | exact ⟨by omega, by first | rfl | omega, by omega, Nat.le_of_ble_eq_true rfl, Nat.le_of_ble_eq_true rfl⟩ | exact ⟨rfl, rfl, rfl, Nat.le_of_ble_eq_true rfl, by first | rfl | omega | exact Nat.le_of_ble_eq_true rfl | (dsimp only; omega) | (simp; done) | (simp; omega), by first | rfl | omega | exact Nat.le_of_ble_eq_true rfl | (dsimp only; omega) | (simp; done) | (simp; omega), by omega, Nat.le_of_ble_eq_true rfl⟩ | exact Eq.refl true) ?_) | (with_reducible refine ld (slL hlt) ?_) | (with_reducible refine ld (jobT rfl hmt) ?_) | (refine Exists.intro _ (And.intro rfl ?_)) | (refine And.intro (And.intro rfl (chk_rowI _ _ _ _)) ?_) | (refine br_t (by omega) ?_) | (refine br_f (by omega) ?_) | (refine bs_t (by omega) ?_) | (refine bs_f (by omega) ?_) | (refine fun (K' : K3) hK' => ?_) | (refine hK' _ _ _ ?_; clear hK' K') | (refine draw_auto tok mixed (by kernel_rfl) ?_) | (refine onV_ld (c := ⟨1 + k, .ro 2, jobC (j.getD k [])⟩) (by ((try (conv => lhs; arg 1; whnf)); (repeat (first | rw [find_skip (by omega)] | rw [find_hi (by omega) (by rfl)])); exact entC_find hlt)) ?_) | (with_reducible refine updK_ent (by omega) ?_) | (refine bs_bt (Eq.refl true) ?_) | (refine bs_bf (Eq.refl false) ?_) | (refine br_bt (Eq.refl true) ?_) | (refine br_bf (Eq.refl false) ?_) | (refine CallK.m ?_) | (refine Two.l ?_) | (refine And.intro (And.intro rfl rfl) ?_))
          refine ⟨m + 1, [], ⟨by omega, fun i hi => ?_⟩, by omega, ?_⟩
          · by_cases h : i = m
            · rw [h]; exact hgood
            · exact hbm i (by omega)
          refine ⟨?_, ?_, injB_ent (p := [_]) (by omega) rfl rfl, rfl, by first | exact Nat.le_of_ble_eq_true rfl | exact Nat.le_refl _ | omega⟩
          · repeat (first | exact trivial | refine And.intro (covS_syn (by first | rfl | (refine congrArg some (congrArg V.i ?_); omega)) rfl (by first | exact trivial | exact Nat.le_of_ble_eq_true rfl | exact hy | exact (fun p hp => nomatch hp) | (show (_ : Nat) < _; omega))) ?_ | refine And.intro (covS_bool rfl rfl (by first | rfl)) ?_)
          · repeat (first | exact trivial | (exact covL_ent (by omega) (fun k hk => by (try simp only [flatN]); (repeat (first | rw [find_skip (by omega)] | rw [find_hi (by omega) (by rfl)])))) | refine And.intro (covE_id (Nat.le_of_ble_eq_true rfl) (by first | exact wf_ints _ _ | exact wf_bools _ _ | first | exact wf_sls _ _ _ (by omega) | exact wf_jobs _ _ | simp [C.wf]) rfl (by first | rfl)) ?_)
        · have hml : m = (j.getD k []).length := by omega
          subst hml
          repeat ((conv => whnf); first | (refine And.intro (by first | omega | exact Nat.le_of_ble_eq_true rfl | (dsimp only [inK]; omega) | (simp only [mulS_eq]; omega) | (simp only [mulS_eq, setL_length]; omega) | (simp only [setL_length, List.length_map]; omega) | exact ⟨by omega, by omega, by first | exact Nat.le_of_ble_eq_true rfl | (dsimp only; omega) | (simp only [setL_length]; omega) | (simp only [setL_length, List.length_map]; omega)⟩ | exact ⟨by omega, by first | rfl | omega, by omega, Nat.le_of_ble_eq_true rfl, Nat.le_of_ble_eq_true rfl⟩ | exact ⟨rfl, rfl, rfl, Nat.le_of_ble_eq_true rfl, by first | rfl | omega | exact Nat.le_of_ble_eq_true rfl | (dsimp only; omega) | (simp; done) | (simp; omega), by first | rfl | omega | exact Nat.le_of_ble_eq_true rfl | (dsimp only; omega) | (simp; done) | (simp; omega), by omega, Nat.le_of_ble_eq_true rfl⟩ | exact Eq.refl true) ?_) | (with_reducible refine ld (slL hlt) ?_) | (refine Exists.intro _ (And.intro rfl ?_)) | (refine And.intro (And.intro rfl (chk_rowI _ _ _ _)) ?_) | (refine br_t (by omega) ?_) | (refine br_f (by omega) ?_) | (refine bs_t (by omega) ?_) | (refine bs_f (by omega) ?_) | (refine fun (K' : K3) hK' => ?_) | (refine hK' _ _ _ ?_; clear hK' K') | (refine draw_auto tok mixed (by kernel_rfl) ?_) | (refine bs_bt (Eq.refl true) ?_) | (refine bs_bf (Eq.refl false) ?_) | (refine br_bt (Eq.refl true) ?_) | (refine br_bf (Eq.refl false) ?_) | (refine CallK.m ?_) | (refine Two.l ?_) | (refine And.intro (And.intro rfl rfl) ?_))
          refine ⟨k + 1, [], ⟨by omega, fun i hi => ?_⟩, by omega, ?_⟩
          · by_cases h : i = k
            · rw [h]; exact hbm
            · exact hb i (by omega)
          refine ⟨?_, ?_, injB_ent (p := [_]) (by omega) rfl rfl, rfl, by first | exact Nat.le_of_ble_eq_true rfl | exact Nat.le_refl _ | omega⟩
          · repeat (first | exact trivial | refine And.intro (covS_syn (by first | rfl | (refine congrArg some (congrArg V.i ?_); omega)) rfl (by first | exact trivial | exact Nat.le_of_ble_eq_true rfl | exact hy | exact (fun p hp => nomatch hp) | (show (_ : Nat) < _; omega))) ?_ | refine And.intro (covS_bool rfl rfl (by first | rfl)) ?_)
          · repeat (first | exact trivial | (exact covL_ent (by omega) (fun k hk => by (try simp only [flatN]); (repeat (first | rw [find_skip (by omega)] | rw [find_hi (by omega) (by rfl)])))) | refine And.intro (covE_id (Nat.le_of_ble_eq_true rfl) (by first | exact wf_ints _ _ | exact wf_bools _ _ | first | exact wf_sls _ _ _ (by omega) | exact wf_jobs _ _ | simp [C.wf]) rfl (by first | rfl)) ?_)
    · have hkl : k = j.length := by omega
      subst hkl
      repeat ((conv => whnf); first | (refine And.intro (by first | omega | exact Nat.le_of_ble_eq_true rfl | (dsimp only [inK]; omega) | (simp only [mulS_eq]; omega) | (simp only [mulS_eq, setL_length]; omega) | (simp only [setL_length, List.length_map]; omega) | exact ⟨by omega, by omega, by first | exact Nat.le_of_ble_eq_true rfl | (dsimp only; omega) | (simp only [setL_length]; omega) | (simp only [setL_length, List.length_map]; omega)⟩ | exact ⟨by omega, by first | rfl | omega, by omega, Nat.le_of_ble_eq_true rfl, Nat.le_of_ble_eq_true rfl⟩ | exact ⟨rfl, rfl, rfl, Nat.le_of_ble_eq_true rfl, by first | rfl | omega | exact Nat.le_of_ble_eq_true rfl | (dsimp only; omega) | (simp; done) | (simp; omega), by first | rfl | omega | exact Nat.le_of_ble_eq_true rfl | (dsimp only; omega) | (simp; done) | (simp; omega), by omega, Nat.le_of_ble_eq_true rfl⟩ | exact Eq.refl true) ?_) | (refine Exists.intro _ (And.intro rfl ?_)) | (refine And.intro (And.intro rfl (chk_rowI _ _ _ _)) ?_) | (refine br_t (by omega) ?_) | (refine br_f (by omega) ?_) | (refine bs_t (by omega) ?_) | (refine bs_f (by omega) ?_) | (refine fun (K' : K3) hK' => ?_) | (refine hK' _ _ _ ?_; clear hK' K') | (refine draw_auto tok mixed (by kernel_rfl) ?_) | (refine bs_bt (Eq.refl true) ?_) | (refine bs_bf (Eq.refl false) ?_) | (refine br_bt (Eq.refl true) ?_) | (refine br_bf (Eq.refl false) ?_) | (refine CallK.m ?_) | (refine Two.l ?_) | (refine And.intro (And.intro rfl rfl) ?_))
      intro ρ; show Value.bool _ = Value.bool _; rw [validL_ok hb (by omega) (by omega)]
end Go.Proofs.Ytjijjncddjkdlaa

/- Shore: all hours. -/
namespace Go.Proofs.Ytjijjncddjkdlaa
open Go.RowKit
set_option linter.unusedVariables false
set_option linter.unusedSimpArgs false
theorem validL_coast {j : Coast} (hj : Sized j) (hv : validL j = true) : CoastOk j := by
  refine ⟨hj.len, fun b hb => ⟨fun k hk => ?_, hj.be b hb⟩⟩
  have hg : jobBad ((j.getD b []).getD k (0, 0)) = false := by
    refine Bool.eq_false_iff.2 fun h => ?_
    rw [validL_bad hb hk h] at hv; cases hv
  simp only [jobBad, Bool.or_eq_false_iff, Bool.not_eq_false', decide_eq_true_eq] at hg
  omega
def hoursB (l : List Job) : Nat → Int
  | 0 => 0
  | m + 1 => hoursB l m + (l.getD m (0, 0)).1
def hoursC (j : Coast) : Nat → Int
  | 0 => 0
  | k + 1 => hoursC j k + hoursB (j.getD k []) (j.getD k []).length
end Go.Proofs.Ytjijjncddjkdlaa

/- Shore: Hours. -/
namespace Go.Proofs.Ytjijjncddjkdlaa
open Go.RowKit
set_option linter.unusedVariables false
set_option linter.unusedSimpArgs false
/-- What the functions that hand over a number and an error give. -/
def numE (ok : Bool) (n : Int) : V := if ok then .tup [.c (.i n), .c (.i 0)] else .tup [.c (.i 0), .c (.i 60)]
theorem hasC0 {j : Coast} (hj : Sized j) : HasC (⟨0, .ro 1, slsC 1 j⟩ :: entC 1 j) j := ⟨rfl, fun k hk => by rw [find_skip (by omega)]; exact entC_find hk⟩
end Go.Proofs.Ytjijjncddjkdlaa

/- Shore: isOrder. -/
namespace Go.Proofs.Ytjijjncddjkdlaa
open Go.RowKit
set_option linter.unusedVariables false
set_option linter.unusedSimpArgs false
def goodAt (j : Coast) (o : List Int) (i : Nat) : Bool := decide (0 ≤ o.getD i 0 ∧ o.getD i 0 ≤ (j.length : Int) - 1) && decide (cntO o i (beachO o i) < (j.getD (beachO o i) []).length)
def isOrdB (j : Coast) (o : List Int) : Bool := decide (o.length ≤ 100) && (List.range o.length).all (goodAt j o) && decide ((o.length : Int) = (manyN j j.length : Int))
/-- What is left of each beach, once its first k have been set. -/
def left1 (j : Coast) (k : Nat) : List Int := (List.range j.length).map fun b => if b < k then ((j.getD b []).length : Int) else 0
def left2 (j : Coast) (o : List Int) (i : Nat) : List Int := (List.range j.length).map fun b => ((j.getD b []).length : Int) - (cntO o i b : Int)
theorem goodAt_b {j : Coast} {o : List Int} {i : Nat} (h : goodAt j o i = true) : o.getD i 0 = beachO o i ∧ beachO o i < j.length ∧ cntO o i (beachO o i) < (j.getD (beachO o i) []).length := by
  simp only [goodAt, Bool.and_eq_true, decide_eq_true_eq] at h
  have : o.getD i 0 = beachO o i := by unfold beachO; omega
  exact ⟨this, by omega, h.2⟩
theorem cnt_le {j : Coast} {o : List Int} {b : Nat} : ∀ {i : Nat}, i ≤ o.length → (∀ m, m < i → goodAt j o m = true) → cntO o i b ≤ (j.getD b []).length
  | 0, _, _ => by simp [cntO]
  | i + 1, hi, h => by
    have ih := cnt_le (b := b) (i := i) (by omega) (fun m hm => h m (by omega))
    obtain ⟨g1, g2, g3⟩ := goodAt_b (h i (by omega))
    have h3 := cntO_succ (o := o) (b := b) (show i < o.length by omega)
    by_cases hb : o.getD i 0 = (b : Int)
    · have : beachO o i = b := by rw [hb] at g1; omega
      rw [this] at g3
      rw [if_pos hb] at h3; omega
    · rw [if_neg hb] at h3; omega
end Go.Proofs.Ytjijjncddjkdlaa

/- Shore: harm, a range over a function. -/
namespace Go.Proofs.Ytjijjncddjkdlaa
open Go.RowKit
set_option linter.unusedVariables false
set_option linter.unusedSimpArgs false
set_option maxRecDepth 10000 in
theorem harm_spec (j : Coast) (o : List Int) (hj : CoastOk j) (ho : OrdOk j o) : Spec Try.prog 57 [V.c (.sl 0 j.length), V.c (.sl 21 o.length)] (⟨0, .ro 1, slsC 1 j⟩ :: ⟨21, .ro 0, o.map C.i⟩ :: entC 1 j) 32 (Is (V.i (harmO j o o.length))) := by
  have hj20 := hj.len
  have ho100 := ho.len
  have hsl := slsC_len (b := 1) (j := j)
  refine Spec.of tok Try.func57 rfl rfl rfl fun n0 cx => vc_ok tok ?_
  repeat ((conv => whnf); first | (refine And.intro (by first | omega | exact Nat.le_of_ble_eq_true rfl | (dsimp only [inK]; omega) | (simp only [mulS_eq]; omega) | (simp only [mulS_eq, setL_length]; omega) | (simp only [setL_length, List.length_map]; omega) | exact ⟨by omega, by omega, by first | exact Nat.le_of_ble_eq_true rfl | (dsimp only; omega) | (simp only [setL_length]; omega) | (simp only [setL_length, List.length_map]; omega)⟩ | exact ⟨by omega, by first | rfl | omega, by omega, Nat.le_of_ble_eq_true rfl, Nat.le_of_ble_eq_true rfl⟩ | exact ⟨rfl, rfl, rfl, Nat.le_of_ble_eq_true rfl, by first | rfl | omega | exact Nat.le_of_ble_eq_true rfl | (dsimp only; omega) | (simp; done) | (simp; omega), by first | rfl | omega | exact Nat.le_of_ble_eq_true rfl | (dsimp only; omega) | (simp; done) | (simp; omega), by omega, Nat.le_of_ble_eq_true rfl⟩ | exact Eq.refl true) ?_) | (refine Exists.intro _ (And.intro rfl ?_)) | (refine And.intro (And.intro rfl (chk_rowI _ _ _ _)) ?_) | (refine br_t (by omega) ?_) | (refine br_f (by omega) ?_) | (refine bs_t (by omega) ?_) | (refine bs_f (by omega) ?_) | (refine fun (K' : K3) hK' => ?_) | (refine hK' _ _ _ ?_; clear hK' K') | (refine CallM.eq (by kernel_rfl) (visits_spec _ _ _ _ _ _) ?_) | (refine draw_auto tok mixed (by kernel_rfl) ?_) | (with_reducible refine updK_ent (by omega) ?_) | (refine bs_bt (Eq.refl true) ?_) | (refine bs_bf (Eq.refl false) ?_) | (refine br_bt (Eq.refl true) ?_) | (refine br_bf (Eq.refl false) ?_) | (refine CallK.m ?_) | (refine Two.l ?_) | (refine And.intro (And.intro rfl rfl) ?_))
  refine Tri.rangeFunc tok (by exact rfl) (by kernel_rfl) (by exact rfl) (by exact rfl) (by exact rfl) (by exact rfl) (by exact rfl) (by exact rfl) ?_
  intro y cxi oo ob od hy hY
  refine vc_ok tok ?_
  repeat ((conv => whnf); first | (refine And.intro (by first | omega | exact Nat.le_of_ble_eq_true rfl | (dsimp only [inK]; omega) | (simp only [mulS_eq]; omega) | (simp only [mulS_eq, setL_length]; omega) | (simp only [setL_length, List.length_map]; omega) | exact ⟨by omega, by omega, by first | exact Nat.le_of_ble_eq_true rfl | (dsimp only; omega) | (simp only [setL_length]; omega) | (simp only [setL_length, List.length_map]; omega)⟩ | exact ⟨by omega, by first | rfl | omega, by omega, Nat.le_of_ble_eq_true rfl, Nat.le_of_ble_eq_true rfl⟩ | exact ⟨rfl, rfl, rfl, Nat.le_of_ble_eq_true rfl, by first | rfl | omega | exact Nat.le_of_ble_eq_true rfl | (dsimp only; omega) | (simp; done) | (simp; omega), by first | rfl | omega | exact Nat.le_of_ble_eq_true rfl | (dsimp only; omega) | (simp; done) | (simp; omega), by omega, Nat.le_of_ble_eq_true rfl⟩ | exact Eq.refl true) ?_) | (refine Exists.intro _ (And.intro rfl ?_)) | (refine And.intro (And.intro rfl (chk_rowI _ _ _ _)) ?_) | (refine br_t (by omega) ?_) | (refine br_f (by omega) ?_) | (refine bs_t (by omega) ?_) | (refine bs_f (by omega) ?_) | (refine fun (K' : K3) hK' => ?_) | (refine hK' _ _ _ ?_; clear hK' K') | (refine draw_auto tok mixed (by kernel_rfl) ?_) | (refine bs_bt (Eq.refl true) ?_) | (refine bs_bf (Eq.refl false) ?_) | (refine br_bt (Eq.refl true) ?_) | (refine br_bf (Eq.refl false) ?_) | (refine CallK.m ?_) | (refine Two.l ?_) | (refine And.intro (And.intro rfl rfl) ?_))
  refine Tri.loop (γ := Nat) (fun i => i ≤ o.length) (fun i => [(0, V.c (.v y)), (1, V.c (.ptr 33 0)), (2, V.c (.ptr 34 0)), (4, V.c (.sl 36 j.length)), (5, V.i (hourO j o i)), (12, V.c (.sl 21 o.length)), (13, V.i o.length), (14, V.i (i : Nat))])
    (fun i => ⟨36, .vec 3 1, (nextO j o i).map C.i⟩ :: ⟨35, .obj oo, []⟩ :: ⟨34, .own 35, [.sl 21 o.length]⟩ :: ⟨33, .own 57, [.sl 0 j.length]⟩ :: ⟨32, .own 3, [C.i (harmO j o i)]⟩ :: ⟨0, .ro 1, slsC 1 j⟩ :: ⟨21, .ro 0, o.map C.i⟩ :: entC 1 j) 37 (fun i => o.length - i) 0 (R0 := []) ?_ ?_ ?_
  · omega
  · skip
    refine ⟨?_, ?_, injB_ent (p := [_, _, _, _, _, _, _]) (by omega) rfl rfl, rfl, by first | exact Nat.le_of_ble_eq_true rfl | exact Nat.le_refl _ | omega⟩
    · repeat (first | exact trivial | refine And.intro (covS_syn (by first | rfl) rfl (by first | exact trivial | exact Nat.le_of_ble_eq_true rfl | exact hy | exact (fun p hp => nomatch hp) | (show (_ : Nat) < _; omega))) ?_ | refine And.intro (covS_bool rfl rfl (by first | rfl)) ?_)
    · repeat (first | exact trivial | (exact covL_ent (by omega) (fun k hk => by (try simp only [flatN]); (repeat (first | rw [find_skip (by omega)] | rw [find_hi (by omega) (by rfl)])))) | refine And.intro (covE_id (Nat.le_of_ble_eq_true rfl) (by first | exact wf_ints _ _ | exact wf_bools _ _ | first | exact wf_sls _ _ _ (by omega) | exact wf_jobs _ _ | simp [C.wf]) rfl (by first | rfl | (exact nextO_zero))) ?_)
  · intro i hi
    refine vc_ok tok ?_
    by_cases hlt : i < o.length
    · obtain ⟨hb1, hb2⟩ := ho.beach i hlt
      have hpl := ho.place i hlt
      have hnl := nextO_len (j := j) (o := o) (i := i)
      have hnm : ((nextO j o i).map C.i).length = j.length := by simp [hnl]
      have hom : (o.map C.i).length = o.length := by simp
      have hjl := jobC_len (j.getD (beachO o i) [])
      have hjb := jobO_bd hj ho hlt
      have hhb := hourO_bd hj ho i hi
      have hhs : hourO j o (i + 1) = hourO j o i + ((j.getD (beachO o i) []).getD (cntO o i (beachO o i)) (0, 0)).1 := rfl
      have hms : harmO j o (i + 1) = harmO j o i + ((j.getD (beachO o i) []).getD (cntO o i (beachO o i)) (0, 0)).2 * hourO j o (i + 1) := rfl
      have hmb := harmO_bd hj ho (i + 1) hlt
      have hmb0 := harmO_bd hj ho i hi
      unfold jobO at hjb
      have hh1 := hourO_bd hj ho (i + 1) hlt
      have hmul := mul_bd (A := 100) (B := 10000) hjb.2.2.1 hjb.2.2.2 hh1.1 (by omega)
      rw [hhs] at hmul
      have hcn : (cntO o i (beachO o i) : Int) ≤ 100 := by have := (hj.jobs _ hb2).2; omega
      repeat ((conv => whnf); first | (refine And.intro (by first | omega | exact Nat.le_of_ble_eq_true rfl | (dsimp only [inK]; omega) | (simp only [mulS_eq]; omega) | (simp only [mulS_eq, setL_length]; omega) | (simp only [setL_length, List.length_map]; omega) | exact ⟨by omega, by omega, by first | exact Nat.le_of_ble_eq_true rfl | (dsimp only; omega) | (simp only [setL_length]; omega) | (simp only [setL_length, List.length_map]; omega)⟩ | exact ⟨by omega, by first | rfl | omega, by omega, Nat.le_of_ble_eq_true rfl, Nat.le_of_ble_eq_true rfl⟩ | exact ⟨rfl, rfl, rfl, Nat.le_of_ble_eq_true rfl, by first | rfl | omega | exact Nat.le_of_ble_eq_true rfl | (dsimp only; omega) | (simp; done) | (simp; omega), by first | rfl | omega | exact Nat.le_of_ble_eq_true rfl | (dsimp only; omega) | (simp; done) | (simp; omega), by omega, Nat.le_of_ble_eq_true rfl⟩ | exact Eq.refl true) ?_) | (with_reducible refine ld (intL hlt) ?_) | (with_reducible refine ld (slLz hb1 hb2) ?_) | (with_reducible refine ld (nextL hb1 hb2) ?_) | (with_reducible refine ld (jobT rfl hpl) ?_) | (refine Exists.intro _ (And.intro rfl ?_)) | (refine And.intro (And.intro rfl (chk_rowI _ _ _ _)) ?_) | (refine br_t (by omega) ?_) | (refine br_f (by omega) ?_) | (refine bs_t (by omega) ?_) | (refine bs_f (by omega) ?_) | (refine fun (K' : K3) hK' => ?_) | (refine hK' _ _ _ ?_; clear hK' K') | (refine draw_auto tok mixed (by kernel_rfl) ?_) | (with_reducible refine updK_ent (by omega) ?_) | (refine onV_ld (c := ⟨1 + beachO o i, .ro 2, jobC (j.getD (beachO o i) [])⟩) (by ((try (conv => lhs; arg 1; whnf)); (repeat (first | rw [find_skip (by omega)] | rw [find_hi (by omega) (by rfl)])); exact entC_find hb2)) ?_) | (refine bs_bt (Eq.refl true) ?_) | (refine bs_bf (Eq.refl false) ?_) | (refine br_bt (Eq.refl true) ?_) | (refine br_bf (Eq.refl false) ?_) | (refine CallK.m ?_) | (refine Two.l ?_) | (refine And.intro (And.intro rfl rfl) ?_))
      refine hY _ _ _ _ (Nat.le_of_ble_eq_true rfl) rfl ⟨rfl, trivial⟩ ?_
      intro cxb hcx
      refine vc_ok tok ?_
      repeat ((conv => whnf); first | (refine And.intro (by first | omega | exact Nat.le_of_ble_eq_true rfl | (dsimp only [inK]; omega) | (simp only [mulS_eq]; omega) | (simp only [mulS_eq, setL_length]; omega) | (simp only [setL_length, List.length_map]; omega) | exact ⟨by omega, by omega, by first | exact Nat.le_of_ble_eq_true rfl | (dsimp only; omega) | (simp only [setL_length]; omega) | (simp only [setL_length, List.length_map]; omega)⟩ | exact ⟨by omega, by first | rfl | omega, by omega, Nat.le_of_ble_eq_true rfl, Nat.le_of_ble_eq_true rfl⟩ | exact ⟨rfl, rfl, rfl, Nat.le_of_ble_eq_true rfl, by first | rfl | omega | exact Nat.le_of_ble_eq_true rfl | (dsimp only; omega) | (simp; done) | (simp; omega), by first | rfl | omega | exact Nat.le_of_ble_eq_true rfl | (dsimp only; omega) | (simp; done) | (simp; omega), by omega, Nat.le_of_ble_eq_true rfl⟩ | exact Eq.refl true) ?_) | (refine Exists.intro _ (And.intro rfl ?_)) | (refine And.intro (And.intro rfl (chk_rowI _ _ _ _)) ?_) | (refine br_t (by omega) ?_) | (refine br_f (by omega) ?_) | (refine bs_t (by omega) ?_) | (refine bs_f (by omega) ?_) | (refine fun (K' : K3) hK' => ?_) | (refine hK' _ _ _ ?_; clear hK' K') | (refine draw_auto tok mixed (by kernel_rfl) ?_) | (with_reducible refine updK_ent (by omega) ?_) | (with_reducible refine updO_ent (by omega) ?_) | (refine And.intro (Eq.refl oo) ?_) | (refine bs_bt (Eq.refl true) ?_) | (refine bs_bf (Eq.refl false) ?_) | (refine br_bt (Eq.refl true) ?_) | (refine br_bf (Eq.refl false) ?_) | (refine CallK.m ?_) | (refine Two.l ?_) | (refine And.intro (And.intro rfl rfl) ?_))
      refine vc_ok tok ?_
      repeat ((conv => whnf); first | (refine And.intro (by first | omega | exact Nat.le_of_ble_eq_true rfl | (dsimp only [inK]; omega) | (simp only [mulS_eq]; omega) | (simp only [mulS_eq, setL_length]; omega) | (simp only [setL_length, List.length_map]; omega) | exact ⟨by omega, by omega, by first | exact Nat.le_of_ble_eq_true rfl | (dsimp only; omega) | (simp only [setL_length]; omega) | (simp only [setL_length, List.length_map]; omega)⟩ | exact ⟨by omega, by first | rfl | omega, by omega, Nat.le_of_ble_eq_true rfl, Nat.le_of_ble_eq_true rfl⟩ | exact ⟨rfl, rfl, rfl, Nat.le_of_ble_eq_true rfl, by first | rfl | omega | exact Nat.le_of_ble_eq_true rfl | (dsimp only; omega) | (simp; done) | (simp; omega), by first | rfl | omega | exact Nat.le_of_ble_eq_true rfl | (dsimp only; omega) | (simp; done) | (simp; omega), by omega, Nat.le_of_ble_eq_true rfl⟩ | exact Eq.refl true) ?_) | (refine Exists.intro _ (And.intro rfl ?_)) | (refine And.intro (And.intro rfl (chk_rowI _ _ _ _)) ?_) | (refine br_t (by omega) ?_) | (refine br_f (by omega) ?_) | (refine bs_t (by omega) ?_) | (refine bs_f (by omega) ?_) | (refine fun (K' : K3) hK' => ?_) | (refine hK' _ _ _ ?_; clear hK' K') | (refine draw_auto tok mixed (by kernel_rfl) ?_) | (with_reducible refine updK_ent (by omega) ?_) | (with_reducible refine updO_ent (by omega) ?_) | (refine And.intro (Eq.refl ob) ?_) | (refine bs_bt (Eq.refl true) ?_) | (refine bs_bf (Eq.refl false) ?_) | (refine br_bt (Eq.refl true) ?_) | (refine br_bf (Eq.refl false) ?_) | (refine CallK.m ?_) | (refine Two.l ?_) | (refine And.intro (And.intro rfl rfl) ?_))
      refine ⟨i + 1, [], by omega, by omega, ?_⟩
      refine ⟨?_, ?_, injB_ent (p := [_, _, _, _, _, _, _]) (by omega) rfl rfl, rfl, by first | exact Nat.le_of_ble_eq_true rfl | exact Nat.le_refl _ | omega⟩
      · repeat (first | exact trivial | refine And.intro (covS_syn (by first | rfl | (refine congrArg some (congrArg V.i ?_); omega)) rfl (by first | exact trivial | exact Nat.le_of_ble_eq_true rfl | exact hy | exact (fun p hp => nomatch hp) | (show (_ : Nat) < _; omega))) ?_ | refine And.intro (covS_bool rfl rfl (by first | rfl)) ?_)
      · repeat (first | exact trivial | (exact covL_ent (by omega) (fun k hk => by (try simp only [flatN]); (repeat (first | rw [find_skip (by omega)] | rw [find_hi (by omega) (by rfl)])))) | refine And.intro (covE_id (Nat.le_of_ble_eq_true rfl) (by first | exact wf_ints _ _ | exact wf_bools _ _ | first | exact wf_sls _ _ _ (by omega) | exact wf_jobs _ _ | simp [C.wf]) rfl (by first | rfl | (exact nextS ho hlt hb1 rfl))) ?_)
    · have hil : i = o.length := by omega
      subst hil
      repeat ((conv => whnf); first | (refine And.intro (by first | omega | exact Nat.le_of_ble_eq_true rfl | (dsimp only [inK]; omega) | (simp only [mulS_eq]; omega) | (simp only [mulS_eq, setL_length]; omega) | (simp only [setL_length, List.length_map]; omega) | exact ⟨by omega, by omega, by first | exact Nat.le_of_ble_eq_true rfl | (dsimp only; omega) | (simp only [setL_length]; omega) | (simp only [setL_length, List.length_map]; omega)⟩ | exact ⟨by omega, by first | rfl | omega, by omega, Nat.le_of_ble_eq_true rfl, Nat.le_of_ble_eq_true rfl⟩ | exact ⟨rfl, rfl, rfl, Nat.le_of_ble_eq_true rfl, by first | rfl | omega | exact Nat.le_of_ble_eq_true rfl | (dsimp only; omega) | (simp; done) | (simp; omega), by first | rfl | omega | exact Nat.le_of_ble_eq_true rfl | (dsimp only; omega) | (simp; done) | (simp; omega), by omega, Nat.le_of_ble_eq_true rfl⟩ | exact Eq.refl true) ?_) | (refine Exists.intro _ (And.intro rfl ?_)) | (refine And.intro (And.intro rfl (chk_rowI _ _ _ _)) ?_) | (refine br_t (by omega) ?_) | (refine br_f (by omega) ?_) | (refine bs_t (by omega) ?_) | (refine bs_f (by omega) ?_) | (refine fun (K' : K3) hK' => ?_) | (refine hK' _ _ _ ?_; clear hK' K') | (refine draw_auto tok mixed (by kernel_rfl) ?_) | (refine Or.inl ?_) | (refine And.intro (Eq.refl oo) ?_) | (with_reducible refine rmK_ent (by omega) ?_) | (refine bs_bt (Eq.refl true) ?_) | (refine bs_bf (Eq.refl false) ?_) | (refine br_bt (Eq.refl true) ?_) | (refine br_bf (Eq.refl false) ?_) | (refine CallK.m ?_) | (refine Two.l ?_) | (refine And.intro (And.intro rfl rfl) ?_))
      intro ρ; rfl
end Go.Proofs.Ytjijjncddjkdlaa

/- Shore: ordered, IsOrder, Harm. -/
namespace Go.Proofs.Ytjijjncddjkdlaa
open Go.RowKit
set_option linter.unusedVariables false
set_option linter.unusedSimpArgs false
structure HasO (L : List E) (j : Coast) (o : List Int) : Prop where
  c : HasC L j
  o : find L 21 = some ⟨21, .ro 0, o.map C.i⟩
theorem HasO.ro {L : List E} {j : Coast} {o : List Int} (h : HasO L j o) (hj : Sized j) : roL [] 32 L (⟨0, .ro 1, slsC 1 j⟩ :: ⟨21, .ro 0, o.map C.i⟩ :: entC 1 j) := by
  obtain ⟨h1, h2⟩ := h.c.ro hj
  exact ⟨h1, roE_id (by omega) (wf_ints _ _) h.o (.inl rfl) rfl, h2⟩
theorem injO {j : Coast} {o : List Int} (hj : Sized j) : injB [] (⟨0, .ro 1, slsC 1 j⟩ :: ⟨21, .ro 0, o.map C.i⟩ :: entC 1 j) = true := injB_ent (p := [_, _]) hj.len rfl rfl
theorem isOrd_ok {j : Coast} {o : List Int} (h : isOrdB j o = true) : OrdOk j o := by
  simp only [isOrdB, Bool.and_eq_true, decide_eq_true_eq] at h
  obtain ⟨⟨h1, h2⟩, h3⟩ := h
  have hg : ∀ i, i < o.length → goodAt j o i = true := fun i hi => List.all_eq_true.1 h2 i (List.mem_range.2 hi)
  exact ⟨h1, fun i hi => ⟨(goodAt_b (hg i hi)).1, (goodAt_b (hg i hi)).2.1⟩, fun i hi => (goodAt_b (hg i hi)).2.2⟩
/-- What the functions of an order give: a number and an error. -/
def numO (ok is : Bool) (n : Int) : V := if ok then (if is then .tup [.c (.i n), .c (.i 0)] else .tup [.c (.i 0), .c (.i 61)]) else .tup [.c (.i 0), .c (.i 60)]
end Go.Proofs.Ytjijjncddjkdlaa

/- Shore: the reference's isOrder. -/
namespace Go.Proofs.Ytjijjncddjkdlaa
open Go.RowKit
set_option linter.unusedVariables false
set_option linter.unusedSimpArgs false
/-- The reference's word for an order: counts, of at most 101 numbers. -/
def inB (j : Coast) (o : List Int) (i : Nat) : Bool := decide (0 ≤ o.getD i 0 ∧ o.getD i 0 < (j.length : Int))
def risOrdB (j : Coast) (o : List Int) : Bool := (List.range (min o.length 101)).all (inB j o) && (List.range j.length).all fun b => decide (cntO o (min o.length 101) b = (j.getD b []).length)
end Go.Proofs.Ytjijjncddjkdlaa

/- Shore: SameInts, asked. -/
namespace Go.Proofs.Ytjijjncddjkdlaa
open Go.RowKit
set_option linter.unusedVariables false
set_option linter.unusedSimpArgs false
theorem sameInts_spec (a b : List Int) (ha : a.length ≤ 1000) (hb : b.length ≤ 1000) : Spec Try.prog 30 [V.c (.sl 0 a.length), V.c (.sl 1 b.length)] [⟨0, .ro 0, a.map C.i⟩, ⟨1, .ro 0, b.map C.i⟩] 2 (Is (V.c (.bool (decide (a = b))))) := by
  refine Spec.of tok Try.func30 rfl rfl rfl fun n0 cx => vc_ok tok ?_
  by_cases hl : (a.length : Int) ≠ (b.length : Int)
  · repeat ((conv => whnf); first | (refine And.intro (by first | omega | exact Nat.le_of_ble_eq_true rfl | (dsimp only [inK]; omega) | (simp only [mulS_eq]; omega) | (simp only [mulS_eq, setL_length]; omega) | (simp only [setL_length, List.length_map]; omega) | exact ⟨by omega, by omega, by first | exact Nat.le_of_ble_eq_true rfl | (dsimp only; omega) | (simp only [setL_length]; omega) | (simp only [setL_length, List.length_map]; omega)⟩ | exact ⟨by omega, by first | rfl | omega, by omega, Nat.le_of_ble_eq_true rfl, Nat.le_of_ble_eq_true rfl⟩ | exact ⟨rfl, rfl, rfl, Nat.le_of_ble_eq_true rfl, by first | rfl | omega | exact Nat.le_of_ble_eq_true rfl | (dsimp only; omega) | (simp; done) | (simp; omega), by first | rfl | omega | exact Nat.le_of_ble_eq_true rfl | (dsimp only; omega) | (simp; done) | (simp; omega), by omega, Nat.le_of_ble_eq_true rfl⟩ | exact Eq.refl true) ?_) | (refine Exists.intro _ (And.intro rfl ?_)) | (refine And.intro (And.intro rfl (chk_rowI _ _ _ _)) ?_) | (refine br_t (by omega) ?_) | (refine br_f (by omega) ?_) | (refine bs_t (by omega) ?_) | (refine bs_f (by omega) ?_) | (refine fun (K' : K3) hK' => ?_) | (refine hK' _ _ _ ?_; clear hK' K') | (refine draw_auto tok mixed (by kernel_rfl) ?_) | (refine br_t hl ?_) | (refine bs_bt (Eq.refl true) ?_) | (refine bs_bf (Eq.refl false) ?_) | (refine br_bt (Eq.refl true) ?_) | (refine br_bf (Eq.refl false) ?_) | (refine CallK.m ?_) | (refine Two.l ?_) | (refine And.intro (And.intro rfl rfl) ?_))
    intro ρ; show Value.bool _ = Value.bool _
    rw [decide_eq_false (fun h => hl (by rw [h]))]
  repeat ((conv => whnf); first | (refine And.intro (by first | omega | exact Nat.le_of_ble_eq_true rfl | (dsimp only [inK]; omega) | (simp only [mulS_eq]; omega) | (simp only [mulS_eq, setL_length]; omega) | (simp only [setL_length, List.length_map]; omega) | exact ⟨by omega, by omega, by first | exact Nat.le_of_ble_eq_true rfl | (dsimp only; omega) | (simp only [setL_length]; omega) | (simp only [setL_length, List.length_map]; omega)⟩ | exact ⟨by omega, by first | rfl | omega, by omega, Nat.le_of_ble_eq_true rfl, Nat.le_of_ble_eq_true rfl⟩ | exact ⟨rfl, rfl, rfl, Nat.le_of_ble_eq_true rfl, by first | rfl | omega | exact Nat.le_of_ble_eq_true rfl | (dsimp only; omega) | (simp; done) | (simp; omega), by first | rfl | omega | exact Nat.le_of_ble_eq_true rfl | (dsimp only; omega) | (simp; done) | (simp; omega), by omega, Nat.le_of_ble_eq_true rfl⟩ | exact Eq.refl true) ?_) | (refine Exists.intro _ (And.intro rfl ?_)) | (refine And.intro (And.intro rfl (chk_rowI _ _ _ _)) ?_) | (refine br_t (by omega) ?_) | (refine br_f (by omega) ?_) | (refine bs_t (by omega) ?_) | (refine bs_f (by omega) ?_) | (refine fun (K' : K3) hK' => ?_) | (refine hK' _ _ _ ?_; clear hK' K') | (refine draw_auto tok mixed (by kernel_rfl) ?_) | (refine br_f hl ?_) | (refine bs_bt (Eq.refl true) ?_) | (refine bs_bf (Eq.refl false) ?_) | (refine br_bt (Eq.refl true) ?_) | (refine br_bf (Eq.refl false) ?_) | (refine CallK.m ?_) | (refine Two.l ?_) | (refine And.intro (And.intro rfl rfl) ?_))
  have hab : a.length = b.length := by omega
  refine Tri.loop (γ := Nat) (fun k => k ≤ a.length ∧ ∀ i, i < k → a.getD i 0 = b.getD i 0) (fun k => [(0, V.c (.sl 0 a.length)), (1, V.c (.sl 1 b.length)), (5, V.i (k : Nat))])
    (fun k => [⟨0, .ro 0, a.map C.i⟩, ⟨1, .ro 0, b.map C.i⟩]) 2 (fun k => a.length - k) 0 (R0 := []) ?_ ?_ ?_
  · exact ⟨by omega, by omega⟩
  · skip
    refine ⟨?_, ?_, rfl, rfl, by first | exact Nat.le_of_ble_eq_true rfl | exact Nat.le_refl _ | omega⟩
    · repeat (first | exact trivial | refine And.intro (covS_syn (by first | rfl) rfl (by first | exact trivial | exact Nat.le_of_ble_eq_true rfl | exact hy | exact (fun p hp => nomatch hp) | (show (_ : Nat) < _; omega))) ?_ | refine And.intro (covS_bool rfl rfl (by first | rfl)) ?_)
    · repeat (first | exact trivial | refine And.intro (covE_id (Nat.le_of_ble_eq_true rfl) (by first | exact wf_ints _ _ | exact wf_bools _ _ | first | exact wf_sls _ _ _ (by omega) | exact wf_jobs _ _ | simp [C.wf]) rfl (by first | rfl)) ?_)
  · rintro k ⟨hk, he⟩
    refine vc_ok tok ?_
    have h1 : (a.map C.i).length = a.length := by simp
    have h2 : (b.map C.i).length = b.length := by simp
    by_cases hlt : k < a.length
    · have hlt2 : k < b.length := by omega
      by_cases hne : a.getD k 0 ≠ b.getD k 0
      · repeat ((conv => whnf); first | (refine And.intro (by first | omega | exact Nat.le_of_ble_eq_true rfl | (dsimp only [inK]; omega) | (simp only [mulS_eq]; omega) | (simp only [mulS_eq, setL_length]; omega) | (simp only [setL_length, List.length_map]; omega) | exact ⟨by omega, by omega, by first | exact Nat.le_of_ble_eq_true rfl | (dsimp only; omega) | (simp only [setL_length]; omega) | (simp only [setL_length, List.length_map]; omega)⟩ | exact ⟨by omega, by first | rfl | omega, by omega, Nat.le_of_ble_eq_true rfl, Nat.le_of_ble_eq_true rfl⟩ | exact ⟨rfl, rfl, rfl, Nat.le_of_ble_eq_true rfl, by first | rfl | omega | exact Nat.le_of_ble_eq_true rfl | (dsimp only; omega) | (simp; done) | (simp; omega), by first | rfl | omega | exact Nat.le_of_ble_eq_true rfl | (dsimp only; omega) | (simp; done) | (simp; omega), by omega, Nat.le_of_ble_eq_true rfl⟩ | exact Eq.refl true) ?_) | (with_reducible refine ld (intL hlt) ?_) | (with_reducible refine ld (intL hlt2) ?_) | (refine Exists.intro _ (And.intro rfl ?_)) | (refine And.intro (And.intro rfl (chk_rowI _ _ _ _)) ?_) | (refine br_t (by omega) ?_) | (refine br_f (by omega) ?_) | (refine bs_t (by omega) ?_) | (refine bs_f (by omega) ?_) | (refine fun (K' : K3) hK' => ?_) | (refine hK' _ _ _ ?_; clear hK' K') | (refine draw_auto tok mixed (by kernel_rfl) ?_) | (refine br_t hne ?_) | (refine bs_bt (Eq.refl true) ?_) | (refine bs_bf (Eq.refl false) ?_) | (refine br_bt (Eq.refl true) ?_) | (refine br_bf (Eq.refl false) ?_) | (refine CallK.m ?_) | (refine Two.l ?_) | (refine And.intro (And.intro rfl rfl) ?_))
        intro ρ; show Value.bool _ = Value.bool _
        rw [decide_eq_false (fun h => hne (by rw [h]))]
      · repeat ((conv => whnf); first | (refine And.intro (by first | omega | exact Nat.le_of_ble_eq_true rfl | (dsimp only [inK]; omega) | (simp only [mulS_eq]; omega) | (simp only [mulS_eq, setL_length]; omega) | (simp only [setL_length, List.length_map]; omega) | exact ⟨by omega, by omega, by first | exact Nat.le_of_ble_eq_true rfl | (dsimp only; omega) | (simp only [setL_length]; omega) | (simp only [setL_length, List.length_map]; omega)⟩ | exact ⟨by omega, by first | rfl | omega, by omega, Nat.le_of_ble_eq_true rfl, Nat.le_of_ble_eq_true rfl⟩ | exact ⟨rfl, rfl, rfl, Nat.le_of_ble_eq_true rfl, by first | rfl | omega | exact Nat.le_of_ble_eq_true rfl | (dsimp only; omega) | (simp; done) | (simp; omega), by first | rfl | omega | exact Nat.le_of_ble_eq_true rfl | (dsimp only; omega) | (simp; done) | (simp; omega), by omega, Nat.le_of_ble_eq_true rfl⟩ | exact Eq.refl true) ?_) | (with_reducible refine ld (intL hlt) ?_) | (with_reducible refine ld (intL hlt2) ?_) | (refine Exists.intro _ (And.intro rfl ?_)) | (refine And.intro (And.intro rfl (chk_rowI _ _ _ _)) ?_) | (refine br_t (by omega) ?_) | (refine br_f (by omega) ?_) | (refine bs_t (by omega) ?_) | (refine bs_f (by omega) ?_) | (refine fun (K' : K3) hK' => ?_) | (refine hK' _ _ _ ?_; clear hK' K') | (refine draw_auto tok mixed (by kernel_rfl) ?_) | (refine br_f hne ?_) | (refine bs_bt (Eq.refl true) ?_) | (refine bs_bf (Eq.refl false) ?_) | (refine br_bt (Eq.refl true) ?_) | (refine br_bf (Eq.refl false) ?_) | (refine CallK.m ?_) | (refine Two.l ?_) | (refine And.intro (And.intro rfl rfl) ?_))
        refine ⟨k + 1, [], ⟨by omega, fun i hi => ?_⟩, by omega, ?_⟩
        · by_cases h : i = k
          · rw [h]; exact Decidable.not_not.1 hne
          · exact he i (by omega)
        refine ⟨?_, ?_, rfl, rfl, by first | exact Nat.le_of_ble_eq_true rfl | exact Nat.le_refl _ | omega⟩
        · repeat (first | exact trivial | refine And.intro (covS_syn (by first | rfl | (refine congrArg some (congrArg V.i ?_); omega)) rfl (by first | exact trivial | exact Nat.le_of_ble_eq_true rfl | exact hy | exact (fun p hp => nomatch hp) | (show (_ : Nat) < _; omega))) ?_ | refine And.intro (covS_bool rfl rfl (by first | rfl)) ?_)
        · repeat (first | exact trivial | refine And.intro (covE_id (Nat.le_of_ble_eq_true rfl) (by first | exact wf_ints _ _ | exact wf_bools _ _ | first | exact wf_sls _ _ _ (by omega) | exact wf_jobs _ _ | simp [C.wf]) rfl (by first | rfl)) ?_)
    · have hkl : k = a.length := by omega
      repeat ((conv => whnf); first | (refine And.intro (by first | omega | exact Nat.le_of_ble_eq_true rfl | (dsimp only [inK]; omega) | (simp only [mulS_eq]; omega) | (simp only [mulS_eq, setL_length]; omega) | (simp only [setL_length, List.length_map]; omega) | exact ⟨by omega, by omega, by first | exact Nat.le_of_ble_eq_true rfl | (dsimp only; omega) | (simp only [setL_length]; omega) | (simp only [setL_length, List.length_map]; omega)⟩ | exact ⟨by omega, by first | rfl | omega, by omega, Nat.le_of_ble_eq_true rfl, Nat.le_of_ble_eq_true rfl⟩ | exact ⟨rfl, rfl, rfl, Nat.le_of_ble_eq_true rfl, by first | rfl | omega | exact Nat.le_of_ble_eq_true rfl | (dsimp only; omega) | (simp; done) | (simp; omega), by first | rfl | omega | exact Nat.le_of_ble_eq_true rfl | (dsimp only; omega) | (simp; done) | (simp; omega), by omega, Nat.le_of_ble_eq_true rfl⟩ | exact Eq.refl true) ?_) | (refine Exists.intro _ (And.intro rfl ?_)) | (refine And.intro (And.intro rfl (chk_rowI _ _ _ _)) ?_) | (refine br_t (by omega) ?_) | (refine br_f (by omega) ?_) | (refine bs_t (by omega) ?_) | (refine bs_f (by omega) ?_) | (refine fun (K' : K3) hK' => ?_) | (refine hK' _ _ _ ?_; clear hK' K') | (refine draw_auto tok mixed (by kernel_rfl) ?_) | (refine bs_bt (Eq.refl true) ?_) | (refine bs_bf (Eq.refl false) ?_) | (refine br_bt (Eq.refl true) ?_) | (refine br_bf (Eq.refl false) ?_) | (refine CallK.m ?_) | (refine Two.l ?_) | (refine And.intro (And.intro rfl rfl) ?_))
      intro ρ; show Value.bool _ = Value.bool _
      have : a = b := by
        apply List.ext_getElem hab
        intro i hi hi2
        have := he i (by omega)
        simpa [List.getD_eq_getElem?_getD, hi, hi2] using this
      rw [decide_eq_true this]
end Go.Proofs.Ytjijjncddjkdlaa

/- Shore: the reference's asked, IsOrder. -/
namespace Go.Proofs.Ytjijjncddjkdlaa
open Go.RowKit
set_option linter.unusedVariables false
set_option linter.unusedSimpArgs false
end Go.Proofs.Ytjijjncddjkdlaa

