import Derived.Test.YtefhjioeceadlaaDoorProg
import Derived.WalkKit
import Derived.WalkSpells
import Derived.WalkLawsBesides
import Derived.Laws.StructEq
import Derived.Lib.Hide
import Derived.LoopN
namespace Go.Proofs.YtefhjioeceadlaaDoor
open Go.RowKit

theorem eq22d (n : Nat) (a b c d : Int) (w : World) : (Op.equalIn (n + 2) 22 (.agg #[.int .i64 a, .int .i64 b]) (.agg #[.int .i64 c, .int .i64 d])).run Tryd.prog w = .ok (a == c && b == d) w := by
  have u3 := Tryd.underlying3
  have h22 : Tryd.prog.underlying 22 = some (.array 2 3) := by kernel_rfl
  have a3 := Tryd.isAgg3
  have z3 := Tryd.sizeOf3
  unfold Op.equalIn
  simp only [Sem.run_bind, run_underlying h22, Result.andThen_ok, z3]
  simp [Std.Legacy.Range.forIn_eq_forIn_range', go_sem, a3, u3, List.range'_succ]
  by_cases h1 : a = c <;> by_cases h2 : b = d <;> simp [h1, h2]
theorem eq22 (a b c d : Int) (w : World) : (binOp .eql 22 (.agg #[.int .i64 a, .int .i64 b]) (.agg #[.int .i64 c, .int .i64 d])).run Tryd.prog w = .ok (.bool (a == c && b == d)) w := by
  rw [run_eql_struct, eq22d 9998]; rfl

/-- Quiet: the first run's code is 0 or 1. -/
def quietB (c0 : Int) : Bool := c0 == 0 || c0 == 1
def sameB (c0 c1 y0 y1 a o : Int) : Bool := c0 == c1 && (y0 == y1 && (a == -1 && o == -1))
def holdsB (l : Bool) (c0 c1 y0 y1 a o g n : Int) : Bool := if !l || !quietB c0 then true else if g == -1 then sameB c0 c1 y0 y1 a o else a == -1 || decide (n ≤ a)
def fitsB (c0 c1 y0 y1 a o g n : Int) : Bool := decide (0 ≤ c0 ∧ c0 ≤ 3 ∧ 0 ≤ y0 ∧ 0 ≤ c1 ∧ c1 ≤ 3 ∧ 0 ≤ y1 ∧ -1 ≤ a ∧ -1 ≤ o ∧ -1 ≤ g ∧ -1 ≤ n)

set_option maxHeartbeats 400000 in
theorem quiet_c (l : Bool) (c0 c1 y0 y1 a o g n : Int) (w : World) :
    Calls Tryd.prog 6 #[.agg #[.bool l, .int .i64 c0, .int .i64 c1, .int .i64 y0, .int .i64 y1, .int .i64 a, .int .i64 o, .int .i64 g, .int .i64 n]] w fun e w' => e = .returned (.bool (quietB c0)) ∧ Below w.heap.size w w' := by
  go_enter Tryd.func6, Tryd.ntmps6
  go_wp2
  all_goals (go_ret; exact ⟨by simp [quietB, *], (by repeat (first | exact Below.refl _ _ | refine Below.drew ?_ | refine Below.alloc ?_ (by simp <;> omega) _ | refine Below.setCell ?_ (by simp <;> omega) _ | assumption | (refine Below.trans ?_ (Below.mono (by assumption) (by simp <;> omega)))))⟩)

set_option maxHeartbeats 400000 in
theorem quiet_r (l : Bool) (c0 c1 y0 y1 a o g n : Int) (w : World) :
    Calls Tryd.prog 7 #[.agg #[.bool l, .int .i64 c0, .int .i64 c1, .int .i64 y0, .int .i64 y1, .int .i64 a, .int .i64 o, .int .i64 g, .int .i64 n]] w fun e w' => e = .returned (.bool (quietB c0)) ∧ Below w.heap.size w w' := by
  go_enter Tryd.func7, Tryd.ntmps7
  go_wp2
  all_goals (go_ret; exact ⟨by simp [quietB, *], (by repeat (first | exact Below.refl _ _ | refine Below.drew ?_ | refine Below.alloc ?_ (by simp <;> omega) _ | refine Below.setCell ?_ (by simp <;> omega) _ | assumption | (refine Below.trans ?_ (Below.mono (by assumption) (by simp <;> omega)))))⟩)

set_option maxHeartbeats 400000 in
theorem same_c (l : Bool) (c0 c1 y0 y1 a o g n : Int) (w : World) :
    Calls Tryd.prog 8 #[.agg #[.bool l, .int .i64 c0, .int .i64 c1, .int .i64 y0, .int .i64 y1, .int .i64 a, .int .i64 o, .int .i64 g, .int .i64 n]] w fun e w' => e = .returned (.bool (sameB c0 c1 y0 y1 a o)) ∧ Below w.heap.size w w' := by
  have he := eq22
  go_enter Tryd.func8, Tryd.ntmps8
  go_wp2
  · rename_i h1 h2; obtain ⟨h3, h4⟩ := h1; go_ret; exact ⟨by simp [sameB, h2, h3, h4], (by repeat (first | exact Below.refl _ _ | refine Below.drew ?_ | refine Below.alloc ?_ (by simp <;> omega) _ | refine Below.setCell ?_ (by simp <;> omega) _ | assumption | (refine Below.trans ?_ (Below.mono (by assumption) (by simp <;> omega)))))⟩
  · rename_i h1 h2; go_ret; exact ⟨by simp [sameB, h2], (by repeat (first | exact Below.refl _ _ | refine Below.drew ?_ | refine Below.alloc ?_ (by simp <;> omega) _ | refine Below.setCell ?_ (by simp <;> omega) _ | assumption | (refine Below.trans ?_ (Below.mono (by assumption) (by simp <;> omega)))))⟩
  · rename_i h1; go_ret; refine ⟨?_, (by repeat (first | exact Below.refl _ _ | refine Below.drew ?_ | refine Below.alloc ?_ (by simp <;> omega) _ | refine Below.setCell ?_ (by simp <;> omega) _ | assumption | (refine Below.trans ?_ (Below.mono (by assumption) (by simp <;> omega)))))⟩; simp [sameB]; intro h2 h3; exact absurd ⟨h2, h3⟩ h1

set_option maxHeartbeats 400000 in
theorem same_r (l : Bool) (c0 c1 y0 y1 a o g n : Int) (w : World) :
    Calls Tryd.prog 9 #[.agg #[.bool l, .int .i64 c0, .int .i64 c1, .int .i64 y0, .int .i64 y1, .int .i64 a, .int .i64 o, .int .i64 g, .int .i64 n]] w fun e w' => e = .returned (.bool (sameB c0 c1 y0 y1 a o)) ∧ Below w.heap.size w w' := by
  go_enter Tryd.func9, Tryd.ntmps9
  go_wp2
  all_goals (go_ret; exact ⟨by simp [sameB, *], (by repeat (first | exact Below.refl _ _ | refine Below.drew ?_ | refine Below.alloc ?_ (by simp <;> omega) _ | refine Below.setCell ?_ (by simp <;> omega) _ | assumption | (refine Below.trans ?_ (Below.mono (by assumption) (by simp <;> omega)))))⟩)

set_option maxHeartbeats 400000 in
theorem plain_c (l : Bool) (c0 c1 y0 y1 a o g n : Int) (w : World) :
    Calls Tryd.prog 4 #[.agg #[.bool l, .int .i64 c0, .int .i64 c1, .int .i64 y0, .int .i64 y1, .int .i64 a, .int .i64 o, .int .i64 g, .int .i64 n]] w fun e w' => e = .returned (.agg #[.bool l, .int .i64 c0, .int .i64 c1, .int .i64 y0, .int .i64 y1, .int .i64 a, .int .i64 o, .int .i64 g, .int .i64 n]) ∧ Below w.heap.size w w' := by
  go_enter Tryd.func4, Tryd.ntmps4
  go_wp2
  exact bodyPost_ret (v := .agg #[.bool l, .int .i64 c0, .int .i64 c1, .int .i64 y0, .int .i64 y1, .int .i64 a, .int .i64 o, .int .i64 g, .int .i64 n]) (by simp [results, Tryd.results4, go_sem]) rfl ⟨rfl, (by repeat (first | exact Below.refl _ _ | refine Below.drew ?_ | refine Below.alloc ?_ (by simp <;> omega) _ | refine Below.setCell ?_ (by simp <;> omega) _ | assumption | (refine Below.trans ?_ (Below.mono (by assumption) (by simp <;> omega)))))⟩

theorem bcell {W w1 : World} (hb : Below W.heap.size W w1) : (∀ b o, b < W.heap.size → w1.cell? ⟨b, o, none⟩ = W.cell? ⟨b, o, none⟩) :=
  fun b o h => hb.cell (p := ⟨b, o, none⟩) h

set_option maxHeartbeats 400000 in
theorem holds_c (l : Bool) (c0 c1 y0 y1 a o g n : Int) (w : World) :
    Calls Tryd.prog 10 #[.agg #[.bool l, .int .i64 c0, .int .i64 c1, .int .i64 y0, .int .i64 y1, .int .i64 a, .int .i64 o, .int .i64 g, .int .i64 n]] w fun e w' => e = .returned (.bool (holdsB l c0 c1 y0 y1 a o g n)) ∧ Below w.heap.size w w' := by
  cases l with
  | false =>
    go_enter Tryd.func10, Tryd.ntmps10
    go_wp2
    go_ret
    exact ⟨by simp [holdsB], (by repeat (first | exact Below.refl _ _ | refine Below.drew ?_ | refine Below.alloc ?_ (by simp <;> omega) _ | refine Below.setCell ?_ (by simp <;> omega) _ | assumption | (refine Below.trans ?_ (Below.mono (by assumption) (by simp <;> omega)))))⟩
  | true =>
    cases hq : quietB c0 with
    | false =>
      have hq' := Lib.hid hq; clear hq
      go_enter Tryd.func10, Tryd.ntmps10
      go_wp2_with (go_at_call 6; refine (quiet_c _ _ _ _ _ _ _ _ _ _).mono ?_; rintro e w' ⟨rfl, hb⟩; rw [hq'.out])
      go_ret
      exact ⟨by simp [holdsB, hq'.out], (by repeat (first | exact Below.refl _ _ | refine Below.drew ?_ | refine Below.alloc ?_ (by simp <;> omega) _ | refine Below.setCell ?_ (by simp <;> omega) _ | assumption | (refine Below.trans ?_ (Below.mono (by assumption) (by simp <;> omega)))))⟩
    | true =>
      have hq' := Lib.hid hq; clear hq
      go_enter Tryd.func10, Tryd.ntmps10
      go_wp2_with (first | (go_at_call 6; refine (quiet_c _ _ _ _ _ _ _ _ _ _).mono ?_; rintro e w' ⟨rfl, hb⟩; rw [hq'.out]; have hc := bcell hb; have hz : w.heap.size + 1 ≤ w'.heap.size := by have := hb.size; simpa using this) | (go_at_call 8; refine (same_c _ _ _ _ _ _ _ _ _ _).mono ?_; rintro e w'' ⟨rfl, hb2⟩; have hb3 := hb.trans (hb2.mono hb.size)))
      all_goals (go_ret; exact ⟨by simp [holdsB, hq'.out, *], (by repeat (first | exact Below.refl _ _ | refine Below.drew ?_ | refine Below.alloc ?_ (by simp <;> omega) _ | refine Below.setCell ?_ (by simp <;> omega) _ | assumption | (refine Below.trans ?_ (Below.mono (by assumption) (by simp <;> omega)))))⟩)

set_option maxHeartbeats 1000000 in
theorem fits_r (l : Bool) (c0 c1 y0 y1 a o g n : Int) (w : World) :
    Calls Tryd.prog 12 #[.agg #[.bool l, .int .i64 c0, .int .i64 c1, .int .i64 y0, .int .i64 y1, .int .i64 a, .int .i64 o, .int .i64 g, .int .i64 n]] w fun e w' => e = .returned (.bool (fitsB c0 c1 y0 y1 a o g n)) ∧ Below w.heap.size w w' := by
  go_enter Tryd.func12, Tryd.ntmps12
  go_wp2
  refine wp_loop_rounds 3 ?_
  rw [rounds_succ]
  go_wp2
  all_goals (try (rw [rounds_succ]; go_wp2))
  all_goals (try (rw [rounds_succ]; go_wp2))
  all_goals (go_ret; refine ⟨?_, (by repeat (first | exact Below.refl _ _ | refine Below.drew ?_ | refine Below.alloc ?_ (by simp <;> omega) _ | refine Below.setCell ?_ (by simp <;> omega) _ | assumption | (refine Below.trans ?_ (Below.mono (by assumption) (by simp <;> omega)))))⟩; first | (simp [fitsB]; omega) | (refine congrArg (fun b => Ending.returned (.bool b)) ?_; rw [Bool.eq_iff_iff]; simp [fitsB]; omega))
end Go.Proofs.YtefhjioeceadlaaDoor
