import Derived.Test.YtlhhpbpoioaagaaDoorTx
namespace Go.Proofs.YtlhhpbpoioaagaaDoor
set_option linter.unusedVariables false
set_option linter.unusedSimpArgs false
open Go.RowKit Go.Proofs.YtlhhpbpoioaagaaDoorW.PrintWords Go.Proofs.YtlhhpbpoioaagaaDoorW.PrintLast Go.Proofs.YtlhhpbpoioaagaaDoorW.PrintMore

theorem refLetter (b : Int) (w : World) : Calls Tryd.prog 35 #[.int .u8 b] w fun e w' => e = .returned (.bool (isLet b)) ∧ w' = w := by
  by_cases h1 : 97 ≤ b
  · by_cases h2 : b ≤ 122
    · go_enter Tryd.func35, Tryd.ntmps35
      go_wp2
      go_ret
      exact ⟨by simp [isLet, h1, h2], rfl⟩
    · go_enter Tryd.func35, Tryd.ntmps35
      go_wp2
      go_ret
      exact ⟨by simp [isLet, h1, h2], rfl⟩
  · go_enter Tryd.func35, Tryd.ntmps35
    go_wp2
    go_ret
    exact ⟨by simp [isLet]; omega, rfl⟩

set_option maxHeartbeats 1000000 in
set_option maxRecDepth 100000 in
theorem refText_calls (k : Int) (tx : ByteArray) (htx : tx.size ≤ 100000) (n a b : Int) (w : World) : Calls Tryd.prog 17 #[.agg #[.int .i64 k, .string tx, .int .i64 n, .int .i64 a, .int .i64 b]] w (TextPost (textT k tx n) w) := by
  obtain ⟨R, hR⟩ : ∃ R, textT k tx n = R := ⟨_, rfl⟩
  rw [hR]
  unfold textT at hR
  by_cases k1 : k = 1
  · subst k1
    rw [if_pos rfl] at hR
    have hbx := Lib.hid (blk_new w (.cells #[.int .i64 1, .string tx, .int .i64 n, .int .i64 a, .int .i64 b] 34))
    have hR' := Lib.hid hR; clear hR
    obtain ⟨r, hr⟩ : ∃ r, Hid (w.heap.size = r) := ⟨_, Lib.hid rfl⟩
    go_enter Tryd.func17, Tryd.ntmps17
    go_wp2_with fail
    obtain ⟨W, hW⟩ : ∃ W, Hid (w.alloc (.cells #[.int .i64 1, .string tx, .int .i64 n, .int .i64 a, .int .i64 b] 34) = W) := ⟨_, Lib.hid rfl⟩
    rw [hW.out] at hbx
    have hB := Lib.hid (show Below w.heap.size w W by rw [← hW.out]; exact (Below.refl _ w).alloc (Nat.le_refl _) _)
    rw [hW.out]
    have h1 : W.cell? ⟨w.heap.size, 1, none⟩ = some (.string tx) := (blk_cell hbx.out 1).trans rfl
    go_loopg [4] tx.size (fun kq v4 w' => ∃ i : Nat, v4 = .int .i64 (i : Int) ∧ Hid (tx.size - i = kq) ∧ Hid (i ≤ tx.size) ∧ Hid (letFrom tx kq i = allLet tx) ∧ W = w')
    case atStart => exact ⟨0, rfl, Lib.hid rfl, Lib.hid (Nat.zero_le _), Lib.hid rfl, rfl⟩
    case round =>
      obtain ⟨i, rfl, hk, hi, hl, rfl⟩ := hrel
      by_cases c1 : i < tx.size
      · have hx := bx_read (s := tx) (i := i)
        have c1' : (i : Int) < (tx.size : Int) := by omega
        obtain ⟨k1, rfl⟩ : ∃ k1, gk = k1 + 1 := ⟨gk - 1, by have := hk.out; omega⟩
        have hlo := hl.out
        rw [letFrom, if_pos c1] at hlo
        by_cases c2 : isLet (bx tx i) = true
        · rw [c2, Bool.true_and] at hlo
          have hlo' := Lib.hid hlo; clear hlo
          go_wp2_with fail
          refine (refLetter (bx tx i) _).mono ?_
          rintro e w1 ⟨rfl, rfl⟩
          rw [c2]
          go_wp2_with fail
          go_roundg k1
          case measure => omega
          case rel => exact ⟨i + 1, by simp, Lib.hid (by have := hk.out; omega), Lib.hid (by omega), hlo', rfl⟩
        · have c3 : isLet (bx tx i) = false := by simpa using c2
          rw [c3, Bool.false_and] at hlo
          have hfin := Lib.hid (show (⟨#[]⟩, 11) = R by rw [← hR'.out, if_pos (.inr hlo.symm)])
          clear hlo c2
          go_wp2_with fail
          refine (refLetter (bx tx i) _).mono ?_
          rintro e w1 ⟨rfl, rfl⟩
          rw [c3]
          go_wp2_with fail
          go_ret2
          rw [← hfin.out]
          exact ⟨rfl, hB.out⟩
      · have c1' : ¬ (i : Int) < (tx.size : Int) := by omega
        have hlo := hl.out
        rw [show gk = 0 by have := hk.out; omega, letFrom] at hlo
        by_cases c2 : tx.size = 0
        · have c2' : (tx.size : Int) = 0 := by omega
          have hfin := Lib.hid (show (⟨#[]⟩, 11) = R by rw [← hR'.out, if_pos (.inl c2)])
          clear hlo c2
          go_wp2_with fail
          go_ret2
          rw [← hfin.out]
          exact ⟨rfl, hB.out⟩
        · have c2' : ((tx.size : Int) == 0) = false := by rw [beq_eq_false_iff_ne]; omega
          have hfin := Lib.hid (show (tx, 0) = R by rw [← hR'.out, if_neg (not_or.2 ⟨c2, by rw [← hlo]; decide⟩)])
          clear hlo c2
          go_wp2_with fail
          go_ret2
          rw [← hfin.out]
          exact ⟨rfl, hB.out⟩
  · have k1' : (k == 1) = false := by simp [k1]
    rw [if_neg k1] at hR
    by_cases k2 : k = 2
    · subst k2
      rw [if_pos rfl] at hR
      by_cases c1 : n < 0 ∨ 65535 < n
      · rw [if_pos c1] at hR
        have hR' := Lib.hid hR; clear hR
        rcases c1 with c1 | c1
        · go_enter Tryd.func17, Tryd.ntmps17
          go_wp2_with fail
          go_ret2
          rw [← hR'.out]
          exact ⟨rfl, by (repeat (first | exact Below.refl _ _ | refine Below.drew ?_ | refine Below.alloc ?_ (by simp <;> omega) _ | refine Below.setCell ?_ (by simp <;> omega) _))⟩
        · have c2 : ¬ n < 0 := by omega
          go_enter Tryd.func17, Tryd.ntmps17
          go_wp2_with fail
          go_ret2
          rw [← hR'.out]
          exact ⟨rfl, by (repeat (first | exact Below.refl _ _ | refine Below.drew ?_ | refine Below.alloc ?_ (by simp <;> omega) _ | refine Below.setCell ?_ (by simp <;> omega) _))⟩
      · rw [if_neg c1] at hR
        obtain ⟨c2, c3⟩ := not_or.1 c1
        obtain ⟨N, rfl⟩ := Int.eq_ofNat_of_zero_le (Int.not_lt.1 c2)
        rw [Int.toNat_natCast] at hR
        have c4 : (N : Int) ≤ 65535 := Int.not_lt.1 c3
        have c5 : (0 : Int) ≤ (N : Int) := by omega
        have c7 : (256 : Int) ≤ (N : Int) ∨ (N : Int) ≤ 255 := by omega
        by_cases c6 : (N : Int) < 256
        · rw [if_pos c6] at hR
          have c8 : ¬ (255 : Int) < (N : Int) := by omega
          have hh := Lib.hid (fun W => refHex_calls N 2 (by omega) (by omega) W)
          have hz := hexTo_size 2 N ⟨#[]⟩
          generalize hexTo 2 N ⟨#[]⟩ = H at *
          have q1 : ¬ 9223372036854775807 < 1 + H.size := by rw [hz]; decide
          have hz' := Lib.hid hz; clear hz
          have hR' := Lib.hid hR; clear hR c1 c6 c7
          go_enter Tryd.func17, Tryd.ntmps17
          go_wp2_with fail
          refine (hh.out _).mono ?_
          rintro e w1 ⟨rfl, hb⟩
          go_wp2_with fail
          go_ret2
          rw [← hR'.out]
          exact ⟨rfl, ((Below.refl _ w).alloc (Nat.le_refl _) _).trans (hb.mono (by simp))⟩
        · rw [if_neg c6] at hR
          have c8 : (255 : Int) < (N : Int) := by omega
          have hh := Lib.hid (fun W => refHex_calls N 4 (by omega) (by omega) W)
          have hz := hexTo_size 4 N ⟨#[]⟩
          generalize hexTo 4 N ⟨#[]⟩ = H at *
          have q1 : ¬ 9223372036854775807 < 1 + H.size := by rw [hz]; decide
          have hz' := Lib.hid hz; clear hz
          have hR' := Lib.hid hR; clear hR c1 c6 c7
          go_enter Tryd.func17, Tryd.ntmps17
          go_wp2_with fail
          refine (hh.out _).mono ?_
          rintro e w1 ⟨rfl, hb⟩
          go_wp2_with fail
          go_ret2
          rw [← hR'.out]
          exact ⟨rfl, ((Below.refl _ w).alloc (Nat.le_refl _) _).trans (hb.mono (by simp))⟩
    · have k2' : (k == 2) = false := by simp [k2]
      rw [if_neg k2] at hR
      by_cases k3 : k = 3
      · subst k3
        rw [if_pos rfl] at hR
        have hR' := Lib.hid hR; clear hR
        go_enter Tryd.func17, Tryd.ntmps17
        go_wp2_with fail
        go_ret2
        rw [← hR'.out]
        exact ⟨rfl, by (repeat (first | exact Below.refl _ _ | refine Below.drew ?_ | refine Below.alloc ?_ (by simp <;> omega) _ | refine Below.setCell ?_ (by simp <;> omega) _))⟩
      · have k3' : (k == 3) = false := by simp [k3]
        rw [if_neg k3] at hR
        by_cases k4 : k = 4
        · subst k4
          rw [if_pos rfl] at hR
          have hR' := Lib.hid hR; clear hR
          go_enter Tryd.func17, Tryd.ntmps17
          go_wp2_with fail
          go_ret2
          rw [← hR'.out]
          exact ⟨rfl, by (repeat (first | exact Below.refl _ _ | refine Below.drew ?_ | refine Below.alloc ?_ (by simp <;> omega) _ | refine Below.setCell ?_ (by simp <;> omega) _))⟩
        · have k4' : (k == 4) = false := by simp [k4]
          rw [if_neg k4] at hR
          have hR' := Lib.hid hR; clear hR
          go_enter Tryd.func17, Tryd.ntmps17
          go_wp2_with fail
          go_ret2
          rw [← hR'.out]
          exact ⟨rfl, by (repeat (first | exact Below.refl _ _ | refine Below.drew ?_ | refine Below.alloc ?_ (by simp <;> omega) _ | refine Below.setCell ?_ (by simp <;> omega) _))⟩
end Go.Proofs.YtlhhpbpoioaagaaDoor
