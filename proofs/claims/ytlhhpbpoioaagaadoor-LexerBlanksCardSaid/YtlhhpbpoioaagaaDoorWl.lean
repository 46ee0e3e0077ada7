import Derived.Test.YtlhhpbpoioaagaaDoorWk
import Derived.Test.YtlhhpbpoioaagaaDoorCaps
namespace Go.Proofs.YtlhhpbpoioaagaaDoor
set_option linter.unusedVariables false
set_option linter.unusedSimpArgs false
open Go.RowKit Go.Proofs.YtlhhpbpoioaagaaDoorW.PrintWords Go.Proofs.YtlhhpbpoioaagaaDoorW.PrintLast Go.Proofs.YtlhhpbpoioaagaaDoorW.PrintMore

def blB : Nat → ByteArray
  | 0 => ⟨#[]⟩
  | i + 1 => blB i ++ ⟨#[32]⟩
theorem blB_list : ∀ i, (blB i).data.toList = List.replicate i 32
  | 0 => rfl
  | i + 1 => by rw [blB, ByteArray.data_append, Array.toList_append, blB_list i, List.replicate_succ']
theorem blB_size (i : Nat) : (blB i).size = i := by rw [← size_list, blB_list]; simp
def moreB (s bl rm : ByteArray) : Nat → ByteArray
  | 0 => bl
  | i + 1 => if bx s i = 10 then moreB s bl rm i ++ bl ++ ⟨#[9, 35]⟩ ++ rm ++ ⟨#[10, 10]⟩ ++ bl else moreB s bl rm i ++ s.extract i (i + 1)
theorem moreB_list (s bl rm : ByteArray) : ∀ i, i ≤ s.size → (moreB s bl rm i).data.toList = bl.data.toList ++ (s.data.toList.take i).flatMap (wideB bl.data.toList rm.data.toList)
  | 0, _ => by simp [moreB]
  | i + 1, h => by
    have ih := moreB_list s bl rm i (by omega)
    have h1 : i < s.data.toList.length := by rw [size_list]; omega
    have h2 := bx_byte s i h1
    rw [moreB, List.take_succ_eq_append_getElem h1, List.flatMap_append, ← List.append_assoc, ← ih]
    by_cases c : bx s i = 10
    · rw [if_pos c]
      have h3 : s.data.toList[i] = 10 := (byte_ten _).1 (by rw [← h2]; exact c)
      simp [List.flatMap_cons, wideB, h3, ByteArray.data_append]
    · rw [if_neg c]
      have h3 : s.data.toList[i] ≠ 10 := fun h => c (by rw [h2, h]; rfl)
      have h4 : (s.extract i (i + 1)).data.toList = [s.data.toList[i]] := by
        rw [ByteArray.data_extract, Array.toList_extract, List.extract_eq_take_drop, List.drop_eq_getElem_cons h1]
        simp
      rw [ByteArray.data_append, Array.toList_append, h4]
      simp only [List.flatMap_cons, wideB, if_neg h3, List.flatMap_nil, List.append_nil]
theorem moreB_size (s bl rm : ByteArray) (hb : bl.size ≤ 20) (hr : rm.size ≤ 50) : ∀ i, (moreB s bl rm i).size ≤ 20 + 94 * i
  | 0 => by rw [moreB]; omega
  | i + 1 => by
    have ih := moreB_size s bl rm hb hr i
    rw [moreB]
    have e1 : (⟨#[9, 35]⟩ : ByteArray).size = 2 := rfl
    have e2 : (⟨#[10, 10]⟩ : ByteArray).size = 2 := rfl
    split
    · simp only [ByteArray.size_append, e1, e2]; omega
    · simp only [ByteArray.size_append, ByteArray.size_extract]; omega
theorem no10_of (rm : ByteArray) (h : ∀ q, q < rm.size → bx rm q ≠ 10) : ∀ b ∈ rm.data.toList, b ≠ 10 := by
  have := no_ten rm 0 rm.size (Nat.le_refl _) (fun q _ h2 => h q h2)
  simpa using this

set_option maxHeartbeats 8000000 in
set_option maxRecDepth 100000 in
theorem Blanks_calls (s rm : ByteArray) (n : Int) (hn64 : n ≤ 9223372036854775807) (m : Int) (w : World) (hm : w.cell? ⟨0, 0, none⟩ = some (.int .i64 m)) : Calls Tryd.prog 4 #[.string s, .string rm, .int .i64 n] w fun e w' => e = .returned (.bool true) ∧ Below w.heap.size w w' := by
  have ha := Lib.hid (awake_calls m w hm)
  have hm0 := Lib.hid hm
  have hm' := World.block_lt_of_cell? w _ hm
  clear hm
  by_cases h0 : 2000 < s.size
  · have h0' : (2000 : Int) < (s.size : Int) := by omega
    (go_enter Tryd.func4, Tryd.ntmps4; go_wp2_with fail; refine ha.out.mono ?_; rintro e w1 ⟨rfl, hb⟩; go_wp2; go_ret; exact ⟨rfl, hb⟩)
  have h0' : ¬ (2000 : Int) < (s.size : Int) := by omega
  by_cases h1 : 50 < rm.size
  · have h1' : (50 : Int) < (rm.size : Int) := by omega
    (go_enter Tryd.func4, Tryd.ntmps4; go_wp2_with fail; refine ha.out.mono ?_; rintro e w1 ⟨rfl, hb⟩; go_wp2; go_ret; exact ⟨rfl, hb⟩)
  have h1' : ¬ (50 : Int) < (rm.size : Int) := by omega
  by_cases h2 : n < 0
  · (go_enter Tryd.func4, Tryd.ntmps4; go_wp2_with fail; refine ha.out.mono ?_; rintro e w1 ⟨rfl, hb⟩; go_wp2; go_ret; exact ⟨rfl, hb⟩)
  by_cases h3 : 20 < n
  · (go_enter Tryd.func4, Tryd.ntmps4; go_wp2_with fail; refine ha.out.mono ?_; rintro e w1 ⟨rfl, hb⟩; go_wp2; go_ret; exact ⟨rfl, hb⟩)
  obtain ⟨N, rfl⟩ := Int.eq_ofNat_of_zero_le (Int.not_lt.1 h2)
  have hN : N ≤ 20 := by omega
  clear hn64
  go_enter Tryd.func4, Tryd.ntmps4
  go_wp2_with fail
  go_loopg [7, 8] N (fun kq v7 v8 w' => ∃ i : Nat, v8 = .int .i64 (i : Int) ∧ v7 = .string (blB i) ∧ Hid (N - i = kq) ∧ Hid (i ≤ N) ∧ w = w')
  case atStart => exact ⟨0, rfl, rfl, Lib.hid rfl, Lib.hid (Nat.zero_le _), rfl⟩
  case round =>
    obtain ⟨i, rfl, rfl, hk, hi, rfl⟩ := hrel
    have hbs := blB_size i
    by_cases c1 : i < N
    · have c1' : (i : Int) < (N : Int) := by omega
      obtain ⟨k1, rfl⟩ : ∃ k1, gk = k1 + 1 := ⟨gk - 1, by have := hk.out; omega⟩
      have q1 : ¬ 9223372036854775807 < (blB i).size + 1 := by omega
      have hbs' := Lib.hid hbs; clear hbs
      go_wp2_with fail
      go_roundg k1
      case measure => omega
      case rel => exact ⟨i + 1, by simp, rfl, Lib.hid (by have := hk.out; omega), Lib.hid (by omega), rfl⟩
    · have c1' : ¬ (i : Int) < (N : Int) := by omega
      have hbb : ∀ b ∈ (blB i).data.toList, b = 32 := by rw [blB_list]; exact fun b hb => List.eq_of_mem_replicate hb
      have hb20 : (blB i).size ≤ 20 := by have := hi.out; omega
      clear hbs hk hi c1
      generalize blB i = bl at hbb hb20
      have hbb' := Lib.hid hbb; clear hbb
      go_wp2_with fail
      go_loopg [9] rm.size (fun kq v9 w' => ∃ i : Nat, v9 = .int .i64 (i : Int) ∧ Hid (rm.size - i = kq) ∧ Hid (i ≤ rm.size) ∧ Hid (∀ q, q < i → bx rm q ≠ 10) ∧ w = w')
      case atStart => exact ⟨0, rfl, Lib.hid rfl, Lib.hid (Nat.zero_le _), Lib.hid (fun q h => absurd h (Nat.not_lt_zero _)), rfl⟩
      case round =>
        obtain ⟨j, rfl, hk, hj, hno, rfl⟩ := hrel
        by_cases c2 : j < rm.size
        · have hx := bx_read (s := rm) (i := j)
          have c2' : (j : Int) < (rm.size : Int) := by omega
          obtain ⟨k1, rfl⟩ : ∃ k1, gk = k1 + 1 := ⟨gk - 1, by have := hk.out; omega⟩
          by_cases c3 : bx rm j = 10
          · go_wp2_with fail
            refine ha.out.mono ?_
            rintro e w1 ⟨rfl, hb⟩
            go_wp2
            go_ret
            exact ⟨rfl, hb⟩
          · go_wp2_with fail
            go_roundg k1
            case measure => omega
            case rel =>
              refine ⟨j + 1, by simp, Lib.hid (by have := hk.out; omega), Lib.hid (by omega), Lib.hid fun q hq => ?_, rfl⟩
              rcases Nat.lt_or_ge q j with h | h
              · exact hno.out q h
              · rw [show q = j by omega]; exact c3
        · have c2' : ¬ (j : Int) < (rm.size : Int) := by omega
          obtain rfl : j = rm.size := by have := hj.out; omega
          have hrm := Lib.hid (no10_of rm hno.out)
          clear hk hj hno
          go_wp2_with fail
          go_loopg [10, 11, 12] s.size (fun kq v10 v11 v12 w' => ∃ i : Nat, v12 = .int .i64 (i : Int) ∧ v10 = .int .i64 (longOf s i : Int) ∧ v11 = .string (moreB s bl rm i) ∧ Hid (s.size - i = kq) ∧ Hid (i ≤ s.size) ∧ Hid (∀ q, q ≤ i → longOf s q ≤ 900) ∧ w = w')
          case atStart => exact ⟨0, rfl, rfl, rfl, Lib.hid rfl, Lib.hid (Nat.zero_le _), Lib.hid (fun q h => by rw [show q = 0 by omega]; exact Nat.zero_le _), rfl⟩
          case round =>
            obtain ⟨i, rfl, rfl, rfl, hk, hi, hlo, rfl⟩ := hrel
            have hms := moreB_size s bl rm hb20 (by omega) i
            have hl9 := hlo.out i (Nat.le_refl _)
            by_cases c4 : i < s.size
            · have hx := bx_read (s := s) (i := i)
              have c4' : (i : Int) < (s.size : Int) := by omega
              obtain ⟨k1, rfl⟩ : ∃ k1, gk = k1 + 1 := ⟨gk - 1, by have := hk.out; omega⟩
              by_cases c5 : bx s i = 10
              · have e1 : moreB s bl rm (i + 1) = moreB s bl rm i ++ bl ++ ⟨#[9, 35]⟩ ++ rm ++ ⟨#[10, 10]⟩ ++ bl := by rw [moreB, if_pos c5]
                have e2 : longOf s (i + 1) = 0 := by rw [longOf, if_pos c5]
                have e1' := Lib.hid e1; clear e1
                have e2' := Lib.hid e2; clear e2
                generalize moreB s bl rm i = M at *
                generalize longOf s i = lo at *
                have q1 : ¬ 9223372036854775807 < M.size + bl.size := by omega
                have q2 : ¬ 9223372036854775807 < M.size + bl.size + 2 := by omega
                have q3 : ¬ 9223372036854775807 < M.size + bl.size + 2 + rm.size := by omega
                have q4 : ¬ 9223372036854775807 < M.size + bl.size + 2 + rm.size + 2 := by omega
                have q5 : ¬ 9223372036854775807 < M.size + bl.size + 2 + rm.size + 2 + bl.size := by omega
                go_wp2_with fail
                go_roundg k1
                case measure => omega
                case rel =>
                  refine ⟨i + 1, by simp, by rw [e2'.out]; rfl, by rw [e1'.out], Lib.hid (by have := hk.out; omega), Lib.hid (by omega), Lib.hid fun q hq => ?_, rfl⟩
                  rcases Nat.lt_or_ge q (i + 1) with h | h
                  · exact hlo.out q (by omega)
                  · rw [show q = i + 1 by omega, e2'.out]; omega
              · have e1 : moreB s bl rm (i + 1) = moreB s bl rm i ++ s.extract i (i + 1) := by rw [moreB, if_neg c5]
                have e2 : longOf s (i + 1) = longOf s i + 1 := by rw [longOf, if_neg c5]
                have e1' := Lib.hid e1; clear e1
                have e2' := Lib.hid e2; clear e2
                generalize moreB s bl rm i = M at *
                generalize longOf s i = lo at *
                have q1 : ¬ 9223372036854775807 < M.size + (s.extract i (i + 1)).size := by rw [size_ext _ _ _ (by omega)]; omega
                have q2 : ¬ 9223372036854775807 < M.size + (i + 1 - i) := by omega
                have q3 : ¬ 9223372036854775807 < M.size + 1 := by omega
                by_cases c6 : 900 < lo + 1
                · have c6' : (900 : Int) < (lo : Int) + 1 := by omega
                  go_wp2_with fail
                  refine ha.out.mono ?_
                  rintro e w1 ⟨rfl, hb⟩
                  go_wp2
                  go_ret
                  exact ⟨rfl, hb⟩
                · have c6' : ¬ (900 : Int) < (lo : Int) + 1 := by omega
                  go_wp2_with fail
                  go_roundg k1
                  case measure => omega
                  case rel =>
                    refine ⟨i + 1, by simp, by rw [e2'.out]; simp, by rw [e1'.out], Lib.hid (by have := hk.out; omega), Lib.hid (by omega), Lib.hid fun q hq => ?_, rfl⟩
                    rcases Nat.lt_or_ge q (i + 1) with h | h
                    · exact hlo.out q (by omega)
                    · rw [show q = i + 1 by omega, e2'.out]; omega
            · have c4' : ¬ (i : Int) < (s.size : Int) := by omega
              obtain rfl : i = s.size := by have := hi.out; omega
              have hML := moreB_list s bl rm s.size (Nat.le_refl _)
              rw [List.take_of_length_le (by rw [size_list]; exact Nat.le_refl _)] at hML
              generalize moreB s bl rm s.size = M at *
              have hML' := Lib.hid hML; clear hML
              have q1 : ¬ 9223372036854775807 < M.size + 1 := by omega
              have q2 : ¬ 9223372036854775807 < M.size + 1 + rm.size := by omega
              have hsz : (M ++ ⟨#[35]⟩ ++ rm).size = M.size + 1 + rm.size := by simp only [ByteArray.size_append]; rfl
              by_cases c7 : 65536 < M.size + 1 + rm.size
              · have c7' : (65536 : Int) < (M.size : Int) + 1 + (rm.size : Int) := by omega
                clear hsz
                go_wp2_with fail
                refine ha.out.mono ?_
                rintro e w1 ⟨rfl, hb⟩
                go_wp2
                go_ret
                exact ⟨rfl, hb⟩
              · have c7' : ¬ (65536 : Int) < (M.size : Int) + 1 + (rm.size : Int) := by omega
                obtain ⟨hE, hS⟩ := blanks_same s (M ++ ⟨#[35]⟩ ++ rm) bl rm (by simp only [ByteArray.data_append, Array.toList_append, hML'.out]; simp) hbb'.out hb20 hrm.out (by omega) hlo.out (by omega) (by rw [hsz]; omega)
                have hs1 := Lib.hid (Scan_calls s m w hm0.out)
                have hs2 := Lib.hid (fun W hW => Scan_calls (M ++ ⟨#[35]⟩ ++ rm) m W hW)
                have hc1 := scanT_room s
                generalize scanT s = R at hE hS hs1 hc1
                generalize scanT (M ++ ⟨#[35]⟩ ++ rm) = R2 at hE hS hs2
                obtain ⟨r1, r2, r3, L⟩ := R
                obtain ⟨r1', r2', r3', L'⟩ := R2
                dsimp only at hE hS hc1
                subst hE
                have hS' := Lib.hid hS; clear hS
                clear hsz
                go_wp2_with fail
                refine hs1.out.mono ?_
                rintro e w1 ⟨v, rfl, hv, hb⟩
                obtain ⟨A, c, rfl⟩ := own_slice hv
                dsimp only at hv ⊢
                have hv1 := Lib.hid (hv.alloc (.cells #[.int .i64 r1, .int .i64 r2] 25))
                have hB := Lib.hid (hb.alloc hb.size (.cells #[.int .i64 r1, .int .i64 r2] 25))
                have hz := hb.size
                clear hv hb
                go_wp2_with fail
                refine (hs2.out _ (by rw [Below.cell hB.out hm']; exact hm0.out)).mono ?_
                rintro e w2 ⟨v', rfl, hv', hb2⟩
                obtain ⟨A', c', rfl⟩ := own_slice hv'
                dsimp only at hv' ⊢
                have hv2 := Lib.hid ((own_later hv1.out hb2).alloc (.cells #[.int .i64 r1', .int .i64 r2'] 25))
                have hv2' := Lib.hid (hv'.alloc (.cells #[.int .i64 r1', .int .i64 r2'] 25))
                have hz2 := hb2.size
                have hB2 := Lib.hid ((hB.out.trans (hb2.mono (by simp; omega))).alloc (by simp at hz2; omega) (.cells #[.int .i64 r1', .int .i64 r2'] 25))
                clear hv' hb2 hv1 hB
                go_wp2_with fail
                refine (same_calls L L' hS'.out _ _ A A' c c' _ (by exact hv2.out) (by exact hv2'.out) (by omega)).mono ?_
                rintro e w3 ⟨rfl, hb3⟩
                have hB3 := Lib.hid (hB2.out.trans (hb3.mono hB2.out.size))
                have ha3 := Lib.hid (awake_calls m w3 (by rw [Below.cell hB3.out hm']; exact hm0.out))
                clear hb3
                go_wp2_with fail
                refine ha3.out.mono ?_
                rintro e w4 ⟨rfl, hb4⟩
                go_wp2
                go_ret
                exact ⟨rfl, hB3.out.trans (hb4.mono hB3.out.size)⟩
end Go.Proofs.YtlhhpbpoioaagaaDoor
