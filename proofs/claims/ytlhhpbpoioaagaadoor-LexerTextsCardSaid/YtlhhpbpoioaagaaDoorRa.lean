/- Own text: the printed functions of the document's answer tell what the plain spec tells. -/
import Derived.Test.YtlhhpbpoioaagaaDoorPc
import Derived.Test.YtlhhpbpoioaagaaDoorSpec
import Derived.IntWalk
namespace Go.Proofs.YtlhhpbpoioaagaaDoor
set_option linter.unusedVariables false
set_option linter.unusedSimpArgs false
open Go.RowKit Go.Proofs.YtlhhpbpoioaagaaDoorW.PrintWords Go.Proofs.YtlhhpbpoioaagaaDoorW.PrintLast Go.Proofs.YtlhhpbpoioaagaaDoorW.PrintMore PLexerScans

theorem bt_bx (s : ByteArray) (i : Nat) : bt s (i : Int) = bx s i := by unfold bt bx; simp
theorem wrap_small (x : Int) (h : -100000 ≤ x) (h2 : x ≤ 100000000) : wrap64 x = x := by unfold wrap64; omega

theorem ref_letter (b : Int) : cochinealref06_letter.f b = some (isLet b) := by
  unfold cochinealref06_letter.f isLet
  by_cases h : 97 ≤ b <;> simp [h]
theorem ref_digit (k : Nat) (b : Int) (hb : 0 ≤ b ∧ b ≤ 255) : cochinealref06_Digit.f (k + 1) b = some (digI b) := by
  unfold cochinealref06_Digit.f digI
  simp only [cochinealref06_Digit.j0]
  have e : wrap64 b = b := wrap_small _ (by omega) (by omega)
  rw [e]
  have e1 : wrap64 (b - 48) = b - 48 := wrap_small _ (by omega) (by omega)
  have e2 : wrap64 (b - 87) = b - 87 := wrap_small _ (by omega) (by omega)
  rw [e1, e2]
  by_cases h1 : 48 ≤ b
  · by_cases h2 : b ≤ 57
    · simp [h1, h2]
    · by_cases h3 : 97 ≤ b
      · by_cases h4 : b ≤ 102 <;> simp [h1, h2, h3, h4]
      · simp [h1, h2, h3]
  · have h3 : ¬ 97 ≤ b := by omega
    simp [h1, h3]
theorem ref_glued (k : Nat) (s : ByteArray) (i : Nat) : cochinealref06_glued.f (k + 1) s (i : Int) = some (glue s i) := by
  unfold cochinealref06_glued.f glue
  rw [bt_bx, ref_letter, ref_digit k _ (bx_range s i)]
  by_cases h1 : i < s.size
  · have h1' : (i : Int) < (s.size : Int) := by omega
    have h2 : (0 : Int) ≤ (i : Int) := by omega
    by_cases h3 : isLet (bx s i) = true <;> by_cases h4 : digI (bx s i) < 10 <;> simp [h1, h1', h2, h3, h4]
  · have h1' : ¬ (i : Int) < (s.size : Int) := by omega
    simp [h1, h1']
theorem wordTo_step {s : ByteArray} {k i : Nat} (h : i < s.size ∧ isLet (bx s i) = true) : wordTo s (k + 1) i = wordTo s k (i + 1) := by rw [wordTo, if_pos h]
theorem wordTo_stop {s : ByteArray} {k i : Nat} (h : ¬ (i < s.size ∧ isLet (bx s i) = true)) : wordTo s k i = i := by
  cases k with
  | zero => rfl
  | succ k => rw [wordTo, if_neg h]
theorem numTo_step {s : ByteArray} {base : Int} {k i : Nat} {n : Int} (h : i < s.size ∧ digI (bx s i) < base) : numTo s base (k + 1) i n = numTo s base k (i + 1) (min (n * base + digI (bx s i)) 65536) := by rw [numTo, if_pos h]
theorem numTo_stop {s : ByteArray} {base : Int} {k i : Nat} {n : Int} (h : ¬ (i < s.size ∧ digI (bx s i) < base)) : numTo s base k i n = (n, i) := by
  cases k with
  | zero => rfl
  | succ k => rw [numTo, if_neg h]
theorem mul_room {n base : Int} (hn : 0 ≤ n) (hn2 : n ≤ 65536) (hb : 0 ≤ base) (hb2 : base ≤ 16) : 0 ≤ n * base ∧ n * base ≤ 1048576 :=
  ⟨Int.mul_nonneg hn hb, by have := Int.mul_le_mul hn2 hb2 hb (by omega); omega⟩
theorem mn_min (x : Int) : mn 65536 x = min x 65536 := by unfold mn; split <;> omega
theorem min_room {x : Int} (h : 0 ≤ x) : 0 ≤ min x 65536 ∧ min x 65536 ≤ 65536 := by omega
theorem sub_step {a i : Nat} (h : i < a) : a - i = (a - (i + 1)) + 1 := by omega
theorem sub_less {a i k : Nat} (h : a - i < k + 1) (h1 : i < a) : a - (i + 1) < k := by omega
theorem wrap_mul {n base : Int} (hn : 0 ≤ n) (hn2 : n ≤ 65536) (hb : 0 ≤ base) (hb2 : base ≤ 16) : wrap64 (n * base) = n * base := by
  have h := mul_room hn hn2 hb hb2
  exact wrap_small _ (by omega) (by omega)
theorem wrap_mul2 {n base x : Int} (hn : 0 ≤ n) (hn2 : n ≤ 65536) (hb : 0 ≤ base) (hb2 : base ≤ 16) (hx : 0 ≤ x) (hx2 : x ≤ 15) : wrap64 (n * base + x) = n * base + x := by
  have h := mul_room hn hn2 hb hb2
  exact wrap_small _ (by omega) (by omega)
theorem room_next {n base x : Int} (hn : 0 ≤ n) (hn2 : n ≤ 65536) (hb : 0 ≤ base) (hb2 : base ≤ 16) (hx : 0 ≤ x) : 0 ≤ min (n * base + x) 65536 ∧ min (n * base + x) 65536 ≤ 65536 := by
  have h := mul_room hn hn2 hb hb2
  exact min_room (by omega)
theorem num_more (s : ByteArray) (base : Int) (hb : 0 ≤ base) (hb2 : base ≤ 16) (hs : s.size ≤ 70000) (k i : Nat) (n : Int) (hn : 0 ≤ n) (hn2 : n ≤ 65536) (h1 : i < s.size) (h3 : digI (bx s i) < base) :
    cochinealref06_number.l0 (k + 2) s (i : Int) base n = cochinealref06_number.l0 (k + 1) s ((i + 1 : Nat) : Int) base (min (n * base + digI (bx s i)) 65536) := by
  have h4 := digI_range (b := bx s i) (by omega)
  have e3 : wrap64 ((i : Int) + 1) = ((i + 1 : Nat) : Int) := by rw [wrap_small _ (by omega) (by omega)]; simp
  rw [cochinealref06_number.l0, if_pos (show (i : Int) < (s.size : Int) by omega), if_pos (show (0 : Int) ≤ (i : Int) by omega), bt_bx, ref_digit k _ (bx_range s i)]
  rw [Option.bind_some, if_pos h3, Option.bind_some, wrap_mul hn hn2 hb hb2, wrap_mul2 hn hn2 hb hb2 h4.1 h4.2, e3, mn_min]
theorem num_stop (s : ByteArray) (base : Int) (k i : Nat) (n : Int) (h : ¬ (i < s.size ∧ digI (bx s i) < base)) : cochinealref06_number.l0 (k + 2) s (i : Int) base n = some (n, (i : Int)) := by
  rw [cochinealref06_number.l0]
  by_cases h1 : i < s.size
  · have h3 : ¬ digI (bx s i) < base := fun e => h ⟨h1, e⟩
    rw [if_pos (show (i : Int) < (s.size : Int) by omega), if_pos (show (0 : Int) ≤ (i : Int) by omega), bt_bx, ref_digit k _ (bx_range s i)]
    rw [Option.bind_some, if_neg h3]
  · rw [if_neg (show ¬ (i : Int) < (s.size : Int) by omega)]
theorem ref_number (s : ByteArray) (base : Int) (hb : 0 ≤ base) (hb2 : base ≤ 16) (hs : s.size ≤ 70000) : ∀ (k i : Nat) (n : Int), s.size - i < k → 0 ≤ n → n ≤ 65536 → cochinealref06_number.l0 (k + 1) s (i : Int) base n = some ((numTo s base (s.size - i) i n).1, ((numTo s base (s.size - i) i n).2 : Int)) := by
  intro k
  induction k with
  | zero => intro i n h _ _; exact absurd h (Nat.not_lt_zero _)
  | succ k ihk =>
    intro i n h hn hn2
    by_cases h1 : i < s.size ∧ digI (bx s i) < base
    · have h4 := digI_range (b := bx s i) (Int.lt_of_lt_of_le h1.2 (Int.le_trans hb2 (by decide)))
      have h5 := room_next hn hn2 hb hb2 h4.1
      have ih := ihk (i + 1) (min (n * base + digI (bx s i)) 65536) (sub_less h h1.1) h5.1 h5.2
      rw [num_more s base hb hb2 hs k i n hn hn2 h1.1 h1.2, sub_step h1.1, numTo_step h1]
      exact ih
    · rw [num_stop s base k i n h1, numTo_stop h1]
theorem ref_word (s : ByteArray) (a : Nat) (hs : s.size ≤ 70000) : ∀ (k i : Nat), a ≤ i → i ≤ s.size → s.size - i < k →
    cochinealref06_One.l0 (k + 1) s (a : Int) (i : Int) = if glue s (wordTo s (s.size - i) i) = true then some (0, ⟨#[]⟩, 0, 0, 0, 0, 11) else some (1, s.extract a (wordTo s (s.size - i) i), 0, 0, 0, ((wordTo s (s.size - i) i : Nat) : Int), 0)
  | 0, i, _, _, h => absurd h (Nat.not_lt_zero _)
  | k + 1, i, ha, hi, h => by
    rw [cochinealref06_One.l0]
    by_cases h1 : i < s.size
    · rw [if_pos (show (i : Int) < (s.size : Int) by omega), if_pos (show (0 : Int) ≤ (i : Int) by omega), bt_bx, ref_letter, Option.bind_some]
      by_cases h3 : isLet (bx s i) = true
      · have e3 : wrap64 ((i : Int) + 1) = ((i + 1 : Nat) : Int) := by rw [wrap_small _ (by omega) (by omega)]; simp
        rw [if_pos h3, e3, show s.size - i = (s.size - (i + 1)) + 1 by omega, wordTo_step ⟨h1, h3⟩]
        exact ref_word s a hs k (i + 1) (by omega) (by omega) (by omega)
      · rw [if_neg h3, wordTo_stop (fun h => h3 h.2), ref_glued k s i, Option.bind_some, if_pos (show (0 : Int) ≤ (a : Int) by omega), if_pos (show (a : Int) ≤ (i : Int) by omega), if_pos (show (i : Int) ≤ (s.size : Int) by omega)]
        rfl
    · rw [if_neg (show ¬ (i : Int) < (s.size : Int) by omega), wordTo_stop (fun h => h1 h.1), ref_glued k s i, Option.bind_some, if_pos (show (0 : Int) ≤ (a : Int) by omega), if_pos (show (a : Int) ≤ (i : Int) by omega), if_pos (show (i : Int) ≤ (s.size : Int) by omega)]
      rfl
theorem ref_num (s : ByteArray) (base : Int) (hb : 0 ≤ base ∧ base ≤ 16) (hs : s.size ≤ 70000) (i : Nat) (hi : i ≤ s.size) (k : Nat) (hk : s.size + 3 ≤ k) :
    cochinealref06_One.j1 (k + 1) s (i : Int) base = some ((numT s base i).kind, (numT s base i).text, (numT s base i).n, 0, 0, ((numT s base i).fin : Int), (numT s base i).err) := by
  obtain ⟨k, rfl⟩ : ∃ m, k = m + 2 := ⟨k - 2, by omega⟩
  have h1 := ref_number s base hb.1 hb.2 hs (k + 1) i 0 (by omega) (by omega) (by omega)
  have h2 := numTo_range s base hb.1 (s.size - i) i 0 (by omega) (by omega)
  rw [cochinealref06_One.j1, show cochinealref06_number.f (k + 2) s (i : Int) base = cochinealref06_number.l0 (k + 2) s (i : Int) base 0 from rfl, h1, Option.bind_some]
  dsimp only
  unfold numT
  generalize numTo s base (s.size - i) i 0 = R at *
  rw [ref_glued (k + 1) s R.2]
  by_cases c1 : R.2 = i
  · rw [if_pos (show (R.2 : Int) = (i : Int) by omega), if_pos (.inl c1), cochinealref06_One.j2, if_pos rfl]; rfl
  · rw [if_neg (show ¬ (R.2 : Int) = (i : Int) by omega), Option.bind_some, cochinealref06_One.j2]
    by_cases c2 : glue s R.2 = true
    · rw [if_pos c2, if_pos (.inr c2)]; rfl
    · rw [if_neg c2, if_neg (not_or.2 ⟨c1, c2⟩)]
      by_cases c3 : 65535 < R.1
      · rw [if_pos (show R.1 > 65535 from c3), if_pos c3]; rfl
      · rw [if_neg (show ¬ R.1 > 65535 from c3), if_neg c3]
/-- The document's One tells what the plain one tells. -/
theorem ref_one (s : ByteArray) (hs : s.size ≤ 70000) (i : Nat) (hi : i < s.size) :
    cochinealref06_One.f (s.size + 5) s (i : Int) = some ((oneT s i).kind, (oneT s i).text, (oneT s i).n, 0, 0, ((oneT s i).fin : Int), (oneT s i).err) := by
  have hi' : (i : Int) < (s.size : Int) := by omega
  have e1 : wrap64 ((i : Int) + 1) = ((i + 1 : Nat) : Int) := by rw [wrap_small _ (by omega) (by omega)]; simp
  have e2 : wrap64 ((i : Int) + 2) = ((i + 2 : Nat) : Int) := by rw [wrap_small _ (by omega) (by omega)]; simp
  unfold cochinealref06_One.f oneT
  rw [if_pos (show (0 : Int) ≤ (i : Int) by omega), if_pos hi', bt_bx, ref_letter, Option.bind_some]
  by_cases c1 : isLet (bx s i) = true
  · rw [if_pos c1, if_pos c1, ref_word s i hs (s.size + 4) i (Nat.le_refl _) (by omega) (by omega)]
    unfold wordT
    split <;> rfl
  · rw [if_neg c1, if_neg c1]
    by_cases c2 : bx s i = 46
    · rw [if_pos c2, if_pos c2, e1, e2]
      by_cases c3 : i + 1 < s.size
      · rw [if_pos (show ((i + 1 : Nat) : Int) < (s.size : Int) by omega), if_pos (show (0 : Int) ≤ ((i + 1 : Nat) : Int) by omega), bt_bx]
        by_cases c4 : bx s (i + 1) = 46
        · rw [if_pos c4, if_pos c4]
        · rw [if_neg c4, if_neg c4]; rfl
      · rw [if_neg (show ¬ ((i + 1 : Nat) : Int) < (s.size : Int) by omega), if_neg (by rw [bx_out (by omega)]; omega)]; rfl
    · rw [if_neg c2, if_neg c2]
      by_cases c3 : bx s i = 36
      · rw [if_pos c3, if_pos c3, e1]
        exact ref_num s 16 (by omega) hs (i + 1) (by omega) (s.size + 4) (by omega)
      · rw [if_neg c3, if_neg c3, show s.size + 5 = (s.size + 4) + 1 by omega, ref_digit _ _ (bx_range s i), Option.bind_some]
        by_cases c4 : digI (bx s i) < 10
        · rw [if_neg (show ¬ digI (bx s i) > 9 by omega), if_pos c4]
          exact ref_num s 10 (by omega) hs i (by omega) (s.size + 4) (by omega)
        · rw [if_pos (show digI (bx s i) > 9 by omega), if_neg c4]; rfl
end Go.Proofs.YtlhhpbpoioaagaaDoor
