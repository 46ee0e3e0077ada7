/- Own text: a text's lines by their places, and where lines begin: plain. -/
import Derived.Test.YtlhhpbpoioaagaaDoorSpec
import Derived.Lib.SplitLaws
import Derived.Lib.CutLaws
namespace Go.Proofs.YtlhhpbpoioaagaaDoor
set_option linter.unusedVariables false
set_option linter.unusedSimpArgs false
open Go

theorem extract_bytes (s : ByteArray) (i : Nat) : (s.extract i s.size).data.toList = s.data.toList.drop i := by
  have h : s.data.size = s.size := rfl
  rw [ByteArray.data_extract, ← h]
  simp [List.take_of_length_le]

def lf : ByteArray := ⟨#[10]⟩
def linesOf (s : ByteArray) : List ByteArray := Lib.splitB lf 0 (Lib.countB s lf) s
theorem linesOf_len (s : ByteArray) : (linesOf s).length = Lib.countB s lf + 1 := Lib.splitB_all lf (by decide) 0 _ s rfl
theorem linesOf_le (s : ByteArray) : (linesOf s).length ≤ s.size + 1 := by
  rw [linesOf_len]; have := Lib.countB_le lf (by decide) s.size s (Nat.le_refl _); omega

/-- The first line feed from i on. -/
def lfTo (s : ByteArray) : Nat → Nat → Nat
  | 0, i => i
  | k + 1, i => if i < s.size ∧ bx s i ≠ 10 then lfTo s k (i + 1) else i
def lfAt (s : ByteArray) (i : Nat) : Nat := lfTo s (s.size - i) i
theorem lfTo_le (s : ByteArray) : ∀ k i, i ≤ lfTo s k i
  | 0, _ => Nat.le_refl _
  | k + 1, i => by unfold lfTo; split <;> first | exact Nat.le_trans (Nat.le_succ i) (lfTo_le s k (i + 1)) | exact Nat.le_refl _
theorem lfTo_size (s : ByteArray) : ∀ k i, i ≤ s.size → lfTo s k i ≤ s.size
  | 0, _, h => h
  | k + 1, i, h => by unfold lfTo; split <;> first | (rename_i h1; exact lfTo_size s k (i + 1) h1.1) | exact h
theorem lfTo_no (s : ByteArray) : ∀ k i q, i ≤ q → q < lfTo s k i → bx s q ≠ 10
  | 0, i, q, h1, h2 => by unfold lfTo at h2; omega
  | k + 1, i, q, h1, h2 => by
    unfold lfTo at h2
    split at h2
    · rename_i h3
      by_cases h4 : i = q
      · rw [← h4]; exact h3.2
      · exact lfTo_no s k (i + 1) q (by omega) h2
    · omega
theorem lfTo_is (s : ByteArray) : ∀ k i, s.size - i ≤ k → lfTo s k i < s.size → bx s (lfTo s k i) = 10
  | 0, i, h, h2 => by unfold lfTo at h2; omega
  | k + 1, i, h, h2 => by
    unfold lfTo at h2 ⊢
    split
    · rename_i h3
      rw [if_pos h3] at h2
      exact lfTo_is s k (i + 1) (by omega) h2
    · rename_i h3
      rw [if_neg h3] at h2
      rcases Decidable.not_and_iff_or_not.1 h3 with h4 | h4
      · omega
      · exact Decidable.not_not.1 h4
theorem lfTo_any (s : ByteArray) (i : Nat) : ∀ k, s.size - i ≤ k → lfTo s k i = lfAt s i := by
  have key : ∀ k i, s.size - i ≤ k → lfTo s (k + 1) i = lfTo s k i := by
    intro k
    induction k with
    | zero => intro i h; unfold lfTo; rw [if_neg (by omega)]
    | succ k ih =>
      intro i h
      rw [lfTo]
      conv => rhs; rw [lfTo]
      split
      · exact ih (i + 1) (by omega)
      · rfl
  intro k
  induction k with
  | zero => intro h; unfold lfAt; rw [show s.size - i = 0 by omega]
  | succ k ih =>
    intro h
    rcases Nat.lt_or_ge k (s.size - i) with h1 | h1
    · unfold lfAt; rw [show k + 1 = s.size - i by omega]
    · rw [key k i h1]; exact ih h1
theorem lfAt_le (s : ByteArray) (i : Nat) : i ≤ lfAt s i := lfTo_le s _ i
theorem lfAt_size (s : ByteArray) (i : Nat) (h : i ≤ s.size) : lfAt s i ≤ s.size := lfTo_size s _ i h
theorem lfAt_no (s : ByteArray) (i q : Nat) (h1 : i ≤ q) (h2 : q < lfAt s i) : bx s q ≠ 10 := lfTo_no s _ i q h1 h2
theorem lfAt_is (s : ByteArray) (i : Nat) (h : lfAt s i < s.size) : bx s (lfAt s i) = 10 := lfTo_is s _ i (Nat.le_refl _) h
/-- Where no line feed stands ahead of j, and one at j, or the end. -/
theorem lfAt_eq (s : ByteArray) (i j : Nat) (hij : i ≤ j) (hj : j ≤ s.size) (hno : ∀ q, i ≤ q → q < j → bx s q ≠ 10) (h : j = s.size ∨ bx s j = 10) : lfAt s i = j := by
  have h1 := lfAt_le s i
  have h2 := lfAt_size s i (by omega)
  rcases Nat.lt_trichotomy (lfAt s i) j with h3 | h3 | h3
  · exact absurd (lfAt_is s i (by omega)) (hno _ h1 h3)
  · exact h3
  · rcases h with h4 | h4
    · omega
    · exact absurd h4 (lfAt_no s i j hij h3)

/-- The lines from a place on. -/
def linesFrom (s : ByteArray) : Nat → Nat → List ByteArray
  | 0, i => [s.extract i s.size]
  | k + 1, i => if s.size ≤ lfAt s i then [s.extract i s.size] else s.extract i (lfAt s i) :: linesFrom s k (lfAt s i + 1)

theorem bx_byte (s : ByteArray) (i : Nat) (h : i < s.data.toList.length) : bx s i = ((s.data.toList[i]).toNat : Int) := by
  have h2 : i < s.size := by rw [Array.length_toList] at h; exact h
  unfold bx
  rw [dif_pos h2]
  simp [ByteArray.getElem_eq_getElem_data]
theorem byte_ten (b : UInt8) : ((b.toNat : Int) = 10) ↔ b = 10 := by
  constructor
  · intro h
    have h2 : b.toNat = (10 : UInt8).toNat := by have : (10 : UInt8).toNat = 10 := rfl; omega
    exact UInt8.toNat_inj.1 h2
  · intro h; subst h; rfl
theorem index_cons_ne (b c : UInt8) (l : List UInt8) (h : b ≠ c) : Lib.index (b :: l) [c] = if Lib.index l [c] == -1 then -1 else Lib.index l [c] + 1 := by
  have hp : ([c] : List UInt8).isPrefixOf (b :: l) = false := by simp [List.isPrefixOf, Ne.symm h]
  rw [Lib.index, hp]; simp
theorem index_cons_eq (c : UInt8) (l : List UInt8) : Lib.index (c :: l) [c] = 0 := by rw [Lib.index]; simp [List.isPrefixOf]
theorem size_list (s : ByteArray) : s.data.toList.length = s.size := by rw [Array.length_toList]; rfl
theorem lfTo_step {s : ByteArray} {k i : Nat} (h : i < s.size ∧ bx s i ≠ 10) : lfTo s (k + 1) i = lfTo s k (i + 1) := by rw [lfTo, if_pos h]
theorem lfTo_stop {s : ByteArray} {k i : Nat} (h : ¬ (i < s.size ∧ bx s i ≠ 10)) : lfTo s (k + 1) i = i := by rw [lfTo, if_neg h]
theorem index_lf (s : ByteArray) : ∀ k i, i ≤ s.size → s.size - i ≤ k → Lib.index (s.data.toList.drop i) [10] = if s.size ≤ lfTo s k i then -1 else ((lfTo s k i - i : Nat) : Int)
  | 0, i, h, h2 => by
    rw [List.drop_of_length_le (by rw [size_list]; omega)]
    unfold lfTo
    rw [if_pos (by omega)]
    simp [Lib.index]
  | k + 1, i, h, h2 => by
    by_cases h3 : i < s.size
    · have h4 : i < s.data.toList.length := by rw [size_list]; exact h3
      rw [List.drop_eq_getElem_cons h4]
      by_cases h5 : bx s i = 10
      · have h6 : s.data.toList[i] = 10 := (byte_ten _).1 (by rw [← bx_byte s i h4]; exact h5)
        rw [h6, index_cons_eq, lfTo_stop (fun h => h.2 h5), if_neg (by omega)]
        simp
      · have h6 : s.data.toList[i] ≠ 10 := fun h => h5 (by rw [bx_byte s i h4]; exact (byte_ten _).2 h)
        rw [index_cons_ne _ _ _ h6, index_lf s k (i + 1) (by omega) (by omega), lfTo_step ⟨h3, h5⟩]
        have h7 := lfTo_le s k (i + 1)
        generalize lfTo s k (i + 1) = e at *
        by_cases h8 : s.size ≤ e
        · simp [h8]
        · rw [if_neg h8, if_neg h8, if_neg (by simp)]
          omega
    · rw [List.drop_of_length_le (by rw [size_list]; omega), lfTo_stop (fun h => h3 h.1), if_pos (by omega)]
      simp [Lib.index]
theorem indexB_lf (s : ByteArray) (i : Nat) (h : i ≤ s.size) : Lib.indexB (s.extract i s.size) lf = if s.size ≤ lfAt s i then -1 else ((lfAt s i - i : Nat) : Int) := by
  unfold Lib.indexB
  rw [extract_bytes]
  exact index_lf s _ i h (Nat.le_refl _)

theorem split_from (s : ByteArray) : ∀ k i, i ≤ s.size → s.size - i ≤ k → Lib.splitB lf 0 (Lib.countB (s.extract i s.size) lf) (s.extract i s.size) = linesFrom s k i := by
  intro k
  induction k with
  | zero =>
    intro i h h2
    have h3 := lfAt_le s i
    have h4 := indexB_lf s i h
    rw [if_pos (by omega)] at h4
    rw [Lib.splitB_miss lf 0 _ _ h4]; rfl
  | succ k ih =>
    intro i h h2
    have h3 := lfAt_le s i
    have h4 := indexB_lf s i h
    unfold linesFrom
    by_cases h5 : s.size ≤ lfAt s i
    · rw [if_pos h5] at h4 ⊢
      rw [Lib.splitB_miss lf 0 _ _ h4]
    · rw [if_neg h5] at h4 ⊢
      have hl : lf.size = 1 := rfl
      rw [Lib.countB_hit _ lf _ (by decide) h4, Nat.add_comm, Lib.splitB_hit lf 0 _ _ _ h4]
      have e1 : (s.extract i s.size).extract 0 (lfAt s i - i + 0) = s.extract i (lfAt s i) := by
        rw [ByteArray.extract_extract]; congr 1; omega
      have e2 : (s.extract i s.size).extract (lfAt s i - i + lf.size) (s.extract i s.size).size = s.extract (lfAt s i + 1) s.size := by
        rw [ByteArray.extract_extract, ByteArray.size_extract, hl]; congr 1 <;> omega
      rw [e1, e2, ih (lfAt s i + 1) (by omega) (by omega)]
theorem linesOf_from (s : ByteArray) : linesOf s = linesFrom s s.size 0 := by
  have h := split_from s s.size 0 (Nat.zero_le _) (by omega)
  rw [show s.extract 0 s.size = s by simp] at h
  exact h
theorem linesFrom_end (s : ByteArray) (k i : Nat) (h : s.size ≤ lfAt s i) : linesFrom s k i = [s.extract i s.size] := by
  cases k with
  | zero => rfl
  | succ k => unfold linesFrom; rw [if_pos h]

/-- What Scan tells: (line, column, error, tokens). -/
def scanT (s : ByteArray) : Int × Int × Int × List Tok := if 65536 < s.size then (0, 0, 12, []) else linesT (linesOf s) 1 []
theorem linesT_cons (s : ByteArray) (ss : List ByteArray) (n : Int) (l : List Tok) : linesT (s :: ss) n l = if 1000 < s.size then (n, 1001, 12, [])
    else if (lineR s n 0 0 []).1 ≠ 0 then (n, ((lineR s n 0 0 []).2.1 : Int) + 1, (lineR s n 0 0 []).1, [])
    else linesT ss (n + 1) (l ++ (lineR s n 0 0 []).2.2) := by rw [linesT]; rfl
end Go.Proofs.YtlhhpbpoioaagaaDoor
