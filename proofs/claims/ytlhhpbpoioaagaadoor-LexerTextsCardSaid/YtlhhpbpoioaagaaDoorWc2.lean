import Derived.Test.YtlhhpbpoioaagaaDoorWa
import Derived.Test.YtlhhpbpoioaagaaDoorLines
namespace Go.Proofs.YtlhhpbpoioaagaaDoor
set_option linter.unusedVariables false
set_option linter.unusedSimpArgs false
open Go.RowKit

theorem bx_list (s : ByteArray) (i : Nat) : s.data.toList[i]? = if i < s.size then some (UInt8.ofNat (bx s i).toNat) else none := by
  unfold bx
  by_cases h : i < s.size
  · rw [if_pos h, dif_pos h]
    have h2 : i < s.data.toList.length := by rw [Array.length_toList]; exact h
    rw [List.getElem?_eq_getElem h2]
    congr 1
    have : s.data.toList[i] = s[i] := by simp [ByteArray.getElem_eq_getElem_data]
    rw [this]
    simp
  · rw [if_neg h]
    exact List.getElem?_eq_none (by rw [Array.length_toList]; exact Nat.le_of_not_lt h)
theorem dots_is (s : ByteArray) (i : Nat) : Lib.hasPrefix (s.extract i s.size).data.toList [46, 46] = (decide (bx s i = 46) && decide (bx s (i + 1) = 46)) := by
  rw [extract_bytes]
  have h0 : (s.data.toList.drop i)[0]? = if i < s.size then some (UInt8.ofNat (bx s i).toNat) else none := by simpa using bx_list s i
  have h1 : (s.data.toList.drop i)[1]? = if i + 1 < s.size then some (UInt8.ofNat (bx s (i + 1)).toNat) else none := by simpa using bx_list s (i + 1)
  have key : ∀ b : Int, 0 ≤ b ∧ b ≤ 255 → (UInt8.ofNat b.toNat == 46) = decide (b = 46) := by
    intro b hb
    have : ∀ k : Fin 256, (UInt8.ofNat k.val == 46) = decide ((k.val : Int) = 46) := by decide +kernel
    have := this ⟨b.toNat, by omega⟩
    rw [this, Int.toNat_of_nonneg hb.1]
  have k0 := key _ (bx_range s i)
  have k1 := key _ (bx_range s (i + 1))
  cases hd : s.data.toList.drop i with
  | nil =>
    rw [hd] at h0
    have : ¬ i < s.size := by intro h; rw [if_pos h] at h0; cases h0
    rw [bx_out (by omega)]
    rfl
  | cons a t =>
    rw [hd] at h0 h1
    have hi : i < s.size := by rcases Nat.lt_or_ge i s.size with h | h; · exact h
                               · rw [if_neg (by omega)] at h0; cases h0
    rw [if_pos hi] at h0
    simp only [List.getElem?_cons_zero, Option.some.injEq] at h0
    cases t with
    | nil =>
      have : ¬ i + 1 < s.size := by intro h; rw [if_pos h] at h1; simp at h1
      rw [bx_out (i := i + 1) (by omega)]
      simp [Lib.hasPrefix, List.isPrefixOf]
    | cons c t =>
      have hi1 : i + 1 < s.size := by rcases Nat.lt_or_ge (i + 1) s.size with h | h; · exact h
                                      · rw [if_neg (by omega)] at h1; simp at h1
      rw [if_pos hi1] at h1
      simp only [List.getElem?_cons_succ, List.getElem?_cons_zero, Option.some.injEq] at h1
      rw [← k0, ← k1, h0, h1]
      rw [BEq.comm (a := UInt8.ofNat (bx s i).toNat), BEq.comm (a := UInt8.ofNat (bx s (i + 1)).toNat)]
      simp [Lib.hasPrefix, List.isPrefixOf]
end Go.Proofs.YtlhhpbpoioaagaaDoor
