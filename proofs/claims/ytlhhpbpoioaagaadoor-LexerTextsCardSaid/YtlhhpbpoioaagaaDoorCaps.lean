import Derived.Test.YtlhhpbpoioaagaaDoorWh
namespace Go.Proofs.YtlhhpbpoioaagaaDoor
set_option linter.unusedVariables false
set_option linter.unusedSimpArgs false
theorem linesT_room : ∀ (ss : List ByteArray) (n : Int) (l : List Tok), (linesT ss n l).2.2.2.length ≤ l.length + 1001 * ss.length
  | [], n, l => by simp [linesT]
  | s :: ss, n, l => by
    rw [linesT_cons]
    split
    · simp
    · split
      · simp
      · have h1 := linesT_room ss (n + 1) (l ++ (lineR s n 0 0 []).2.2)
        have h2 := lineR_len s n
        rename_i h3 h4
        rw [List.length_append] at h1
        simp only [List.length_cons]
        omega
theorem scanT_room (s : ByteArray) : (scanT s).2.2.2.length ≤ 1001 * 65537 := by
  unfold scanT
  split
  · simp
  · have h1 := linesT_room (linesOf s) 1 []
    have h2 := linesOf_le s
    rename_i h3
    simp only [List.length_nil] at h1
    have : 1001 * (linesOf s).length ≤ 1001 * 65537 := Nat.mul_le_mul_left _ (by omega)
    omega
end Go.Proofs.YtlhhpbpoioaagaaDoor
