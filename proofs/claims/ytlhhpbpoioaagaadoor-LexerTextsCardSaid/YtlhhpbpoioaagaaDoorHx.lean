import Derived.Test.YtlhhpbpoioaagaaDoorBld
import Derived.Laws.IdiomStrings
namespace Go.Proofs.YtlhhpbpoioaagaaDoor
set_option linter.unusedVariables false
set_option linter.unusedSimpArgs false
open Go.RowKit Go.Proofs.YtlhhpbpoioaagaaDoorW.PrintWords Go.Proofs.YtlhhpbpoioaagaaDoorW.PrintLast Go.Proofs.YtlhhpbpoioaagaaDoorW.PrintMore

/-- A digit's byte. -/
def hexOne (d : Nat) : ByteArray := if d < 10 then ⟨#[UInt8.ofNat (48 + d)]⟩ else ⟨#[UInt8.ofNat (87 + d)]⟩
def hexTo : Nat → Nat → ByteArray → ByteArray
  | 0, _, o => o
  | k + 1, n, o => hexTo k (n / 16) (hexOne (n % 16) ++ o)
theorem hexOne_size (d : Nat) : (hexOne d).size = 1 := by unfold hexOne; split <;> rfl
def hexDigits : ByteArray := ⟨#[48, 49, 50, 51, 52, 53, 54, 55, 56, 57, 97, 98, 99, 100, 101, 102]⟩
theorem hexDigits_at : ∀ d : Fin 16, ((hexDigits.extract d.val 16).extract 0 1) = hexOne d.val := by
  intro d
  refine ByteArray.ext (Array.ext' ?_)
  revert d
  decide +kernel
theorem hexTo_size : ∀ (k n : Nat) (o : ByteArray), (hexTo k n o).size = k + o.size
  | 0, _, o => by simp [hexTo]
  | k + 1, n, o => by rw [hexTo, hexTo_size k, ByteArray.size_append, hexOne_size]; omega

set_option maxHeartbeats 1000000 in
set_option maxRecDepth 100000 in
theorem hex_calls (n m : Nat) (hn : n ≤ 65535) (hm : m ≤ 4) (w : World) : Calls Tryd.prog 34 #[.int .i64 (n : Int), .int .i64 (m : Int)] w fun e w' => e = .returned (.string (hexTo m n ⟨#[]⟩)) ∧ w = w' := by
  obtain ⟨R, hR⟩ : ∃ R, Hid (hexTo m n ⟨#[]⟩ = R) := ⟨_, Lib.hid rfl⟩
  rw [hR.out]
  go_enter Tryd.func34, Tryd.ntmps34
  go_wp2_with fail
  go_loopg [0, 5, 7] m (fun kq v0 v5 v7 w' => ∃ (j x : Nat) (o : ByteArray), v7 = .int .i64 (j : Int) ∧ v0 = .int .i64 (x : Int) ∧ v5 = .string o ∧ Hid (x ≤ 65535) ∧ Hid (o.size = j) ∧ Hid (m - j = kq) ∧ Hid (j ≤ m) ∧ Hid (hexTo (m - j) x o = R) ∧ w = w')
  case atStart => exact ⟨0, n, ⟨#[]⟩, rfl, rfl, rfl, Lib.hid hn, Lib.hid rfl, Lib.hid rfl, Lib.hid (Nat.zero_le _), hR, rfl⟩
  case round =>
    obtain ⟨j, x, o, rfl, rfl, rfl, hx, ho, hk, hj, hr, rfl⟩ := hrel
    by_cases c1 : j < m
    · have c1' : (j : Int) < (m : Int) := by omega
      obtain ⟨k1, rfl⟩ : ∃ k1, gk = k1 + 1 := ⟨gk - 1, by have := hk.out; omega⟩
      have x0 : (0 : Int) ≤ (x : Int) := by omega
      have x1 : (x : Int) ≤ 65535 := by have := hx.out; omega
      have x2 : (x : Int) % 16 < 16 := by omega
      have x3 : 0 ≤ (x : Int) % 16 := by omega
      have q1 : ¬ 9223372036854775807 < 1 + o.size := by have := ho.out; omega
      have hd := hexDigits_at ⟨x % 16, by omega⟩
      unfold hexDigits at hd
      dsimp only at hd
      have hd' := Lib.hid hd; clear hd
      go_wp2_with fail
      go_roundg k1
      case measure => omega
      case rel => exact ⟨j + 1, x / 16, hexOne (x % 16) ++ o, by simp, by simp, by rw [hd'.out], Lib.hid (by have := hx.out; omega), Lib.hid (by rw [ByteArray.size_append, hexOne_size, ho.out]; omega), Lib.hid (by have := hk.out; omega), Lib.hid (by omega), Lib.hid (by have := hr.out; rwa [show m - j = (m - (j + 1)) + 1 by omega, hexTo] at this), rfl⟩
    · have c1' : ¬ (j : Int) < (m : Int) := by omega
      have e := hr.out
      rw [show m - j = 0 by omega, hexTo] at e
      subst e
      go_wp2_with fail
      go_ret
      exact ⟨rfl, rfl⟩

theorem conv_byte (w : World) (z : Int) (d c : Nat) (hz : z = ((c + d : Nat) : Int)) (hc : c + d < 256) (ho : hexOne d = ⟨#[UInt8.ofNat (c + d)]⟩) :
    (convert 80 9 (.slice (some ⟨w.heap.size, 0, none⟩) 1 1)).run Tryd.prog (w.alloc (.cells #[.int .u8 z] 5)) = .ok (.string (hexOne d)) (w.alloc (.cells #[.int .u8 z] 5)) := by
  rw [ho, hz]
  refine run_convert_bytes_back _ 80 9 5 ⟨w.heap.size, 0, none⟩ 1 [UInt8.ofNat (c + d)] Tryd.underlying80 Tryd.underlying5 Tryd.underlying9 ?_
  intro j hj
  have : j = 0 := by simpa using hj
  subst this
  have e : ((UInt8.ofNat (c + d)).toNat : Int) = ((c + d : Nat) : Int) := by rw [UInt8.toNat_ofNat']; simp; omega
  simp [Addr.add]
  omega
set_option maxHeartbeats 1000000 in
set_option maxRecDepth 100000 in
theorem refHex_calls (n m : Nat) (hn : n ≤ 65535) (hm : m ≤ 4) (w : World) : Calls Tryd.prog 36 #[.int .i64 (n : Int), .int .i64 (m : Int)] w fun e w' => e = .returned (.string (hexTo m n ⟨#[]⟩)) ∧ Below w.heap.size w w' := by
  obtain ⟨R, hR⟩ : ∃ R, Hid (hexTo m n ⟨#[]⟩ = R) := ⟨_, Lib.hid rfl⟩
  rw [hR.out]
  go_enter Tryd.func36, Tryd.ntmps36
  go_wp2_with fail
  go_loopg [0, 5, 6] m (fun kq v0 v5 v6 w' => ∃ (j x : Nat) (o : ByteArray), v6 = .int .i64 (j : Int) ∧ v0 = .int .i64 (x : Int) ∧ v5 = .string o ∧ Hid (x ≤ 65535) ∧ Hid (o.size = j) ∧ Hid (m - j = kq) ∧ Hid (j ≤ m) ∧ Hid (hexTo (m - j) x o = R) ∧ Hid (Below w.heap.size w w'))
  case atStart => exact ⟨0, n, ⟨#[]⟩, rfl, rfl, rfl, Lib.hid hn, Lib.hid rfl, Lib.hid rfl, Lib.hid (Nat.zero_le _), hR, Lib.hid (Below.refl _ _)⟩
  case round =>
    obtain ⟨j, x, o, rfl, rfl, rfl, hx, ho, hk, hj, hr, hB⟩ := hrel
    by_cases c1 : j < m
    · have c1' : (j : Int) < (m : Int) := by omega
      obtain ⟨k1, rfl⟩ : ∃ k1, gk = k1 + 1 := ⟨gk - 1, by have := hk.out; omega⟩
      have x0 : (0 : Int) ≤ (x : Int) := by omega
      have x1 : (x : Int) ≤ 65535 := by have := hx.out; omega
      have x2 : (x : Int) % 16 < 16 := by omega
      have x3 : 0 ≤ (x : Int) % 16 := by omega
      have q1 : ¬ 9223372036854775807 < 1 + o.size := by have := ho.out; omega
      by_cases c2 : (x : Int) % 16 < 10
      · have hcv := Lib.hid (conv_byte wr (48 + (x : Int) % 16) (x % 16) 48 (by omega) (by omega) (by unfold hexOne; rw [if_pos (by omega)]))
        have q2 : (hexOne (x % 16)).size = 1 := hexOne_size _
        go_wp2_with fail
        rw [hcv.out]
        simp only [Result.andThen]
        rw [Oper.upon_value]
        go_wp2_with fail
        go_roundg k1
        case measure => omega
        case rel => exact ⟨j + 1, x / 16, hexOne (x % 16) ++ o, by simp, by simp, rfl, Lib.hid (by have := hx.out; omega), Lib.hid (by rw [ByteArray.size_append, hexOne_size, ho.out]; omega), Lib.hid (by have := hk.out; omega), Lib.hid (by omega), Lib.hid (by have := hr.out; rwa [show m - j = (m - (j + 1)) + 1 by omega, hexTo] at this), Lib.hid (hB.out.alloc hB.out.size _)⟩
      · have hcv := Lib.hid (conv_byte wr (87 + (x : Int) % 16) (x % 16) 87 (by omega) (by omega) (by unfold hexOne; rw [if_neg (by omega)]))
        have q2 : (hexOne (x % 16)).size = 1 := hexOne_size _
        go_wp2_with fail
        rw [hcv.out]
        simp only [Result.andThen]
        rw [Oper.upon_value]
        go_wp2_with fail
        go_roundg k1
        case measure => omega
        case rel => exact ⟨j + 1, x / 16, hexOne (x % 16) ++ o, by simp, by simp, rfl, Lib.hid (by have := hx.out; omega), Lib.hid (by rw [ByteArray.size_append, hexOne_size, ho.out]; omega), Lib.hid (by have := hk.out; omega), Lib.hid (by omega), Lib.hid (by have := hr.out; rwa [show m - j = (m - (j + 1)) + 1 by omega, hexTo] at this), Lib.hid (hB.out.alloc hB.out.size _)⟩
    · have c1' : ¬ (j : Int) < (m : Int) := by omega
      have e := hr.out
      rw [show m - j = 0 by omega, hexTo] at e
      subst e
      go_wp2_with fail
      go_ret
      exact ⟨rfl, hB.out⟩
end Go.Proofs.YtlhhpbpoioaagaaDoor
