import Derived.Test.YtlhhpbpoioaagaaDoorProg
import Derived.Test.YtlhhpbpoioaagaaDoorLater
import Derived.Test.YtlhhpbpoioaagaaDoorShelf
import Derived.Test.YtlhhpbpoioaagaaDoorSpec
import Derived.WalkSpells
import Derived.WalkLawsBesides
import Derived.Lib.Hide
import Derived.LoopN
import Derived.IntWalk
import Derived.Deep.LoopGhost
import Derived.Test.YtlhhpbpoioaagaaDoorWMore
namespace Go.Proofs.YtlhhpbpoioaagaaDoor
set_option linter.unusedVariables false
set_option linter.unusedSimpArgs false
open Go.RowKit Go.Proofs.YtlhhpbpoioaagaaDoorW.PrintWords Go.Proofs.YtlhhpbpoioaagaaDoorW.PrintLast Go.Proofs.YtlhhpbpoioaagaaDoorW.PrintMore
attribute [local go_sem] max2_int min2_int max_two min_two

def dig10 (b : Int) : Int := if digI b < 10 then digI b else -1
def dig16 (b : Int) : Int := if digI b < 16 then digI b else -1
theorem index10 (b : Int) (h : 0 ≤ b ∧ b ≤ 255) : Lib.indexByte [48, 49, 50, 51, 52, 53, 54, 55, 56, 57] b.toNat.toUInt8 = dig10 b := by
  have : ∀ i : Fin 256, Lib.indexByte [48, 49, 50, 51, 52, 53, 54, 55, 56, 57] i.val.toUInt8 = dig10 (i.val : Int) := by decide +kernel
  have h2 := this ⟨b.toNat, by omega⟩
  rw [h2, Int.toNat_of_nonneg h.1]
theorem index16 (b : Int) (h : 0 ≤ b ∧ b ≤ 255) : Lib.indexByte [48, 49, 50, 51, 52, 53, 54, 55, 56, 57, 97, 98, 99, 100, 101, 102] b.toNat.toUInt8 = dig16 b := by
  have : ∀ i : Fin 256, Lib.indexByte [48, 49, 50, 51, 52, 53, 54, 55, 56, 57, 97, 98, 99, 100, 101, 102] i.val.toUInt8 = dig16 (i.val : Int) := by decide +kernel
  have h2 := this ⟨b.toNat, by omega⟩
  rw [h2, Int.toNat_of_nonneg h.1]

set_option maxHeartbeats 400000 in
theorem digit10 (b : Int) (hb : 0 ≤ b ∧ b ≤ 255) (w : World) : Calls Tryd.prog 76 #[.int .u8 b, .int .i64 10] w fun e w' => e = .returned (.tuple #[.int .i64 (dig10 b), .bool (decide (0 ≤ dig10 b))]) ∧ w' = w := by
  have hx := index10 b hb
  go_enter Tryd.func76, Tryd.ntmps76
  go_wp2_with fail
  refine (Tryd.strings_IndexByte _ b _).mono ?_
  rintro e w1 ⟨rfl, rfl⟩
  go_wp2
  go_ret2
  exact ⟨rfl, rfl⟩
set_option maxHeartbeats 400000 in
theorem digit16 (b : Int) (hb : 0 ≤ b ∧ b ≤ 255) (w : World) : Calls Tryd.prog 76 #[.int .u8 b, .int .i64 16] w fun e w' => e = .returned (.tuple #[.int .i64 (dig16 b), .bool (decide (0 ≤ dig16 b))]) ∧ w' = w := by
  have hx := index16 b hb
  go_enter Tryd.func76, Tryd.ntmps76
  go_wp2_with fail
  refine (Tryd.strings_IndexByte _ b _).mono ?_
  rintro e w1 ⟨rfl, rfl⟩
  go_wp2
  go_ret2
  exact ⟨rfl, rfl⟩
theorem dig10_is (b : Int) : decide (0 ≤ dig10 b) = decide (digI b < 10) := by
  unfold dig10; have := digI_nonneg b; split <;> simp [*] 
theorem dig16_is (b : Int) : decide (0 ≤ dig16 b) = decide (digI b < 16) := by
  unfold dig16; have := digI_nonneg b; split <;> simp [*] 

theorem letter (b : Int) (w : World) : Calls Tryd.prog 77 #[.int .u8 b] w fun e w' => e = .returned (.bool (isLet b)) ∧ w' = w := by
  by_cases h1 : 97 ≤ b
  · by_cases h2 : b ≤ 122
    · go_enter Tryd.func77, Tryd.ntmps77
      go_wp2
      go_ret
      exact ⟨by simp [isLet, h1, h2], rfl⟩
    · go_enter Tryd.func77, Tryd.ntmps77
      go_wp2
      go_ret
      exact ⟨by simp [isLet, h1, h2], rfl⟩
  · go_enter Tryd.func77, Tryd.ntmps77
    go_wp2
    go_ret
    exact ⟨by simp [isLet]; omega, rfl⟩

/-- The line's own cells. -/
def LineAt (g : Nat) (s : ByteArray) (n : Int) (i : Nat) (v : Value) (w : World) : Prop := w.heap[g]? = some (.cells #[.string s, .int .i64 n, .int .i64 i, v] 69 (0, 0))
theorem LineAt.c0 {g : Nat} {s : ByteArray} {n : Int} {i : Nat} {v : Value} {w : World} (h : LineAt g s n i v w) : w.cell? ⟨g, 0, none⟩ = some (.string s) := (blk_cell h 0).trans rfl
theorem LineAt.c1 {g : Nat} {s : ByteArray} {n : Int} {i : Nat} {v : Value} {w : World} (h : LineAt g s n i v w) : w.cell? ⟨g, 1, none⟩ = some (.int .i64 n) := (blk_cell h 1).trans rfl
theorem LineAt.c2 {g : Nat} {s : ByteArray} {n : Int} {i : Nat} {v : Value} {w : World} (h : LineAt g s n i v w) : w.cell? ⟨g, 2, none⟩ = some (.int .i64 i) := (blk_cell h 2).trans rfl
theorem LineAt.c3 {g : Nat} {s : ByteArray} {n : Int} {i : Nat} {v : Value} {w : World} (h : LineAt g s n i v w) : w.cell? ⟨g, 3, none⟩ = some v := (blk_cell h 3).trans rfl
theorem LineAt.lt {g : Nat} {s : ByteArray} {n : Int} {i : Nat} {v : Value} {w : World} (h : LineAt g s n i v w) : g < w.heap.size := blk_lt h

theorem bx_read {s : ByteArray} {i : Nat} : ∀ h : i < s.size, ((s[i]'h).toNat : Int) = bx s i := fun h => bx_at h

set_option maxHeartbeats 400000 in
theorem word_calls (g : Nat) (s : ByteArray) (n : Int) (at_ : Nat) (v : Value) (i : Nat) (hsz : s.size ≤ 70000) (w : World) (hl : LineAt g s n at_ v w) :
    Calls Tryd.prog 78 #[.pointer (some ⟨g, 0, none⟩), .int .i64 i] w fun e w' => e = .returned (.int .i64 (wordTo s (s.size - i) i)) ∧ w' = w := by
  have h0 := hl.c0
  clear hl
  go_enter Tryd.func78, Tryd.ntmps78
  go_wp2
  go_loopg [1] (s.size - i) (fun kq v1 w' => ∃ j : Nat, v1 = .int .i64 (j : Int) ∧ Hid (s.size - j = kq) ∧ Hid (wordTo s (s.size - i) i = wordTo s kq j) ∧ w' = w)
  case atStart => exact ⟨i, rfl, Lib.hid rfl, Lib.hid rfl, rfl⟩
  case round =>
    obtain ⟨j, rfl, hj, he, rfl⟩ := hrel
    by_cases c1 : j < s.size
    · have hx := bx_read (s := s) (i := j)
      have c1' : (j : Int) < (s.size : Int) := by omega
      have c2 : IntKind.i64.wrap ((j : Int) + 1) = ((j + 1 : Nat) : Int) := by rw [IntWalk.i64_in _ (by omega)]; simp
      cases gk with
      | zero => have := hj.out; omega
      | succ k1 =>
        by_cases c3 : isLet (bx s j) = true
        · go_wp2_with (first | (go_at_call 77; (with_reducible refine (letter (bx s j) _).mono ?_); rintro e w' ⟨rfl, rfl⟩))
          go_roundg k1
          case measure => omega
          case rel => exact ⟨j + 1, by simp, Lib.hid (by have := hj.out; omega), Lib.hid (by rw [he.out, wordTo, if_pos ⟨c1, c3⟩]), rfl⟩
        · go_wp2_with (first | (go_at_call 77; (with_reducible refine (letter (bx s j) _).mono ?_); rintro e w' ⟨rfl, rfl⟩))
          go_ret
          exact ⟨by rw [he.out, wordTo, if_neg (fun h => c3 h.2)]; rfl, rfl⟩
    · have c1' : ¬ (j : Int) < (s.size : Int) := by omega
      go_wp2
      go_ret
      refine ⟨?_, rfl⟩
      rw [he.out]
      cases gk with
      | zero => rfl
      | succ k1 => rw [wordTo, if_neg (fun h => c1 h.1)]; rfl

set_option maxHeartbeats 400000 in
theorem begins_calls (g : Nat) (s : ByteArray) (n : Int) (at_ : Nat) (v : Value) (i : Nat) (hi : i ≤ s.size) (hsz : s.size ≤ 70000) (w : World) (hl : LineAt g s n at_ v w) :
    Calls Tryd.prog 79 #[.pointer (some ⟨g, 0, none⟩), .int .i64 i] w fun e w' => e = .returned (.bool (glue s i)) ∧ w' = w := by
  have h0 := hl.c0
  clear hl
  by_cases c0 : i = s.size
  · have c0' : (i : Int) = (s.size : Int) := by omega
    go_enter Tryd.func79, Tryd.ntmps79
    go_wp2
    go_ret
    exact ⟨by unfold glue; simp [c0], rfl⟩
  · have c1 : i < s.size := by omega
    have c0' : ¬ (i : Int) = (s.size : Int) := by omega
    have c1' : (i : Int) < (s.size : Int) := by omega
    have hx := bx_read (s := s) (i := i)
    have hd := dig10_is (bx s i)
    by_cases c2 : digI (bx s i) < 10
    · go_enter Tryd.func79, Tryd.ntmps79
      go_wp2_with (first | (go_at_call 76; (with_reducible refine (digit10 (bx s i) (bx_range s i) _).mono ?_); rintro e w' ⟨rfl, rfl⟩) | (go_at_call 77; (with_reducible refine (letter (bx s i) _).mono ?_); rintro e w' ⟨rfl, rfl⟩))
      go_ret
      exact ⟨by unfold glue; simp [c1, c2], rfl⟩
    · by_cases c3 : isLet (bx s i) = true
      · go_enter Tryd.func79, Tryd.ntmps79
        go_wp2_with (first | (go_at_call 76; (with_reducible refine (digit10 (bx s i) (bx_range s i) _).mono ?_); rintro e w' ⟨rfl, rfl⟩) | (go_at_call 77; (with_reducible refine (letter (bx s i) _).mono ?_); rintro e w' ⟨rfl, rfl⟩))
        go_ret
        exact ⟨by unfold glue; simp [c1, c2, c3], rfl⟩
      · go_enter Tryd.func79, Tryd.ntmps79
        go_wp2_with (first | (go_at_call 76; (with_reducible refine (digit10 (bx s i) (bx_range s i) _).mono ?_); rintro e w' ⟨rfl, rfl⟩) | (go_at_call 77; (with_reducible refine (letter (bx s i) _).mono ?_); rintro e w' ⟨rfl, rfl⟩))
        go_ret
        exact ⟨by unfold glue; simp [c1, c2, c3], rfl⟩
set_option maxHeartbeats 800000 in
theorem number10_calls (g : Nat) (s : ByteArray) (n : Int) (at_ : Nat) (v : Value) (i : Nat) (hi : i ≤ s.size) (hsz : s.size ≤ 70000) (w : World) (hl : LineAt g s n at_ v w) :
    Calls Tryd.prog 82 #[.pointer (some ⟨g, 0, none⟩), .int .i64 i, .int .i64 10] w fun e w' => e = .returned (.tuple #[.int .i64 (numTo s 10 (s.size - i) i 0).1, .int .i64 (numTo s 10 (s.size - i) i 0).2]) ∧ w' = w := by
  have h0 := hl.c0
  clear hl
  go_enter Tryd.func82, Tryd.ntmps82
  go_wp2
  go_loopg [1, 8] (s.size - i) (fun kq v1 v8 w' => ∃ (j : Nat) (m : Int), v1 = .int .i64 (j : Int) ∧ v8 = .int .i64 m ∧ Hid (0 ≤ m ∧ m ≤ 65536) ∧ Hid (s.size - j = kq) ∧ Hid (numTo s 10 (s.size - i) i 0 = numTo s 10 kq j m) ∧ w' = w)
  case atStart => exact ⟨i, 0, rfl, rfl, Lib.hid (by omega), Lib.hid rfl, Lib.hid rfl, rfl⟩
  case round =>
    obtain ⟨j, m, rfl, rfl, hm, hj, he, rfl⟩ := hrel
    by_cases c1 : j < s.size
    · have hx := bx_read (s := s) (i := j)
      have c1' : (j : Int) < (s.size : Int) := by omega
      have c2 : IntKind.i64.wrap ((j : Int) + 1) = ((j + 1 : Nat) : Int) := by rw [IntWalk.i64_in _ (by omega)]; simp
      cases gk with
      | zero => have := hj.out; omega
      | succ k1 =>
        by_cases c3 : digI (bx s j) < 10
        · have e3 : dig10 (bx s j) = digI (bx s j) := by unfold dig10; rw [if_pos c3]
          have c4 : 0 ≤ digI (bx s j) := digI_nonneg _
          have c5 : IntKind.i64.wrap (m * 10) = m * 10 := IntWalk.i64_in _ (by have := hm.out; omega)
          have c6 : IntKind.i64.wrap (m * 10 + digI (bx s j)) = m * 10 + digI (bx s j) := IntWalk.i64_in _ (by have := hm.out; omega)
          have c7 : (if 65536 < m * 10 + digI (bx s j) then 65536 else m * 10 + digI (bx s j)) = min (m * 10 + digI (bx s j)) 65536 := by split <;> omega
          go_wp2_with (first | (go_at_call 76; (with_reducible refine (digit10 (bx s j) (bx_range s j) _).mono ?_); rintro e w' ⟨rfl, rfl⟩))
          go_roundg k1
          case measure => omega
          case rel => exact ⟨j + 1, _, by simp, rfl, Lib.hid (by have := hm.out; omega), Lib.hid (by have := hj.out; omega), Lib.hid (by rw [he.out, numTo, if_pos ⟨c1, c3⟩]), rfl⟩
        · have hd := (dig10_is (bx s j)).trans (decide_eq_false c3)
          have hf : numTo s 10 (k1 + 1) j m = (m, j) := by rw [numTo, if_neg (fun h => c3 h.2)]
          have hf' := Lib.hid hf; clear hf c3
          go_wp2_with (first | (go_at_call 76; (with_reducible refine (digit10 (bx s j) (bx_range s j) _).mono ?_); rintro e w' ⟨rfl, rfl⟩))
          go_ret2
          exact ⟨by rw [he.out, hf'.out]; rfl, rfl⟩
    · have c1' : ¬ (j : Int) < (s.size : Int) := by omega
      go_wp2
      go_ret2
      refine ⟨?_, rfl⟩
      rw [he.out]
      cases gk with
      | zero => rfl
      | succ k1 => rw [numTo, if_neg (fun h => c1 h.1)]; rfl

set_option maxHeartbeats 800000 in
theorem number16_calls (g : Nat) (s : ByteArray) (n : Int) (at_ : Nat) (v : Value) (i : Nat) (hi : i ≤ s.size) (hsz : s.size ≤ 70000) (w : World) (hl : LineAt g s n at_ v w) :
    Calls Tryd.prog 82 #[.pointer (some ⟨g, 0, none⟩), .int .i64 i, .int .i64 16] w fun e w' => e = .returned (.tuple #[.int .i64 (numTo s 16 (s.size - i) i 0).1, .int .i64 (numTo s 16 (s.size - i) i 0).2]) ∧ w' = w := by
  have h0 := hl.c0
  clear hl
  go_enter Tryd.func82, Tryd.ntmps82
  go_wp2
  go_loopg [1, 8] (s.size - i) (fun kq v1 v8 w' => ∃ (j : Nat) (m : Int), v1 = .int .i64 (j : Int) ∧ v8 = .int .i64 m ∧ Hid (0 ≤ m ∧ m ≤ 65536) ∧ Hid (s.size - j = kq) ∧ Hid (numTo s 16 (s.size - i) i 0 = numTo s 16 kq j m) ∧ w' = w)
  case atStart => exact ⟨i, 0, rfl, rfl, Lib.hid (by omega), Lib.hid rfl, Lib.hid rfl, rfl⟩
  case round =>
    obtain ⟨j, m, rfl, rfl, hm, hj, he, rfl⟩ := hrel
    by_cases c1 : j < s.size
    · have hx := bx_read (s := s) (i := j)
      have c1' : (j : Int) < (s.size : Int) := by omega
      have c2 : IntKind.i64.wrap ((j : Int) + 1) = ((j + 1 : Nat) : Int) := by rw [IntWalk.i64_in _ (by omega)]; simp
      cases gk with
      | zero => have := hj.out; omega
      | succ k1 =>
        by_cases c3 : digI (bx s j) < 16
        · have e3 : dig16 (bx s j) = digI (bx s j) := by unfold dig16; rw [if_pos c3]
          have c4 : 0 ≤ digI (bx s j) := digI_nonneg _
          have c5 : IntKind.i64.wrap (m * 16) = m * 16 := IntWalk.i64_in _ (by have := hm.out; omega)
          have c6 : IntKind.i64.wrap (m * 16 + digI (bx s j)) = m * 16 + digI (bx s j) := IntWalk.i64_in _ (by have := hm.out; omega)
          have c7 : (if 65536 < m * 16 + digI (bx s j) then 65536 else m * 16 + digI (bx s j)) = min (m * 16 + digI (bx s j)) 65536 := by split <;> omega
          go_wp2_with (first | (go_at_call 76; (with_reducible refine (digit16 (bx s j) (bx_range s j) _).mono ?_); rintro e w' ⟨rfl, rfl⟩))
          go_roundg k1
          case measure => omega
          case rel => exact ⟨j + 1, _, by simp, rfl, Lib.hid (by have := hm.out; omega), Lib.hid (by have := hj.out; omega), Lib.hid (by rw [he.out, numTo, if_pos ⟨c1, c3⟩]), rfl⟩
        · have hd := (dig16_is (bx s j)).trans (decide_eq_false c3)
          have hf : numTo s 16 (k1 + 1) j m = (m, j) := by rw [numTo, if_neg (fun h => c3 h.2)]
          have hf' := Lib.hid hf; clear hf c3
          go_wp2_with (first | (go_at_call 76; (with_reducible refine (digit16 (bx s j) (bx_range s j) _).mono ?_); rintro e w' ⟨rfl, rfl⟩))
          go_ret2
          exact ⟨by rw [he.out, hf'.out]; rfl, rfl⟩
    · have c1' : ¬ (j : Int) < (s.size : Int) := by omega
      go_wp2
      go_ret2
      refine ⟨?_, rfl⟩
      rw [he.out]
      cases gk with
      | zero => rfl
      | succ k1 => rw [numTo, if_neg (fun h => c1 h.1)]; rfl

set_option maxHeartbeats 400000 in
theorem place_calls (g : Nat) (s : ByteArray) (n : Int) (at_ : Nat) (v : Value) (i : Nat) (hi : i ≤ 70000) (w : World) (hl : LineAt g s n at_ v w) :
    Calls Tryd.prog 58 #[.pointer (some ⟨g, 0, none⟩), .int .i64 i] w fun e w' => e = .returned (.agg #[.int .i64 n, .int .i64 ((i : Int) + 1)]) ∧ Below w.heap.size w w' := by
  have h1 := hl.c1
  have hlt := hl.lt
  have hne : g ≠ w.heap.size := by omega
  have c2 : IntKind.i64.wrap ((i : Int) + 1) = (i : Int) + 1 := IntWalk.i64_in _ (by omega)
  clear hl
  go_enter Tryd.func58, Tryd.ntmps58
  go_wp2
  refine bodyPost_ret (v := .agg #[.int .i64 n, .int .i64 ((i : Int) + 1)]) (by simp [results, Tryd.results58, go_sem]) rfl ⟨rfl, ?_⟩
  repeat (first | exact Below.refl _ _ | refine Below.drew ?_ | refine Below.alloc ?_ (by simp <;> omega) _ | refine Below.setCell ?_ (by simp <;> omega) _)

end Go.Proofs.YtlhhpbpoioaagaaDoor
