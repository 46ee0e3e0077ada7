import Derived.Test.YtlhhpbpoioaagaaDoorHx
import Derived.Test.YtlhhpbpoioaagaaDoorRd
import Derived.Lib.DecodeN
import Derived.Shelf.Strings.FuncGrows
namespace Go.Proofs.YtlhhpbpoioaagaaDoor
set_option linter.unusedVariables false
set_option linter.unusedSimpArgs false
open Go.RowKit Go.Proofs.YtlhhpbpoioaagaaDoorW.PrintWords Go.Proofs.YtlhhpbpoioaagaaDoorW.PrintLast Go.Proofs.YtlhhpbpoioaagaaDoorW.PrintMore

/-! ### All bytes are letters -/
def letFrom (s : ByteArray) : Nat → Nat → Bool
  | 0, _ => true
  | k + 1, i => if i < s.size then isLet (bx s i) && letFrom s k (i + 1) else true
def notLet (r : Nat) : Bool := decide ((r : Int) < 97) || decide (122 < (r : Int))
theorem get_bx (s : ByteArray) (i : Nat) (h : i < s.size) : ((s.get! i).toNat : Int) = bx s i := by
  have e : s.get! i = s[i] := by
    show s.data[i]! = _
    rw [getElem!_pos s.data i h]; rfl
  rw [e]; exact bx_at h
theorem decodeN_big (n b0 b1 b2 b3 : Nat) (h : ¬ b0 < 128) : 128 ≤ (Lib.decodeN n b0 b1 b2 b3).1 := by
  unfold Lib.decodeN
  rw [if_neg h]
  repeat' split
  all_goals (simp only; omega)
theorem decode_letter (s : ByteArray) (i : Nat) (hi : i < s.size) (h : isLet (bx s i) = true) : Utf8.decode s i = ((bx s i).toNat, 1) := by
  have e := get_bx s i hi
  simp only [isLet, Bool.and_eq_true, decide_eq_true_eq] at h
  rw [Lib.decode_at]
  unfold Lib.decodeN
  rw [if_pos (by omega)]
  congr 1; omega
theorem decode_other (s : ByteArray) (i : Nat) (hi : i < s.size) (h : isLet (bx s i) = false) : notLet (Utf8.decode s i).1 = true := by
  have e := get_bx s i hi
  rw [Lib.decode_at]
  unfold notLet
  by_cases c : (s.get! i).toNat < 128
  · unfold Lib.decodeN
    rw [if_pos c]
    simp only [isLet, Bool.and_eq_false_iff, decide_eq_false_iff_not] at h
    simp only [Bool.or_eq_true, decide_eq_true_eq]
    omega
  · have := decodeN_big (s.size - i) (s.get! i).toNat (s.get! (i + 1)).toNat (s.get! (i + 2)).toNat (s.get! (i + 3)).toNat c
    simp only [Bool.or_eq_true, decide_eq_true_eq]
    omega
theorem idx_letters (s : ByteArray) : ∀ (k i : Nat), decide (0 ≤ Lib.idxFuncFrom notLet true s k i) = !letFrom s k i := by
  intro k
  induction k with
  | zero => intro i; simp [Lib.idxFuncFrom, letFrom]
  | succ k ih =>
    intro i
    rw [Lib.idxFuncFrom, letFrom]
    by_cases c : i < s.size
    · rw [if_pos c, if_pos c]
      by_cases h : isLet (bx s i) = true
      · rw [decode_letter s i c h]
        dsimp only
        have hn : notLet (bx s i).toNat = false := by
          have h' := h
          simp only [isLet, Bool.and_eq_true, decide_eq_true_eq] at h'
          unfold notLet
          simp only [Bool.or_eq_false_iff, decide_eq_false_iff_not]
          omega
        rw [if_neg (by rw [hn]; decide), ih (i + 1), h, Bool.true_and]
      · have h' : isLet (bx s i) = false := by simpa using h
        rw [if_pos (decode_other s i c h'), h']
        simp
    · rw [if_neg c, if_neg c]; simp
def allLet (s : ByteArray) : Bool := letFrom s s.size 0

/-- A token's text: (text, error). -/
def textT (k : Int) (tx : ByteArray) (n : Int) : ByteArray × Int :=
  if k = 1 then (if tx.size = 0 ∨ allLet tx = false then (⟨#[]⟩, 11) else (tx, 0))
  else if k = 2 then (if n < 0 ∨ 65535 < n then (⟨#[]⟩, 10) else if n < 256 then (⟨#[36]⟩ ++ hexTo 2 n.toNat ⟨#[]⟩, 0) else (⟨#[36]⟩ ++ hexTo 4 n.toNat ⟨#[]⟩, 0))
  else if k = 3 then (⟨#[46, 46]⟩, 0)
  else if k = 4 then (⟨#[10]⟩, 0)
  else (⟨#[]⟩, 15)
theorem empty_of_size {s : ByteArray} (h : s.size = 0) : s = ⟨#[]⟩ := by
  refine ByteArray.ext ?_
  exact Array.eq_empty_of_size_eq_zero h

theorem notLet_calls (x : Nat) (hx : x ≤ 1114111) (w : World) : Calls Tryd.prog 33 #[.int .i32 (x : Int)] w fun e w' => e = .returned (.bool (notLet x)) ∧ Below w.heap.size w w' := by
  by_cases h1 : (x : Int) < 97
  · go_enter Tryd.func33, Tryd.ntmps33
    go_wp2
    go_ret
    exact ⟨by simp [notLet, h1], Below.refl _ _⟩
  · have h1' : ¬ (x : Int) < 97 := h1
    go_enter Tryd.func33, Tryd.ntmps33
    go_wp2
    go_ret
    refine ⟨?_, Below.refl _ _⟩
    have e : decide ((x : Int) < 97) = false := decide_eq_false (by omega)
    simp [notLet, e]
theorem contains_calls (s : ByteArray) (w : World) : Calls Tryd.prog 32 #[.string s, .func (.func 33) #[] #[]] w fun e w' => e = .returned (.bool (!allLet s)) ∧ Below w.heap.size w w' := by
  have h := Tryd.strings_ContainsFunc_grows 33 #[] (enters_of Tryd.func33 (by kernel_rfl) rfl) notLet s w (fun W x hx _ => notLet_calls x hx W)
  unfold Lib.idxFunc at h
  rw [idx_letters] at h
  exact h

def TextPost (R : ByteArray × Int) (w : World) (e : Ending) (w' : World) : Prop := e = .returned (.tuple #[.string R.1, .int .i64 R.2]) ∧ Below w.heap.size w w'

set_option maxHeartbeats 1000000 in
set_option maxRecDepth 100000 in
theorem text_calls (k : Int) (tx : ByteArray) (n a b : Int) (w : World) : Calls Tryd.prog 16 #[.agg #[.int .i64 k, .string tx, .int .i64 n, .int .i64 a, .int .i64 b]] w (TextPost (textT k tx n) w) := by
  obtain ⟨R, hR⟩ : ∃ R, textT k tx n = R := ⟨_, rfl⟩
  rw [hR]
  unfold textT at hR
  by_cases k1 : k = 1
  · subst k1
    rw [if_pos rfl] at hR
    by_cases c1 : tx.size = 0
    · rw [if_pos (.inl c1)] at hR
      have e := empty_of_size c1
      subst e
      have hR' := Lib.hid hR; clear hR c1
      go_enter Tryd.func16, Tryd.ntmps16
      go_wp2_with fail
      go_ret2
      rw [← hR'.out]
      exact ⟨rfl, by (repeat (first | exact Below.refl _ _ | refine Below.drew ?_ | refine Below.alloc ?_ (by simp <;> omega) _ | refine Below.setCell ?_ (by simp <;> omega) _))⟩
    · have c2 : tx.toList.isEmpty = false := by
        rw [Lib.toList_data]
        cases hl : tx.data.toList with
        | nil => have := size_list tx; rw [hl] at this; exact absurd this.symm c1
        | cons x l => rfl
      have hcf := Lib.hid (fun W => contains_calls tx W)
      have hbx := Lib.hid (blk_new w (.cells #[.int .i64 1, .string tx, .int .i64 n, .int .i64 a, .int .i64 b] 37))
      by_cases c3 : allLet tx = false
      · rw [if_pos (.inr c3)] at hR
        have hR' := Lib.hid hR; clear hR
        rw [c3] at hcf
        have c3' := Lib.hid c3; clear c3
        go_enter Tryd.func16, Tryd.ntmps16
        go_wp2_with fail
        refine (hcf.out _).mono ?_
        rintro e w1 ⟨rfl, hb⟩
        go_wp2_with fail
        go_ret2
        rw [← hR'.out]
        exact ⟨rfl, ((Below.refl _ w).alloc (Nat.le_refl _) _).trans (hb.mono (by simp))⟩
      · rw [if_neg (not_or.2 ⟨c1, c3⟩)] at hR
        have c3' : allLet tx = true := by simpa using c3
        rw [c3'] at hcf
        have hR' := Lib.hid hR; clear hR c3 c3'
        go_enter Tryd.func16, Tryd.ntmps16
        go_wp2_with fail
        refine (hcf.out _).mono ?_
        rintro e w1 ⟨rfl, hb⟩
        have h1 : w1.cell? ⟨w.heap.size, 1, none⟩ = some (.string tx) := (blk_cell (blk_below hbx.out hb) 1).trans rfl
        go_wp2_with fail
        go_ret2
        rw [← hR'.out]
        exact ⟨rfl, ((Below.refl _ w).alloc (Nat.le_refl _) _).trans (hb.mono (by simp))⟩
  · have k1' : (k == 1) = false := by simp [k1]
    rw [if_neg k1] at hR
    by_cases k2 : k = 2
    · subst k2
      rw [if_pos rfl] at hR
      by_cases c1 : n < 0 ∨ 65535 < n
      · rw [if_pos c1] at hR
        have hR' := Lib.hid hR; clear hR
        rcases c1 with c1 | c1
        · go_enter Tryd.func16, Tryd.ntmps16
          go_wp2_with fail
          go_ret2
          rw [← hR'.out]
          exact ⟨rfl, by (repeat (first | exact Below.refl _ _ | refine Below.drew ?_ | refine Below.alloc ?_ (by simp <;> omega) _ | refine Below.setCell ?_ (by simp <;> omega) _))⟩
        · have c2 : ¬ n < 0 := by omega
          go_enter Tryd.func16, Tryd.ntmps16
          go_wp2_with fail
          go_ret2
          rw [← hR'.out]
          exact ⟨rfl, by (repeat (first | exact Below.refl _ _ | refine Below.drew ?_ | refine Below.alloc ?_ (by simp <;> omega) _ | refine Below.setCell ?_ (by simp <;> omega) _))⟩
      · rw [if_neg c1] at hR
        obtain ⟨c2, c3⟩ := not_or.1 c1
        obtain ⟨N, rfl⟩ := Int.eq_ofNat_of_zero_le (Int.not_lt.1 c2)
        rw [Int.toNat_natCast] at hR
        have c4 : (N : Int) ≤ 65535 := Int.not_lt.1 c3
        have c5 : (0 : Int) ≤ (N : Int) := by omega
        by_cases c6 : (N : Int) < 256
        · rw [if_pos c6] at hR
          have hh := Lib.hid (fun W => hex_calls N 2 (by omega) (by omega) W)
          have hz := hexTo_size 2 N ⟨#[]⟩
          generalize hexTo 2 N ⟨#[]⟩ = H at *
          have q1 : ¬ 9223372036854775807 < 1 + H.size := by rw [hz]; decide
          have hz' := Lib.hid hz; clear hz
          have hR' := Lib.hid hR; clear hR c1
          go_enter Tryd.func16, Tryd.ntmps16
          go_wp2_with fail
          refine (hh.out _).mono ?_
          rintro e w1 ⟨rfl, rfl⟩
          go_wp2_with fail
          go_ret2
          rw [← hR'.out]
          exact ⟨rfl, by (repeat (first | exact Below.refl _ _ | refine Below.drew ?_ | refine Below.alloc ?_ (by simp <;> omega) _ | refine Below.setCell ?_ (by simp <;> omega) _))⟩
        · rw [if_neg c6] at hR
          have hh := Lib.hid (fun W => hex_calls N 4 (by omega) (by omega) W)
          have hz := hexTo_size 4 N ⟨#[]⟩
          generalize hexTo 4 N ⟨#[]⟩ = H at *
          have q1 : ¬ 9223372036854775807 < 1 + H.size := by rw [hz]; decide
          have hz' := Lib.hid hz; clear hz
          have hR' := Lib.hid hR; clear hR c1
          go_enter Tryd.func16, Tryd.ntmps16
          go_wp2_with fail
          refine (hh.out _).mono ?_
          rintro e w1 ⟨rfl, rfl⟩
          go_wp2_with fail
          go_ret2
          rw [← hR'.out]
          exact ⟨rfl, by (repeat (first | exact Below.refl _ _ | refine Below.drew ?_ | refine Below.alloc ?_ (by simp <;> omega) _ | refine Below.setCell ?_ (by simp <;> omega) _))⟩
    · have k2' : (k == 2) = false := by simp [k2]
      rw [if_neg k2] at hR
      by_cases k3 : k = 3
      · subst k3
        rw [if_pos rfl] at hR
        have hR' := Lib.hid hR; clear hR
        go_enter Tryd.func16, Tryd.ntmps16
        go_wp2_with fail
        go_ret2
        rw [← hR'.out]
        exact ⟨rfl, by (repeat (first | exact Below.refl _ _ | refine Below.drew ?_ | refine Below.alloc ?_ (by simp <;> omega) _ | refine Below.setCell ?_ (by simp <;> omega) _))⟩
      · have k3' : (k == 3) = false := by simp [k3]
        rw [if_neg k3] at hR
        by_cases k4 : k = 4
        · subst k4
          rw [if_pos rfl] at hR
          have hR' := Lib.hid hR; clear hR
          go_enter Tryd.func16, Tryd.ntmps16
          go_wp2_with fail
          go_ret2
          rw [← hR'.out]
          exact ⟨rfl, by (repeat (first | exact Below.refl _ _ | refine Below.drew ?_ | refine Below.alloc ?_ (by simp <;> omega) _ | refine Below.setCell ?_ (by simp <;> omega) _))⟩
        · have k4' : (k == 4) = false := by simp [k4]
          rw [if_neg k4] at hR
          have hR' := Lib.hid hR; clear hR
          go_enter Tryd.func16, Tryd.ntmps16
          go_wp2_with fail
          go_ret2
          rw [← hR'.out]
          exact ⟨rfl, by (repeat (first | exact Below.refl _ _ | refine Below.drew ?_ | refine Below.alloc ?_ (by simp <;> omega) _ | refine Below.setCell ?_ (by simp <;> omega) _))⟩
end Go.Proofs.YtlhhpbpoioaagaaDoor
