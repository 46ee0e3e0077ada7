import Derived.Test.YtefhjioeceadlaaDoorProg
import Derived.Test.YtefhjioeceadlaaDoorLater
import Derived.Test.YtefhjioeceadlaaDoorShelf
import Derived.WalkSpells
import Derived.WalkLawsBesides
import Derived.Lib.Hide
import Derived.LoopN
import Derived.IntWalk
import Derived.Lib.ItoaLen
namespace Go.Proofs.YtefhjioeceadlaaDoor
open Go.RowKit

def str (l : List UInt8) : ByteArray := ⟨l.toArray⟩
theorem digit_piece (k : Nat) (h : k < 10) : (List.drop k [48, 49, 50, 51, 52, 53, 54, 55, 56, 57]).take (k + 1 - k) = [UInt8.ofNat (48 + k)] := by
  have : ∀ i : Fin 10, (List.drop i.val [48, 49, 50, 51, 52, 53, 54, 55, 56, 57]).take (i.val + 1 - i.val) = [UInt8.ofNat (48 + i.val)] := by decide +kernel
  exact this ⟨k, h⟩


theorem size_str (l : List UInt8) : (str l).size = l.length := rfl
theorem dec_len (k : Nat) (h : k ≤ 9223372036854775807) : (str (Lib.decDigits k)).size ≤ 20 := by
  rw [size_str, Lib.decDigits_length]; exact Lib.nDigits_le20 k (by omega)
theorem small_extract (k : Nat) (h : k < 10) : (⟨#[48, 49, 50, 51, 52, 53, 54, 55, 56, 57]⟩ : ByteArray).extract k (k + 1) = str (Lib.decDigits k) := by
  have : ∀ i : Fin 10, (⟨#[48, 49, 50, 51, 52, 53, 54, 55, 56, 57]⟩ : ByteArray).extract i.val (i.val + 1) = str [UInt8.ofNat (48 + i.val)] := by decide +kernel
  rw [Lib.decDigits_one h]
  exact this ⟨k, h⟩

/-- What Decimal answers: the digits; draws alone. -/
def DecPost (k : Nat) (w : World) (e : Ending) (w' : World) : Prop := e = .returned (.string (str (Lib.decDigits k))) ∧ ∃ n, w' = w.drewN n

set_option maxHeartbeats 400000 in
theorem dec_small (k : Nat) (h : k < 10) (w : World) : Calls Tryd.prog 18 #[.int .i64 (k : Int)] w (DecPost k w) := by
  have hs : (k : Int) < 10 := by omega
  have hx := small_extract k h
  go_enter Tryd.func18, Tryd.ntmps18
  go_wp2
  go_ret
  exact ⟨rfl, 0, rfl⟩

set_option maxHeartbeats 400000 in
theorem dec_big (k : Nat) (h : 10 ≤ k) (hm : k ≤ 9223372036854775807) (w : World)
    (ih : ∀ w, Calls Tryd.prog 18 #[.int .i64 ((k : Int) / 10)] w (DecPost (k / 10) w)) : Calls Tryd.prog 18 #[.int .i64 (k : Int)] w (DecPost k w) := by
  have hs : ¬ (k : Int) < 10 := by omega
  have ih' := Lib.hid ih; clear ih
  have hfin : str (Lib.decDigits k) = str (Lib.decDigits (k / 10)) ++ str (Lib.decDigits (k % 10)) := by
    rw [Lib.decDigits, dif_neg (by omega), Lib.decDigits_one (show k % 10 < 10 by omega)]; simp [str]; rfl
  have hfin' := Lib.hid hfin; clear hfin
  obtain ⟨d, hd⟩ : ∃ d, d = k % 10 := ⟨_, rfl⟩
  have hd10 : d < 10 := by omega
  rw [← hd] at hfin'
  have ht : (k : Int).tmod 10 = (d : Int) := by rw [Int.tmod_eq_emod_of_nonneg (by omega)]; omega
  have hx := small_extract d hd10
  have h2 : ((d : Int) + 1).toNat = d + 1 := by omega
  have h3 : (0 : Int) ≤ (d : Int) + 1 := by omega
  have h4 : IntKind.i64.wrap ((k : Int) / 10) = (k : Int) / 10 := IntWalk.i64_in _ (by omega)
  have h6 : IntKind.i64.wrap ((d : Int) + 1) = (d : Int) + 1 := IntWalk.i64_in _ (by omega)
  have h7 : (d : Int) + 1 ≤ 10 := by omega
  have h8 : (d : Int) ≤ (d : Int) + 1 := by omega
  have h9 : (str (Lib.decDigits (k / 10))).size + (str (Lib.decDigits d)).size ≤ 9223372036854775807 := by
    have := dec_len (k / 10) (by omega); have := dec_len d (by omega); omega
  clear hd
  go_enter Tryd.func18, Tryd.ntmps18
  go_wp2_with fail
  go_quiet ((go_at_call 18; exact Calls.quiet_of (v := .string (str (Lib.decDigits (k / 10)))) (ih'.out _)))
  go_wp2
  go_ret
  exact ⟨by rw [hfin'.out]; rfl, _, rfl⟩

/-- Decimal: the digits. -/
theorem dec_any : ∀ (m k : Nat), k < m → k ≤ 9223372036854775807 → ∀ w, Calls Tryd.prog 18 #[.int .i64 (k : Int)] w (DecPost k w)
  | 0, _, h, _, _ => absurd h (by omega)
  | m + 1, k, h, hm, w => by
    by_cases hs : k < 10
    · exact dec_small k hs w
    · exact dec_big k (by omega) hm w fun w => dec_any m (k / 10) (by omega) (by omega) w

/-- A place's text in the document's answer. -/
def placeL (n : Int) : List UInt8 := if n < 0 then [32, 45] else 32 :: Lib.decDigits n.toNat
def numL (n : Int) : List UInt8 := if n = -1 then [45] else Lib.itoa n

def StrPost (l : List UInt8) (w : World) (e : Ending) (w' : World) : Prop := e = .returned (.string (str l)) ∧ ∃ n, w' = w.drewN n
def StrBelow (l : List UInt8) (w : World) (e : Ending) (w' : World) : Prop := e = .returned (.string (str l)) ∧ Below w.heap.size w w'
theorem StrPost.below {l : List UInt8} {w : World} {e : Ending} {w' : World} (h : StrPost l w e w') : StrBelow l w e w' := by
  obtain ⟨he, n, rfl⟩ := h
  exact ⟨he, below_drewN (Below.refl _ _) n⟩

theorem DecPost.below {k : Nat} {w : World} {e : Ending} {w' : World} (h : DecPost k w e w') : StrBelow (Lib.decDigits k) w e w' := by
  obtain ⟨he, n, rfl⟩ := h
  exact ⟨he, below_drewN (Below.refl _ _) n⟩

set_option maxHeartbeats 400000 in
theorem place_any (n : Int) (hm : n ≤ 9223372036854775807) (w : World) : Calls Tryd.prog 19 #[.int .i64 n] w (StrPost (placeL n) w) := by
  by_cases hn : n < 0
  · have hf : str (placeL n) = str [32, 45] := by rw [placeL, if_pos hn]
    have hf' := Lib.hid hf; clear hf
    go_enter Tryd.func19, Tryd.ntmps19
    go_wp2
    go_ret
    exact ⟨by rw [hf'.out]; rfl, 0, rfl⟩
  · have hf : str (placeL n) = str [32] ++ str (Lib.decDigits n.toNat) := by rw [placeL, if_neg hn]; simp [str]; rfl
    have hf' := Lib.hid hf; clear hf
    obtain ⟨k, rfl⟩ := Int.eq_ofNat_of_zero_le (show 0 ≤ n by omega)
    have h9 : 1 + (str (Lib.decDigits k)).size ≤ 9223372036854775807 := by have := dec_len k (by omega); omega
    go_enter Tryd.func19, Tryd.ntmps19
    go_wp2_with (go_at_call 18; refine (dec_any (k + 1) k (by omega) (by omega) _).mono ?_; rintro e w' ⟨rfl, nq, rfl⟩)
    go_ret
    exact ⟨by rw [hf'.out]; rfl, nq, rfl⟩

theorem grow_below {w : World} (k : Nat) (os : Array Obj) : Below w.heap.size w (Go.Sort.grow (w.drewN k) os) :=
  ⟨rfl, rfl, rfl, by simp [Go.Sort.grow, World.drewN], fun i hi => by
    show (w.heap ++ os)[i]? = w.heap[i]?
    rw [Array.getElem?_append_left hi]⟩

set_option maxHeartbeats 400000 in
theorem number_any (n : Int) (h0 : -1 ≤ n) (hm : n ≤ 9223372036854775807) (w : World) (htab : Lib.TabIs Tryd.prog w "internal/strconv.uint64pow10" .u64 Lib.pow10Tab) : Calls Tryd.prog 16 #[.int .i64 n] w (StrBelow (numL n) w) := by
  by_cases hn : n = -1
  · have hf : str (numL n) = str [45] := by rw [numL, if_pos hn]
    have hf' := Lib.hid hf; clear hf
    have htab' := Lib.hid htab; clear htab
    subst hn
    go_enter Tryd.func16, Tryd.ntmps16
    go_wp2
    go_ret
    exact ⟨by rw [hf'.out]; rfl, Below.refl _ _⟩
  · have hf : str (numL n) = str (Lib.itoa n) := by rw [numL, if_neg hn]
    have hf' := Lib.hid hf; clear hf
    have htab' := Lib.hid htab; clear htab
    go_enter Tryd.func16, Tryd.ntmps16
    go_wp2_with (go_at_call 15; refine (Tryd.strconv_Itoa n (by omega) hm _ htab'.out).mono ?_; rintro e w' ⟨rfl, k, os, rfl⟩)
    go_ret
    exact ⟨by rw [hf'.out]; rfl, grow_below _ _⟩
end Go.Proofs.YtefhjioeceadlaaDoor
