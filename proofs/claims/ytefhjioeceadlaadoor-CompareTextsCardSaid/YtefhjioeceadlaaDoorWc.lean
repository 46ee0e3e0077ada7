import Derived.Test.YtefhjioeceadlaaDoorWa
import Derived.Test.YtefhjioeceadlaaDoorWb
import Derived.Deep.RegionHeld3
import Derived.Deep.AppendLies
import Derived.OwnWalk
namespace Go.Proofs.YtefhjioeceadlaaDoor
open Go.RowKit

def wordL (c : Int) : List UInt8 := if c = 0 then [100, 111, 110, 101] else if c = 1 then [104, 97, 108, 116] else if c = 2 then [97, 108, 97, 114, 109] else [102, 117, 108, 108]
def headL (l : Bool) : List UInt8 := if l then [108, 111, 119] else [104, 105, 103, 104]
theorem word_cell (c : Int) (h0 : 0 ≤ c) (h3 : c ≤ 3) : ([.string ⟨#[100, 111, 110, 101]⟩, .string ⟨#[104, 97, 108, 116]⟩, .string ⟨#[97, 108, 97, 114, 109]⟩, .string ⟨#[102, 117, 108, 108]⟩] : List Value)[c.toNat]? = some (.string (str (wordL c))) := by
  have : c = 0 ∨ c = 1 ∨ c = 2 ∨ c = 3 := by omega
  rcases this with rfl | rfl | rfl | rfl <;> rfl
theorem word_get (c : Int) (h0 : 0 ≤ c) (h3 : c ≤ 3) : ∀ h : c.toNat < ([.string ⟨#[100, 111, 110, 101]⟩, .string ⟨#[104, 97, 108, 116]⟩, .string ⟨#[97, 108, 97, 114, 109]⟩, .string ⟨#[102, 117, 108, 108]⟩] : List Value).length, ([.string ⟨#[100, 111, 110, 101]⟩, .string ⟨#[104, 97, 108, 116]⟩, .string ⟨#[97, 108, 97, 114, 109]⟩, .string ⟨#[102, 117, 108, 108]⟩] : List Value)[c.toNat]'h = .string (str (wordL c)) := fun h => by
  have := word_cell c h0 h3
  rw [List.getElem?_eq_getElem h] at this
  exact Option.some.inj this
theorem size_lit1 (a : UInt8) : (⟨#[a]⟩ : ByteArray).size = 1 := rfl
theorem size_lit3 (a b c : UInt8) : (⟨#[a, b, c]⟩ : ByteArray).size = 3 := rfl
theorem size_lit4 (a b c d : UInt8) : (⟨#[a, b, c, d]⟩ : ByteArray).size = 4 := rfl
theorem str_app (a b : List UInt8) : str (a ++ b) = str a ++ str b := by simp [str]; rfl
theorem word_len (c : Int) : (str (wordL c)).size ≤ 5 := by
  unfold wordL; split <;> (try split) <;> (try split) <;> simp [size_str]
theorem place_len (n : Int) (h : n ≤ 9223372036854775807) : (str (placeL n)).size ≤ 21 := by
  unfold placeL; split
  · simp [size_str]
  · have := dec_len n.toNat (by omega); rw [size_str] at this ⊢; simp; omega

/-- The text of a verdict. -/
def textL (l : Bool) (c0 c1 y0 y1 a o g n : Int) : List UInt8 :=
  headL l ++ [32] ++ wordL c0 ++ [32] ++ Lib.decDigits y0.toNat ++ [32] ++ wordL c1 ++ [32] ++ Lib.decDigits y1.toNat ++ placeL a ++ placeL o ++ placeL g ++ placeL n

set_option maxHeartbeats 1000000 in
theorem text_r (l : Bool) (c0 c1 y0 y1 a o g n : Int) (w : World) (h1 : 0 ≤ c0) (h2 : c0 ≤ 3) (h3 : 0 ≤ c1) (h4 : c1 ≤ 3) (h5 : 0 ≤ y0) (h6 : 0 ≤ y1) (m0 : y0 ≤ 9223372036854775807) (m1 : y1 ≤ 9223372036854775807)
    (ma : a ≤ 9223372036854775807) (mo : o ≤ 9223372036854775807) (mg : g ≤ 9223372036854775807) (mn : n ≤ 9223372036854775807) :
    Calls Tryd.prog 14 #[.agg #[.bool l, .int .i64 c0, .int .i64 c1, .int .i64 y0, .int .i64 y1, .int .i64 a, .int .i64 o, .int .i64 g, .int .i64 n]] w (StrBelow (textL l c0 c1 y0 y1 a o g n) w) := by
  have hc0 := word_cell c0 h1 h2
  have hc1 := word_cell c1 h3 h4
  have hg0 := word_get c0 h1 h2
  have hg1 := word_get c1 h3 h4
  have z0 := word_len c0
  have z1 := word_len c1
  obtain ⟨k0, rfl⟩ := Int.eq_ofNat_of_zero_le h5
  obtain ⟨k1, rfl⟩ := Int.eq_ofNat_of_zero_le h6
  have z2 := dec_len k0 (by omega)
  have z3 := dec_len k1 (by omega)
  have z4 := place_len a ma
  have z5 := place_len o mo
  have z6 := place_len g mg
  have z7 := place_len n mn
  have g0 : c0 < 4 := by omega
  have g1 : c1 < 4 := by omega
  cases l
  · have hfin : textL false c0 c1 k0 k1 a o g n = [104, 105, 103, 104] ++ [32] ++ wordL c0 ++ [32] ++ Lib.decDigits k0 ++ [32] ++ wordL c1 ++ [32] ++ Lib.decDigits k1 ++ placeL a ++ placeL o ++ placeL g ++ placeL n := rfl
    have hfin' := Lib.hid hfin; clear hfin
    go_enter Tryd.func14, Tryd.ntmps14
    go_wp2
    generalize hW : World.alloc (World.alloc w (.cells #[.bool false, .int .i64 c0, .int .i64 c1, .int .i64 (k0 : Int), .int .i64 (k1 : Int), .int .i64 a, .int .i64 o, .int .i64 g, .int .i64 n] 25)) (.cells #[.string ⟨#[100, 111, 110, 101]⟩, .string ⟨#[104, 97, 108, 116]⟩, .string ⟨#[97, 108, 97, 114, 109]⟩, .string ⟨#[102, 117, 108, 108]⟩] 9) = W
    have b0 : ∀ i, W.cell? ⟨w.heap.size, i, none⟩ = (#[.bool false, .int .i64 c0, .int .i64 c1, .int .i64 (k0 : Int), .int .i64 (k1 : Int), .int .i64 a, .int .i64 o, .int .i64 g, .int .i64 n] : Array Value)[i]? := by intro i; rw [← hW]; simp [go_sem]
    have b1 : ∀ i, W.cell? ⟨w.heap.size + 1, i, none⟩ = (#[.string ⟨#[100, 111, 110, 101]⟩, .string ⟨#[104, 97, 108, 116]⟩, .string ⟨#[97, 108, 97, 114, 109]⟩, .string ⟨#[102, 117, 108, 108]⟩] : Array Value)[i]? := by intro i; rw [← hW]; simp [go_sem]
    have hz : w.heap.size + 2 ≤ W.heap.size := by rw [← hW]; simp
    have hB : Below w.heap.size w W := by rw [← hW]; exact (by repeat (first | exact Below.refl _ _ | refine Below.drew ?_ | refine below_drewN ?_ _ | refine Below.alloc ?_ (by simp <;> omega) _ | refine Below.setCell ?_ (by simp <;> omega) _ | assumption | (refine Below.trans ?_ (Below.mono (by assumption) (by simp <;> omega)))))
    clear hW
    generalize hS0 : (⟨#[104, 105, 103, 104]⟩ : ByteArray) = S0
    have s0 : S0.size ≤ 4 := by rw [← hS0]; decide
    have HS0 := Lib.hid hS0; clear hS0
    have q1 : ¬ 9223372036854775807 < S0.size + 1 := by omega
    have q2 : ¬ 9223372036854775807 < S0.size + 1 + (str (wordL c0)).size := by omega
    have q3 : ¬ 9223372036854775807 < S0.size + 1 + (str (wordL c0)).size + 1 := by omega
    have q4 : ¬ 9223372036854775807 < S0.size + 1 + (str (wordL c0)).size + 1 + (str (Lib.decDigits k0)).size := by omega
    refine wp_loop_rounds 3 ?_
    rw [rounds_succ]
    go_wp2
    have  p0 := later_facts (by omega) b0
    have p1 := later_facts (by omega) b1
    refine wp_region_later (by kernel_rfl) (by kernel_rfl) ?_
    repeat (quiet_step ((go_at_call 18; exact Calls.later_of (v := .string (str (Lib.decDigits k0))) ((dec_any (k0 + 1) k0 (by omega) (by omega) _).mono fun _ _ h => h.below))))
    refine wpQuiet_nil ?_
    intro W2 ⟨pw, hpw⟩
    have hq : Below W.heap.size W W2 := by rw [hpw]; exact pw.h
    clear hpw pw
    have b0' := later_next hq (by omega) b0
    have b1' := later_next hq (by omega) b1
    have hz2 := hq.size
    clear p0 p1 b0 b1
    replace hB := hB.trans (hq.mono (by omega))
    have hz' : w.heap.size + 2 ≤ W2.heap.size := by omega
    clear hz hq hz2
    obtain ⟨b0, b1, hz⟩ := And.intro b0' (And.intro b1' hz')
    clear b0' b1' hz'
    obtain ⟨W, rfl⟩ : ∃ W, W = W2 := ⟨_, rfl⟩
    go_wp2
    generalize hS1 : (S0 ++ ⟨#[32]⟩ ++ str (wordL c0) ++ ⟨#[32]⟩ ++ str (Lib.decDigits k0) : ByteArray) = S1
    have s1 : S1.size ≤ 31 := by rw [← hS1]; simp only [ByteArray.size_append, size_lit1]; omega
    have HS1 := Lib.hid hS1; clear hS1
    have n1 : ¬ 9223372036854775807 < S1.size + 1 := by omega
    have n2 : ¬ 9223372036854775807 < S1.size + 1 + (str (wordL c1)).size := by omega
    have n3 : ¬ 9223372036854775807 < S1.size + 1 + (str (wordL c1)).size + 1 := by omega
    have n4 : ¬ 9223372036854775807 < S1.size + 1 + (str (wordL c1)).size + 1 + (str (Lib.decDigits k1)).size := by omega
    rw [rounds_succ]
    go_wp2
    have p0 := later_facts (by omega) b0
    have p1 := later_facts (by omega) b1
    refine wp_region_later (by kernel_rfl) (by kernel_rfl) ?_
    repeat (quiet_step ((go_at_call 18; exact Calls.later_of (v := .string (str (Lib.decDigits k1))) ((dec_any (k1 + 1) k1 (by omega) (by omega) _).mono fun _ _ h => h.below))))
    refine wpQuiet_nil ?_
    intro W2 ⟨pw, hpw⟩
    have hq : Below W.heap.size W W2 := by rw [hpw]; exact pw.h
    clear hpw pw
    have b0' := later_next hq (by omega) b0
    have b1' := later_next hq (by omega) b1
    have hz2 := hq.size
    clear p0 p1 b0 b1
    replace hB := hB.trans (hq.mono (by omega))
    have hz' : w.heap.size + 2 ≤ W2.heap.size := by omega
    clear hz hq hz2
    obtain ⟨b0, b1, hz⟩ := And.intro b0' (And.intro b1' hz')
    clear b0' b1' hz'
    obtain ⟨W, rfl⟩ : ∃ W, W = W2 := ⟨_, rfl⟩
    go_wp2
    generalize hS2 : (S1 ++ ⟨#[32]⟩ ++ str (wordL c1) ++ ⟨#[32]⟩ ++ str (Lib.decDigits k1) : ByteArray) = S2
    have s2 : S2.size ≤ 60 := by rw [← hS2]; simp only [ByteArray.size_append, size_lit1]; omega
    have HS2 := Lib.hid hS2; clear hS2
    have n5 : ¬ 9223372036854775807 < S2.size + (str (placeL a)).size := by omega
    have n6 : ¬ 9223372036854775807 < S2.size + (str (placeL a)).size + (str (placeL o)).size := by omega
    have n7 : ¬ 9223372036854775807 < S2.size + (str (placeL a)).size + (str (placeL o)).size + (str (placeL g)).size := by omega
    have n8 : ¬ 9223372036854775807 < S2.size + (str (placeL a)).size + (str (placeL o)).size + (str (placeL g)).size + (str (placeL n)).size := by omega
    rw [rounds_succ]
    go_wp2
    have p0 := later_facts (by omega) b0
    refine wp_region_later (by kernel_rfl) (by kernel_rfl) ?_
    repeat (quiet_step ((first
      | (go_at_call_of 19 a; exact Calls.later_of (v := .string (str (placeL a))) ((place_any a ma _).mono fun _ _ h => h.below))
      | (go_at_call_of 19 o; exact Calls.later_of (v := .string (str (placeL o))) ((place_any o mo _).mono fun _ _ h => h.below))
      | (go_at_call_of 19 g; exact Calls.later_of (v := .string (str (placeL g))) ((place_any g mg _).mono fun _ _ h => h.below))
      | (go_at_call_of 19 n; exact Calls.later_of (v := .string (str (placeL n))) ((place_any n mn _).mono fun _ _ h => h.below)))))
    refine wpQuiet_nil ?_
    intro W2 ⟨pw, hpw⟩
    have hq : Below W.heap.size W W2 := by rw [hpw]; exact pw.h
    clear hpw pw
    go_wp2
    go_ret
    refine ⟨?_, hB.trans (hq.mono hB.size)⟩
    have e : str (textL false c0 c1 k0 k1 a o g n) = S2 ++ str (placeL a) ++ str (placeL o) ++ str (placeL g) ++ str (placeL n) := by
      rw [← HS2.out, ← HS1.out, ← HS0.out, hfin'.out]; simp only [str_app]; rfl
    rw [e]; rfl
  · have hfin : textL true c0 c1 k0 k1 a o g n = [108, 111, 119] ++ [32] ++ wordL c0 ++ [32] ++ Lib.decDigits k0 ++ [32] ++ wordL c1 ++ [32] ++ Lib.decDigits k1 ++ placeL a ++ placeL o ++ placeL g ++ placeL n := rfl
    have hfin' := Lib.hid hfin; clear hfin
    go_enter Tryd.func14, Tryd.ntmps14
    go_wp2
    generalize hW : World.alloc (World.alloc w (.cells #[.bool true, .int .i64 c0, .int .i64 c1, .int .i64 (k0 : Int), .int .i64 (k1 : Int), .int .i64 a, .int .i64 o, .int .i64 g, .int .i64 n] 25)) (.cells #[.string ⟨#[100, 111, 110, 101]⟩, .string ⟨#[104, 97, 108, 116]⟩, .string ⟨#[97, 108, 97, 114, 109]⟩, .string ⟨#[102, 117, 108, 108]⟩] 9) = W
    have b0 : ∀ i, W.cell? ⟨w.heap.size, i, none⟩ = (#[.bool true, .int .i64 c0, .int .i64 c1, .int .i64 (k0 : Int), .int .i64 (k1 : Int), .int .i64 a, .int .i64 o, .int .i64 g, .int .i64 n] : Array Value)[i]? := by intro i; rw [← hW]; simp [go_sem]
    have b1 : ∀ i, W.cell? ⟨w.heap.size + 1, i, none⟩ = (#[.string ⟨#[100, 111, 110, 101]⟩, .string ⟨#[104, 97, 108, 116]⟩, .string ⟨#[97, 108, 97, 114, 109]⟩, .string ⟨#[102, 117, 108, 108]⟩] : Array Value)[i]? := by intro i; rw [← hW]; simp [go_sem]
    have hz : w.heap.size + 2 ≤ W.heap.size := by rw [← hW]; simp
    have hB : Below w.heap.size w W := by rw [← hW]; exact (by repeat (first | exact Below.refl _ _ | refine Below.drew ?_ | refine below_drewN ?_ _ | refine Below.alloc ?_ (by simp <;> omega) _ | refine Below.setCell ?_ (by simp <;> omega) _ | assumption | (refine Below.trans ?_ (Below.mono (by assumption) (by simp <;> omega)))))
    clear hW
    generalize hS0 : (⟨#[108, 111, 119]⟩ : ByteArray) = S0
    have s0 : S0.size ≤ 4 := by rw [← hS0]; decide
    have HS0 := Lib.hid hS0; clear hS0
    have q1 : ¬ 9223372036854775807 < S0.size + 1 := by omega
    have q2 : ¬ 9223372036854775807 < S0.size + 1 + (str (wordL c0)).size := by omega
    have q3 : ¬ 9223372036854775807 < S0.size + 1 + (str (wordL c0)).size + 1 := by omega
    have q4 : ¬ 9223372036854775807 < S0.size + 1 + (str (wordL c0)).size + 1 + (str (Lib.decDigits k0)).size := by omega
    refine wp_loop_rounds 3 ?_
    rw [rounds_succ]
    go_wp2
    have  p0 := later_facts (by omega) b0
    have p1 := later_facts (by omega) b1
    refine wp_region_later (by kernel_rfl) (by kernel_rfl) ?_
    repeat (quiet_step ((go_at_call 18; exact Calls.later_of (v := .string (str (Lib.decDigits k0))) ((dec_any (k0 + 1) k0 (by omega) (by omega) _).mono fun _ _ h => h.below))))
    refine wpQuiet_nil ?_
    intro W2 ⟨pw, hpw⟩
    have hq : Below W.heap.size W W2 := by rw [hpw]; exact pw.h
    clear hpw pw
    have b0' := later_next hq (by omega) b0
    have b1' := later_next hq (by omega) b1
    have hz2 := hq.size
    clear p0 p1 b0 b1
    replace hB := hB.trans (hq.mono (by omega))
    have hz' : w.heap.size + 2 ≤ W2.heap.size := by omega
    clear hz hq hz2
    obtain ⟨b0, b1, hz⟩ := And.intro b0' (And.intro b1' hz')
    clear b0' b1' hz'
    obtain ⟨W, rfl⟩ : ∃ W, W = W2 := ⟨_, rfl⟩
    go_wp2
    generalize hS1 : (S0 ++ ⟨#[32]⟩ ++ str (wordL c0) ++ ⟨#[32]⟩ ++ str (Lib.decDigits k0) : ByteArray) = S1
    have s1 : S1.size ≤ 31 := by rw [← hS1]; simp only [ByteArray.size_append, size_lit1]; omega
    have HS1 := Lib.hid hS1; clear hS1
    have n1 : ¬ 9223372036854775807 < S1.size + 1 := by omega
    have n2 : ¬ 9223372036854775807 < S1.size + 1 + (str (wordL c1)).size := by omega
    have n3 : ¬ 9223372036854775807 < S1.size + 1 + (str (wordL c1)).size + 1 := by omega
    have n4 : ¬ 9223372036854775807 < S1.size + 1 + (str (wordL c1)).size + 1 + (str (Lib.decDigits k1)).size := by omega
    rw [rounds_succ]
    go_wp2
    have p0 := later_facts (by omega) b0
    have p1 := later_facts (by omega) b1
    refine wp_region_later (by kernel_rfl) (by kernel_rfl) ?_
    repeat (quiet_step ((go_at_call 18; exact Calls.later_of (v := .string (str (Lib.decDigits k1))) ((dec_any (k1 + 1) k1 (by omega) (by omega) _).mono fun _ _ h => h.below))))
    refine wpQuiet_nil ?_
    intro W2 ⟨pw, hpw⟩
    have hq : Below W.heap.size W W2 := by rw [hpw]; exact pw.h
    clear hpw pw
    have b0' := later_next hq (by omega) b0
    have b1' := later_next hq (by omega) b1
    have hz2 := hq.size
    clear p0 p1 b0 b1
    replace hB := hB.trans (hq.mono (by omega))
    have hz' : w.heap.size + 2 ≤ W2.heap.size := by omega
    clear hz hq hz2
    obtain ⟨b0, b1, hz⟩ := And.intro b0' (And.intro b1' hz')
    clear b0' b1' hz'
    obtain ⟨W, rfl⟩ : ∃ W, W = W2 := ⟨_, rfl⟩
    go_wp2
    generalize hS2 : (S1 ++ ⟨#[32]⟩ ++ str (wordL c1) ++ ⟨#[32]⟩ ++ str (Lib.decDigits k1) : ByteArray) = S2
    have s2 : S2.size ≤ 60 := by rw [← hS2]; simp only [ByteArray.size_append, size_lit1]; omega
    have HS2 := Lib.hid hS2; clear hS2
    have n5 : ¬ 9223372036854775807 < S2.size + (str (placeL a)).size := by omega
    have n6 : ¬ 9223372036854775807 < S2.size + (str (placeL a)).size + (str (placeL o)).size := by omega
    have n7 : ¬ 9223372036854775807 < S2.size + (str (placeL a)).size + (str (placeL o)).size + (str (placeL g)).size := by omega
    have n8 : ¬ 9223372036854775807 < S2.size + (str (placeL a)).size + (str (placeL o)).size + (str (placeL g)).size + (str (placeL n)).size := by omega
    rw [rounds_succ]
    go_wp2
    have p0 := later_facts (by omega) b0
    refine wp_region_later (by kernel_rfl) (by kernel_rfl) ?_
    repeat (quiet_step ((first
      | (go_at_call_of 19 a; exact Calls.later_of (v := .string (str (placeL a))) ((place_any a ma _).mono fun _ _ h => h.below))
      | (go_at_call_of 19 o; exact Calls.later_of (v := .string (str (placeL o))) ((place_any o mo _).mono fun _ _ h => h.below))
      | (go_at_call_of 19 g; exact Calls.later_of (v := .string (str (placeL g))) ((place_any g mg _).mono fun _ _ h => h.below))
      | (go_at_call_of 19 n; exact Calls.later_of (v := .string (str (placeL n))) ((place_any n mn _).mono fun _ _ h => h.below)))))
    refine wpQuiet_nil ?_
    intro W2 ⟨pw, hpw⟩
    have hq : Below W.heap.size W W2 := by rw [hpw]; exact pw.h
    clear hpw pw
    go_wp2
    go_ret
    refine ⟨?_, hB.trans (hq.mono hB.size)⟩
    have e : str (textL true c0 c1 k0 k1 a o g n) = S2 ++ str (placeL a) ++ str (placeL o) ++ str (placeL g) ++ str (placeL n) := by
      rw [← HS2.out, ← HS1.out, ← HS0.out, hfin'.out]; simp only [str_app]; rfl
    rw [e]; rfl
end Go.Proofs.YtefhjioeceadlaaDoor
