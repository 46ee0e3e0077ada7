/- Own text: what the lexer tells, as plain functions over a text and places from 0 on: no program in sight. -/
import Derived.RowKit
namespace Go.Proofs.YtlhhpbpoioaagaaDoor
set_option linter.unusedVariables false
set_option linter.unusedSimpArgs false

/-- A byte's number; behind the end: 0. -/
def bx (s : ByteArray) (i : Nat) : Int := if h : i < s.size then ((s[i]'h).toNat : Int) else 0
theorem bx_at {s : ByteArray} {i : Nat} (h : i < s.size) : ((s[i]'h).toNat : Int) = bx s i := by simp [bx, h]
theorem bx_range (s : ByteArray) (i : Nat) : 0 ≤ bx s i ∧ bx s i ≤ 255 := by
  unfold bx
  split
  · rename_i h; have := (s[i]'h).toNat_lt; omega
  · omega
theorem bx_out {s : ByteArray} {i : Nat} (h : s.size ≤ i) : bx s i = 0 := by unfold bx; rw [dif_neg (by omega)]

def isLet (b : Int) : Bool := decide (97 ≤ b) && decide (b ≤ 122)
def digI (b : Int) : Int := if 48 ≤ b ∧ b ≤ 57 then b - 48 else if 97 ≤ b ∧ b ≤ 102 then b - 87 else 99
theorem digI_range {b : Int} (h : digI b < 99) : 0 ≤ digI b ∧ digI b ≤ 15 := by unfold digI at *; split at * <;> (try split at *) <;> omega
theorem digI_nonneg (b : Int) : 0 ≤ digI b := by unfold digI; split <;> (try split) <;> omega
def glue (s : ByteArray) (i : Nat) : Bool := decide (i < s.size) && (decide (digI (bx s i) < 10) || (isLet (bx s i) || (bx s i == 36)))
/-- How far a word goes. -/
def wordTo (s : ByteArray) : Nat → Nat → Nat
  | 0, i => i
  | k + 1, i => if i < s.size ∧ isLet (bx s i) = true then wordTo s k (i + 1) else i
/-- A number's value, and how far it goes. -/
def numTo (s : ByteArray) (base : Int) : Nat → Nat → Int → Int × Nat
  | 0, i, n => (n, i)
  | k + 1, i, n => if i < s.size ∧ digI (bx s i) < base then numTo s base k (i + 1) (min (n * base + digI (bx s i)) 65536) else (n, i)

theorem wordTo_le (s : ByteArray) : ∀ k i, i ≤ wordTo s k i
  | 0, i => Nat.le_refl _
  | k + 1, i => by unfold wordTo; split <;> first | exact Nat.le_trans (Nat.le_succ i) (wordTo_le s k (i + 1)) | exact Nat.le_refl _
theorem wordTo_size (s : ByteArray) : ∀ k i, i ≤ s.size → wordTo s k i ≤ s.size
  | 0, i, h => h
  | k + 1, i, h => by unfold wordTo; split <;> first | (rename_i h1; exact wordTo_size s k (i + 1) h1.1) | exact h
theorem numTo_le (s : ByteArray) (base : Int) : ∀ k i n, i ≤ (numTo s base k i n).2
  | 0, i, n => Nat.le_refl _
  | k + 1, i, n => by unfold numTo; split <;> first | exact Nat.le_trans (Nat.le_succ i) (numTo_le s base k (i + 1) _) | exact Nat.le_refl _
theorem numTo_size (s : ByteArray) (base : Int) : ∀ k i n, i ≤ s.size → (numTo s base k i n).2 ≤ s.size
  | 0, i, n, h => h
  | k + 1, i, n, h => by unfold numTo; split <;> first | (rename_i h1; exact numTo_size s base k (i + 1) _ h1.1) | exact h
theorem numTo_range (s : ByteArray) (base : Int) (hb : 0 ≤ base) : ∀ k i n, 0 ≤ n → n ≤ 65536 → 0 ≤ (numTo s base k i n).1 ∧ (numTo s base k i n).1 ≤ 65536
  | 0, i, n, h, h' => ⟨h, h'⟩
  | k + 1, i, n, h, h' => by
    unfold numTo
    split
    · refine numTo_range s base hb k (i + 1) _ ?_ ?_
      · have := digI_nonneg (bx s i); have := Int.mul_nonneg h hb; omega
      · omega
    · exact ⟨h, h'⟩
/-- Enough rounds are enough. -/
theorem wordTo_fuel (s : ByteArray) : ∀ k i, s.size - i ≤ k → wordTo s (k + 1) i = wordTo s k i
  | 0, i, h => by unfold wordTo; rw [if_neg (by omega)]
  | k + 1, i, h => by
    unfold wordTo
    split
    · exact wordTo_fuel s k (i + 1) (by omega)
    · rfl
theorem numTo_fuel (s : ByteArray) (base : Int) : ∀ k i n, s.size - i ≤ k → numTo s base (k + 1) i n = numTo s base k i n
  | 0, i, n, h => by unfold numTo; rw [if_neg (by omega)]
  | k + 1, i, n, h => by
    unfold numTo
    split
    · exact numTo_fuel s base k (i + 1) _ (by omega)
    · rfl
theorem wordTo_any (s : ByteArray) (i : Nat) : ∀ k, s.size - i ≤ k → wordTo s k i = wordTo s (s.size - i) i
  | 0, h => by rw [show s.size - i = 0 by omega]
  | k + 1, h => by
    rcases Nat.lt_or_ge k (s.size - i) with h1 | h1
    · rw [show k + 1 = s.size - i by omega]
    · rw [wordTo_fuel s k i h1]; exact wordTo_any s i k h1
theorem numTo_any (s : ByteArray) (base : Int) (i : Nat) (n : Int) : ∀ k, s.size - i ≤ k → numTo s base k i n = numTo s base (s.size - i) i n
  | 0, h => by rw [show s.size - i = 0 by omega]
  | k + 1, h => by
    rcases Nat.lt_or_ge k (s.size - i) with h1 | h1
    · rw [show k + 1 = s.size - i by omega]
    · rw [numTo_fuel s base k i n h1]; exact numTo_any s base i n k h1

/-- What begins at a place: the error, or (0) the token and how far it goes. -/
structure OneT where
  err : Int
  kind : Int
  text : ByteArray
  n : Int
  fin : Nat
def badT (e : Int) : OneT := ⟨e, 0, ⟨#[]⟩, 0, 0⟩
def wordT (s : ByteArray) (i : Nat) : OneT :=
  if glue s (wordTo s (s.size - i) i) = true then badT 11 else ⟨0, 1, s.extract i (wordTo s (s.size - i) i), 0, wordTo s (s.size - i) i⟩
def numT (s : ByteArray) (base : Int) (i : Nat) : OneT :=
  if (numTo s base (s.size - i) i 0).2 = i ∨ glue s (numTo s base (s.size - i) i 0).2 = true then badT 11
  else if 65535 < (numTo s base (s.size - i) i 0).1 then badT 10
  else ⟨0, 2, ⟨#[]⟩, (numTo s base (s.size - i) i 0).1, (numTo s base (s.size - i) i 0).2⟩
def oneT (s : ByteArray) (i : Nat) : OneT :=
  if isLet (bx s i) = true then wordT s i
  else if bx s i = 46 then (if bx s (i + 1) = 46 then ⟨0, 3, ⟨#[]⟩, 0, i + 2⟩ else badT 11)
  else if bx s i = 36 then numT s 16 (i + 1)
  else if digI (bx s i) < 10 then numT s 10 i
  else badT 22

structure Tok where
  kind : Int
  text : ByteArray
  n : Int
  line : Int
  col : Int
def Tok.cells (t : Tok) : List Value := [.int .i64 t.kind, .string t.text, .int .i64 t.n, .int .i64 t.line, .int .i64 t.col]
def toks (l : List Tok) : List Value := l.flatMap Tok.cells
@[simp] theorem toks_nil : toks [] = [] := rfl
@[simp] theorem toks_append (a b : List Tok) : toks (a ++ b) = toks a ++ toks b := by simp [toks]
@[simp] theorem toks_one (t : Tok) : toks [t] = t.cells := by simp [toks]
@[simp] theorem toks_len (l : List Tok) : (toks l).length = l.length * 5 := by
  induction l with
  | nil => rfl
  | cons t l ih => rw [show t :: l = [t] ++ l from rfl, toks_append, List.length_append, ih, toks_one]; simp [Tok.cells]; omega

/-- A line's tokens: (error, where, tokens). -/
def lineT (s : ByteArray) (n : Int) : Nat → Nat → Nat → List Tok → Int × Nat × List Tok
  | 0, i, _, l => (0, i, l)
  | k + 1, i, last, l =>
    if s.size ≤ i ∨ bx s i = 35 then (0, i, if l = [] then [] else l ++ [⟨4, ⟨#[]⟩, 0, n, last + 1⟩])
    else if bx s i = 32 ∨ bx s i = 9 then lineT s n k (i + 1) last l
    else if (oneT s i).err ≠ 0 then ((oneT s i).err, i, [])
    else lineT s n k (oneT s i).fin (oneT s i).fin (l ++ [⟨(oneT s i).kind, (oneT s i).text, (oneT s i).n, n, i + 1⟩])

/-- The lines' tokens: (line, column, error, tokens). -/
def linesT : List ByteArray → Int → List Tok → Int × Int × Int × List Tok
  | [], _, l => (0, 0, 0, l)
  | s :: ss, n, l =>
    if 1000 < s.size then (n, 1001, 12, [])
    else if (lineT s n (s.size + 1) 0 0 []).1 ≠ 0 then (n, (lineT s n (s.size + 1) 0 0 []).2.1 + 1, (lineT s n (s.size + 1) 0 0 []).1, [])
    else linesT ss (n + 1) (l ++ (lineT s n (s.size + 1) 0 0 []).2.2)

theorem numT_to (s : ByteArray) (base : Int) (i j : Nat) (hij : i ≤ j) (hj : j ≤ s.size) (h : (numT s base j).err = 0) : i < (numT s base j).fin ∧ (numT s base j).fin ≤ s.size := by
  revert h
  unfold numT
  have h3 := numTo_le s base (s.size - j) j 0
  have h4 := numTo_size s base (s.size - j) j 0 hj
  split
  · intro h; simp [badT] at h
  · split
    · intro h; simp [badT] at h
    · rename_i h1 h2
      simp only [not_or] at h1
      intro _
      dsimp only
      omega
theorem oneT_to (s : ByteArray) (i : Nat) (hi : i < s.size) (h : (oneT s i).err = 0) : i < (oneT s i).fin ∧ (oneT s i).fin ≤ s.size := by
  revert h
  unfold oneT
  split
  · rename_i hl
    unfold wordT
    split
    · intro h; simp [badT] at h
    · intro _
      dsimp only
      obtain ⟨m, hm⟩ : ∃ m, s.size - i = m + 1 := ⟨s.size - i - 1, by omega⟩
      rw [hm, wordTo, if_pos ⟨hi, hl⟩]
      exact ⟨wordTo_le s m (i + 1), wordTo_size s m (i + 1) hi⟩
  · split
    · split
      · rename_i h2
        intro _
        refine ⟨by dsimp only; omega, ?_⟩
        rcases Nat.lt_or_ge (i + 1) s.size with h3 | h3
        · dsimp only; omega
        · rw [bx_out h3] at h2; cases h2
      · intro h; simp [badT] at h
    · split
      · exact numT_to s 16 i (i + 1) (by omega) (by omega)
      · split
        · exact numT_to s 10 i i (by omega) (by omega)
        · intro h; simp [badT] at h
theorem lineT_succ (s : ByteArray) (n : Int) (k i last : Nat) (l : List Tok) : lineT s n (k + 1) i last l = if s.size ≤ i ∨ bx s i = 35 then (0, i, if l = [] then [] else l ++ [⟨4, ⟨#[]⟩, 0, n, last + 1⟩])
    else if bx s i = 32 ∨ bx s i = 9 then lineT s n k (i + 1) last l
    else if (oneT s i).err ≠ 0 then ((oneT s i).err, i, [])
    else lineT s n k (oneT s i).fin (oneT s i).fin (l ++ [⟨(oneT s i).kind, (oneT s i).text, (oneT s i).n, n, i + 1⟩]) := by rw [lineT]
theorem lineT_fuel (s : ByteArray) (n : Int) : ∀ k i last l, i ≤ s.size → s.size + 1 - i ≤ k → lineT s n (k + 1) i last l = lineT s n k i last l
  | 0, i, last, l, hi, h => by omega
  | k + 1, i, last, l, hi, h => by
    rw [lineT_succ s n (k + 1) i last l, lineT_succ s n k i last l]
    split
    · rfl
    · rename_i h1
      simp only [not_or] at h1
      split
      · exact lineT_fuel s n k (i + 1) last l (by omega) (by omega)
      · split
        · rfl
        · rename_i h3
          have h4 := oneT_to s i (by omega) (by simpa using h3)
          exact lineT_fuel s n k _ _ _ h4.2 (by omega)
theorem lineT_any (s : ByteArray) (n : Int) (i last : Nat) (l : List Tok) (hi : i ≤ s.size) : ∀ k, s.size + 1 - i ≤ k → lineT s n k i last l = lineT s n (s.size + 1 - i) i last l
  | 0, h => by omega
  | k + 1, h => by
    rcases Nat.lt_or_ge k (s.size + 1 - i) with h1 | h1
    · rw [show k + 1 = s.size + 1 - i by omega]
    · rw [lineT_fuel s n k i last l hi h1]; exact lineT_any s n i last l hi k h1
/-- A line's walk, place by place. -/
def lineR (s : ByteArray) (n : Int) (i last : Nat) (l : List Tok) : Int × Nat × List Tok := lineT s n (s.size + 1 - i) i last l
theorem lineR_start (s : ByteArray) (n : Int) : lineR s n 0 0 [] = lineT s n (s.size + 1) 0 0 [] := rfl
theorem lineR_end {s : ByteArray} {n : Int} {i last : Nat} {l : List Tok} (hi : i ≤ s.size) (h : s.size ≤ i ∨ bx s i = 35) : lineR s n i last l = (0, i, if l = [] then [] else l ++ [⟨4, ⟨#[]⟩, 0, n, last + 1⟩]) := by
  unfold lineR
  obtain ⟨k, hk⟩ : ∃ k, s.size + 1 - i = k + 1 := ⟨s.size - i, by omega⟩
  rw [hk, lineT_succ, if_pos h]
theorem lineR_blank {s : ByteArray} {n : Int} {i last : Nat} {l : List Tok} (hi : i < s.size) (_h : ¬ bx s i = 35) (hb : bx s i = 32 ∨ bx s i = 9) : lineR s n i last l = lineR s n (i + 1) last l := by
  unfold lineR
  rw [show s.size + 1 - i = (s.size + 1 - (i + 1)) + 1 by omega, lineT_succ, if_neg (by omega), if_pos hb]
theorem lineR_bad {s : ByteArray} {n : Int} {i last : Nat} {l : List Tok} (hi : i < s.size) (h : ¬ bx s i = 35) (hb : ¬ (bx s i = 32 ∨ bx s i = 9)) (he : (oneT s i).err ≠ 0) : lineR s n i last l = ((oneT s i).err, i, []) := by
  unfold lineR
  rw [show s.size + 1 - i = (s.size + 1 - (i + 1)) + 1 by omega, lineT_succ, if_neg (by omega), if_neg hb, if_pos he]
theorem lineR_tok {s : ByteArray} {n : Int} {i last : Nat} {l : List Tok} (hi : i < s.size) (h : ¬ bx s i = 35) (hb : ¬ (bx s i = 32 ∨ bx s i = 9)) (he : (oneT s i).err = 0) :
    lineR s n i last l = lineR s n (oneT s i).fin (oneT s i).fin (l ++ [⟨(oneT s i).kind, (oneT s i).text, (oneT s i).n, n, i + 1⟩]) := by
  have h4 := oneT_to s i hi he
  unfold lineR
  rw [show s.size + 1 - i = (s.size + 1 - (i + 1)) + 1 by omega, lineT_succ, if_neg (by omega), if_neg hb, if_neg (by simpa using he)]
  exact lineT_any s n _ _ _ h4.2 _ (by omega)
/-- An error is one of three. -/
theorem oneT_err (s : ByteArray) (i : Nat) : (oneT s i).err = 0 ∨ (oneT s i).err = 11 ∨ (oneT s i).err = 10 ∨ (oneT s i).err = 22 := by
  unfold oneT wordT numT
  repeat' split
  all_goals simp [badT]

end Go.Proofs.YtlhhpbpoioaagaaDoor
