/- Own text: what stands at a token's place, and that places rise: plain. -/
import Derived.Test.YtlhhpbpoioaagaaDoorLines
namespace Go.Proofs.YtlhhpbpoioaagaaDoor
set_option linter.unusedVariables false
set_option linter.unusedSimpArgs false
open Go

theorem bx_extract (s : ByteArray) (a b q : Nat) (h : a + q < b) (hb : b ≤ s.size) : bx (s.extract a b) q = bx s (a + q) := by
  have hq : q < (s.extract a b).size := by rw [ByteArray.size_extract]; omega
  have ha : a + q < s.size := by omega
  unfold bx
  rw [dif_pos hq, dif_pos ha]
  rw [ByteArray.getElem_extract]
theorem size_ext (s : ByteArray) (a b : Nat) (h : b ≤ s.size) : (s.extract a b).size = b - a := by rw [ByteArray.size_extract]; omega

/-- A token of line n, in the line's text. -/
structure Good (x : ByteArray) (n : Int) (t : Tok) : Prop where
  line : t.line = n
  col : 1 ≤ t.col
  fits : t.col ≤ (x.size : Int) + 1
  word : t.kind = 1 → t.col - 1 + (t.text.size : Int) ≤ x.size ∧ x.extract (t.col - 1).toNat ((t.col - 1).toNat + t.text.size) = t.text
  dots : t.kind = 3 → t.col + 1 ≤ (x.size : Int) ∧ bx x (t.col - 1).toNat = 46 ∧ bx x ((t.col - 1).toNat + 1) = 46

def Below' (a b : Int × Int) : Prop := a.1 < b.1 ∨ a.1 = b.1 ∧ a.2 < b.2
def Rises : Int × Int → List Tok → Prop
  | _, [] => True
  | p, t :: l => Below' p (t.line, t.col) ∧ Rises (t.line, t.col) l
def lastOf : Int × Int → List Tok → Int × Int
  | p, [] => p
  | _, t :: l => lastOf (t.line, t.col) l
theorem lastOf_append (p : Int × Int) (l m : List Tok) : lastOf p (l ++ m) = lastOf (lastOf p l) m := by
  induction l generalizing p with
  | nil => rfl
  | cons t l ih => exact ih _
theorem rises_append (p : Int × Int) (l m : List Tok) : Rises p (l ++ m) ↔ Rises p l ∧ Rises (lastOf p l) m := by
  induction l generalizing p with
  | nil => simp [Rises, lastOf]
  | cons t l ih => simp only [List.cons_append, Rises, lastOf, ih, and_assoc]
theorem below_trans {a b c : Int × Int} (h : Below' a b) (h2 : Below' b c) : Below' a c := by unfold Below' at *; omega
theorem rises_get {p : Int × Int} {l : List Tok} (h : Rises p l) (i : Nat) (t : Tok) (ht : l[i]? = some t) : Below' (lastOf p (l.take i)) (t.line, t.col) := by
  induction l generalizing p i with
  | nil => simp at ht
  | cons u l ih =>
    cases i with
    | zero => simp at ht; subst ht; exact h.1
    | succ i => simp at ht; exact ih h.2 i ht

theorem oneT_good (x : ByteArray) (n : Int) (i : Nat) (hi : i < x.size) (h : (oneT x i).err = 0) : Good x n ⟨(oneT x i).kind, (oneT x i).text, (oneT x i).n, n, i + 1⟩ := by
  refine ⟨rfl, by dsimp only; omega, by dsimp only; omega, ?_, ?_⟩
  · dsimp only
    have e : ((i : Int) + 1 - 1).toNat = i := by omega
    rw [e]
    intro hk
    have h2 := oneT_to x i hi h
    revert h hk h2
    unfold oneT
    split
    · unfold wordT
      split
      · intro h; simp [badT] at h
      · intro _ _ h2
        dsimp only at h2 ⊢
        rw [size_ext _ _ _ h2.2, show i + (wordTo x (x.size - i) i - i) = wordTo x (x.size - i) i by omega]
        exact ⟨by omega, rfl⟩
    · split
      · split
        · intro _ h; cases h
        · intro h; simp [badT] at h
      · split
        · unfold numT
          split
          · intro h; simp [badT] at h
          · split
            · intro h; simp [badT] at h
            · intro _ h; cases h
        · split
          · unfold numT
            split
            · intro h; simp [badT] at h
            · split
              · intro h; simp [badT] at h
              · intro _ h; cases h
          · intro h; simp [badT] at h
  · dsimp only
    have e : ((i : Int) + 1 - 1).toNat = i := by omega
    rw [e]
    intro hk
    have h2 := oneT_to x i hi h
    revert h hk h2
    unfold oneT
    split
    · unfold wordT
      split
      · intro h; simp [badT] at h
      · intro _ h; cases h
    · split
      · rename_i h46
        split
        · rename_i h47
          intro _ _ h2
          dsimp only at h2
          exact ⟨by omega, h46, h47⟩
        · intro h; simp [badT] at h
      · split
        · unfold numT
          split
          · intro h; simp [badT] at h
          · split
            · intro h; simp [badT] at h
            · intro _ h; cases h
        · split
          · unfold numT
            split
            · intro h; simp [badT] at h
            · split
              · intro h; simp [badT] at h
              · intro _ h; cases h
          · intro h; simp [badT] at h

/-- What is collected of a line, up to a place. -/
structure LineGood (x : ByteArray) (n : Int) (i last : Nat) (l : List Tok) : Prop where
  all : ∀ t ∈ l, Good x n t
  rise : Rises (n, 0) l
  top : l ≠ [] → lastOf (n, 0) l = (n, (lastOf (n, 0) l).2) ∧ (lastOf (n, 0) l).2 ≤ last
  le : last ≤ i

theorem lineGood_tok {x : ByteArray} {n : Int} {i last : Nat} {l : List Tok} (h : LineGood x n i last l) (t : Tok) (ht : Good x n t) (hc : t.col = (i : Int) + 1) (j : Nat) (hj : i < j) : LineGood x n j j (l ++ [t]) := by
  refine ⟨?_, ?_, ?_, Nat.le_refl _⟩
  · intro u hu
    rw [List.mem_append, List.mem_singleton] at hu
    rcases hu with hu | rfl
    · exact h.all u hu
    · exact ht
  · rw [rises_append]
    refine ⟨h.rise, ⟨?_, trivial⟩⟩
    by_cases hl : l = []
    · subst hl; right; exact ⟨ht.line.symm, by show (0 : Int) < t.col; omega⟩
    · obtain ⟨h1, h2⟩ := h.top hl
      rw [h1]; right; exact ⟨ht.line.symm, by show _ < t.col; have := h.le; omega⟩
  · intro _
    rw [lastOf_append]
    show (t.line, t.col) = (n, t.col) ∧ t.col ≤ j
    exact ⟨by rw [ht.line], by omega⟩

theorem lineR_good (x : ByteArray) (n : Int) : ∀ (d i last : Nat) (l : List Tok), x.size - i ≤ d → i ≤ x.size → LineGood x n i last l →
    (∀ t ∈ (lineR x n i last l).2.2, Good x n t) ∧ Rises (n, 0) (lineR x n i last l).2.2 := by
  intro d
  induction d with
  | zero =>
    intro i last l hd hi h
    rw [lineR_end hi (.inl (by omega))]
    dsimp only
    split
    · exact ⟨by simp, trivial⟩
    · rename_i hl
      obtain ⟨h1, h2⟩ := h.top hl
      have hle := h.le
      refine ⟨?_, ?_⟩
      · intro t ht
        rw [List.mem_append, List.mem_singleton] at ht
        rcases ht with ht | rfl
        · exact h.all t ht
        · exact ⟨rfl, by dsimp only; omega, by dsimp only; omega, fun h => (by cases h), fun h => (by cases h)⟩
      · rw [rises_append]
        refine ⟨h.rise, ⟨?_, trivial⟩⟩
        rw [h1]; right; exact ⟨rfl, by show _ < (last : Int) + 1; omega⟩
  | succ d ih =>
    intro i last l hd hi h
    by_cases h1 : x.size ≤ i ∨ bx x i = 35
    · rw [lineR_end hi h1]
      dsimp only
      split
      · exact ⟨by simp, trivial⟩
      · rename_i hl
        obtain ⟨h1, h2⟩ := h.top hl
        have hle := h.le
        refine ⟨?_, ?_⟩
        · intro t ht
          rw [List.mem_append, List.mem_singleton] at ht
          rcases ht with ht | rfl
          · exact h.all t ht
          · exact ⟨rfl, by dsimp only; omega, by dsimp only; omega, fun h => (by cases h), fun h => (by cases h)⟩
        · rw [rises_append]
          refine ⟨h.rise, ⟨?_, trivial⟩⟩
          rw [h1]; right; exact ⟨rfl, by show _ < (last : Int) + 1; omega⟩
    · simp only [not_or] at h1
      have hi2 : i < x.size := by omega
      by_cases h2 : bx x i = 32 ∨ bx x i = 9
      · rw [lineR_blank hi2 h1.2 h2]
        exact ih (i + 1) last l (by omega) (by omega) ⟨h.all, h.rise, h.top, by have := h.le; omega⟩
      · by_cases h3 : (oneT x i).err = 0
        · have h4 := oneT_to x i hi2 h3
          rw [lineR_tok hi2 h1.2 h2 h3]
          exact ih _ _ _ (by omega) h4.2 (lineGood_tok h _ (oneT_good x n i hi2 h3) rfl _ h4.1)
        · rw [lineR_bad hi2 h1.2 h2 h3]
          exact ⟨by simp, trivial⟩
theorem line_good (x : ByteArray) (n : Int) : (∀ t ∈ (lineR x n 0 0 []).2.2, Good x n t) ∧ Rises (n, 0) (lineR x n 0 0 []).2.2 :=
  lineR_good x n x.size 0 0 [] (by omega) (Nat.zero_le _) ⟨by simp, trivial, fun h => absurd rfl h, Nat.le_refl _⟩

/-- Where lines begin, up to a byte. -/
def begs (s : ByteArray) : Nat → List Nat
  | 0 => [0]
  | i + 1 => if bx s i = 10 then begs s i ++ [i + 1] else begs s i
theorem begs_skip (s : ByteArray) (i : Nat) : ∀ d, (∀ q, i ≤ q → q < i + d → bx s q ≠ 10) → begs s (i + d) = begs s i
  | 0, _ => rfl
  | d + 1, h => by
    show (if bx s (i + d) = 10 then _ else _) = _
    rw [if_neg (h (i + d) (by omega) (by omega))]
    exact begs_skip s i d fun q h1 h2 => h q h1 (by omega)
theorem begs_grow (s : ByteArray) (i : Nat) : ∀ d, begs s i <+: begs s (i + d)
  | 0 => List.prefix_refl _
  | d + 1 => by
    show begs s i <+: (if bx s (i + d) = 10 then begs s (i + d) ++ [i + d + 1] else begs s (i + d))
    split
    · exact (begs_grow s i d).trans (List.prefix_append _ _)
    · exact begs_grow s i d
theorem begs_len (s : ByteArray) : ∀ i, (begs s i).length ≤ i + 1
  | 0 => Nat.le_refl _
  | i + 1 => by
    have := begs_len s i
    show (if bx s i = 10 then begs s i ++ [i + 1] else begs s i).length ≤ _
    split
    · simp; omega
    · omega

/-- A token of a text stands where it is said to stand. -/
structure Stands (s : ByteArray) (t : Tok) : Prop where
  line : 1 ≤ t.line
  col : 1 ≤ t.col
  at_ : ∃ b : Nat, (begs s s.size)[(t.line - 1).toNat]? = some b ∧ t.line ≤ (begs s s.size).length ∧ (b : Int) + t.col - 1 ≤ s.size ∧
    (t.kind = 1 → (b : Int) + t.col - 1 + (t.text.size : Int) ≤ s.size ∧ s.extract ((b : Int) + t.col - 1).toNat (((b : Int) + t.col - 1).toNat + t.text.size) = t.text) ∧
    (t.kind = 3 → (b : Int) + t.col + 1 ≤ s.size ∧ bx s ((b : Int) + t.col - 1).toNat = 46 ∧ bx s (((b : Int) + t.col - 1).toNat + 1) = 46)

theorem stands_of (s : ByteArray) (b j : Nat) (n : Nat) (hn : 1 ≤ n) (hbj : b ≤ j) (hj : j ≤ s.size) (hb : (begs s b)[n - 1]? = some b) (t : Tok) (h : Good (s.extract b j) n t) : Stands s t := by
  have hs := size_ext s b j hj
  have h1 := h.line
  have h2 := h.col
  have h3 := h.fits
  rw [hs] at h3
  have hg : (begs s s.size)[(t.line - 1).toNat]? = some b := by
    have hp : begs s b <+: begs s s.size := by have := begs_grow s b (s.size - b); rwa [show b + (s.size - b) = s.size by omega] at this
    rw [show (t.line - 1).toNat = n - 1 by omega]
    obtain ⟨r, hr⟩ := hp
    have hlt : n - 1 < (begs s b).length := (List.getElem?_eq_some_iff.1 hb).1
    rw [← hr, List.getElem?_append_left hlt]
    exact hb
  have hlt := (List.getElem?_eq_some_iff.1 hg).1
  refine ⟨by omega, h2, b, hg, by omega, by omega, ?_, ?_⟩
  · intro hk
    obtain ⟨h4, h5⟩ := h.word hk
    rw [hs] at h4
    refine ⟨by omega, ?_⟩
    rw [ByteArray.extract_extract] at h5
    rw [← h5]
    have : t.text.size = (s.extract (b + (t.col - 1).toNat) (min (b + ((t.col - 1).toNat + t.text.size)) j)).size := by rw [h5]
    congr 1 <;> omega
  · intro hk
    obtain ⟨h4, h5, h6⟩ := h.dots hk
    rw [hs] at h4
    rw [bx_extract s b j _ (by omega) hj] at h5 h6
    refine ⟨by omega, ?_, ?_⟩
    · rw [← h5]; congr 1; omega
    · rw [← h6]; congr 1; omega

theorem begs_at (s : ByteArray) (i : Nat) (hi : i ≤ s.size) (h : lfAt s i < s.size) : begs s (lfAt s i + 1) = begs s i ++ [lfAt s i + 1] := by
  have h1 := lfAt_le s i
  show (if bx s (lfAt s i) = 10 then _ else _) = _
  rw [if_pos (lfAt_is s i h)]
  have := begs_skip s i (lfAt s i - i) fun q h2 h3 => lfAt_no s i q h2 (by omega)
  rw [show i + (lfAt s i - i) = lfAt s i by omega] at this
  rw [this]

theorem rises_low {p q : Int × Int} {l : List Tok} (h : Rises p l) (hq : ∀ t, Below' p t → Below' q t) : Rises q l := by
  cases l with
  | nil => trivial
  | cons t l => exact ⟨hq _ h.1, h.2⟩
theorem last_line {p : Int × Int} {l : List Tok} {n : Int} (hp : p.1 < n) (h : ∀ t ∈ l, t.line < n) : (lastOf p l).1 < n := by
  induction l generalizing p with
  | nil => exact hp
  | cons t l ih => exact ih (p := (t.line, t.col)) (h t List.mem_cons_self) fun u hu => h u (List.mem_cons_of_mem _ hu)

theorem lines_stand (s : ByteArray) : ∀ (k i n : Nat) (l : List Tok), s.size - i ≤ k → i ≤ s.size → 1 ≤ n → (begs s i).length = n → (begs s i)[n - 1]? = some i →
    (∀ t ∈ l, Stands s t ∧ t.line < n) → Rises (0, 0) l → (∀ t ∈ (linesT (linesFrom s k i) n l).2.2.2, Stands s t) ∧ Rises (0, 0) (linesT (linesFrom s k i) n l).2.2.2 := by
  have one : ∀ (i j n : Nat) (l : List Tok), i ≤ j → j ≤ s.size → 1 ≤ n → (begs s i)[n - 1]? = some i → (∀ t ∈ l, Stands s t ∧ t.line < n) → Rises (0, 0) l →
      (∀ t ∈ l ++ (lineR (s.extract i j) n 0 0 []).2.2, Stands s t ∧ t.line < ((n : Int) + 1)) ∧ Rises (0, 0) (l ++ (lineR (s.extract i j) n 0 0 []).2.2) := by
    intro i j n l hij hj hn hb hl hr
    obtain ⟨g1, g2⟩ := line_good (s.extract i j) n
    refine ⟨?_, ?_⟩
    · intro t ht
      rw [List.mem_append] at ht
      rcases ht with ht | ht
      · exact ⟨(hl t ht).1, by have := (hl t ht).2; omega⟩
      · exact ⟨stands_of s i j n hn hij hj hb t (g1 t ht), by have := (g1 t ht).line; omega⟩
    · rw [rises_append]
      refine ⟨hr, rises_low g2 ?_⟩
      intro t ht
      have hlow := last_line (p := (0, 0)) (l := l) (n := (n : Int)) (by show (0 : Int) < n; omega) (fun t ht => (hl t ht).2)
      unfold Below' at ht ⊢
      dsimp only at ht
      omega
  intro k
  induction k with
  | zero =>
    intro i n l hk hi hn hbl hb hl hr
    unfold linesFrom
    rw [linesT_cons]
    split
    · exact ⟨by simp, trivial⟩
    · split
      · exact ⟨by simp, trivial⟩
      · obtain ⟨h1, h2⟩ := one i s.size n l hi (Nat.le_refl _) hn hb hl hr
        exact ⟨fun t ht => (h1 t ht).1, h2⟩
  | succ k ih =>
    intro i n l hk hi hn hbl hb hl hr
    have h3 := lfAt_le s i
    have h4 := lfAt_size s i hi
    unfold linesFrom
    split
    · rw [linesT_cons]
      split
      · exact ⟨by simp, trivial⟩
      · split
        · exact ⟨by simp, trivial⟩
        · obtain ⟨h1, h2⟩ := one i s.size n l hi (Nat.le_refl _) hn hb hl hr
          exact ⟨fun t ht => (h1 t ht).1, h2⟩
    · rename_i h5
      rw [linesT_cons]
      split
      · exact ⟨by simp, trivial⟩
      · split
        · exact ⟨by simp, trivial⟩
        · obtain ⟨h1, h2⟩ := one i (lfAt s i) n l h3 h4 hn hb hl hr
          have hb2 := begs_at s i hi (by omega)
          refine ih (lfAt s i + 1) (n + 1) _ (by omega) (by omega) (by omega) ?_ ?_ ?_ h2
          · rw [hb2]; simp [hbl]
          · rw [hb2, List.getElem?_append_right (by omega)]; simp [hbl]
          · intro t ht
            exact ⟨(h1 t ht).1, by have := (h1 t ht).2; simpa using this⟩
/-- All tokens of a text stand where they are said to stand, and places rise. -/
theorem scan_stands (s : ByteArray) : (∀ t ∈ (scanT s).2.2.2, Stands s t) ∧ Rises (0, 0) (scanT s).2.2.2 := by
  unfold scanT
  split
  · exact ⟨by simp, trivial⟩
  · rw [linesOf_from]
    exact lines_stand s s.size 0 1 [] (by omega) (Nat.zero_le _) (Nat.le_refl _) rfl rfl (by simp) trivial
end Go.Proofs.YtlhhpbpoioaagaaDoor
