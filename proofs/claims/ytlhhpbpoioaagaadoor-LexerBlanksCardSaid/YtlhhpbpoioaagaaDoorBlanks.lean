/- Own text: remarks, blanks and lines without tokens do not count: plain. -/
import Derived.Test.YtlhhpbpoioaagaaDoorPlaces
namespace Go.Proofs.YtlhhpbpoioaagaaDoor
set_option linter.unusedVariables false
set_option linter.unusedSimpArgs false
open Go

/-- What a token says, but for its place. -/
def bareT (t : Tok) : Int × ByteArray × Int := (t.kind, t.text, t.n)
def Sim (l l' : List Tok) : Prop := l.map bareT = l'.map bareT
theorem sim_nil {l l' : List Tok} (h : Sim l l') : l = [] ↔ l' = [] := by
  unfold Sim at h
  constructor
  · intro e; subst e; simpa using h.symm
  · intro e; subst e; simpa using h
theorem sim_append {l l' m m' : List Tok} (h : Sim l l') (h2 : Sim m m') : Sim (l ++ m) (l' ++ m') := by
  unfold Sim at *; rw [List.map_append, List.map_append, h, h2]

/-- A line within another one: blanks ahead, then blanks and a remark. -/
structure Shift (z x : ByteArray) (d : Nat) : Prop where
  size : d + x.size < z.size
  head : ∀ q, q < d → bx z q = 32
  mid : ∀ q, q < x.size → bx z (d + q) = bx x q
  tail : ∃ e, e < z.size ∧ d + x.size ≤ e ∧ bx z e = 35 ∧ ∀ q, d + x.size ≤ q → q < e → bx z q = 32 ∨ bx z q = 9

variable {z x : ByteArray} {d : Nat}
theorem Shift.at_ (h : Shift z x d) (q : Nat) (hq : q ≤ x.size) : (q < x.size ∧ bx z (d + q) = bx x q) ∨ (q = x.size ∧ bx x q = 0 ∧ (bx z (d + q) = 32 ∨ bx z (d + q) = 9 ∨ bx z (d + q) = 35)) := by
  rcases Nat.lt_or_ge q x.size with h1 | h1
  · exact .inl ⟨h1, h.mid q h1⟩
  · obtain rfl : q = x.size := by omega
    refine .inr ⟨rfl, bx_out (Nat.le_refl _), ?_⟩
    obtain ⟨e, _, h3, h4, h5⟩ := h.tail
    rcases Nat.lt_or_ge (d + x.size) e with h6 | h6
    · rcases h5 _ (Nat.le_refl _) h6 with h7 | h7
      · exact .inl h7
      · exact .inr (.inl h7)
    · rw [show d + x.size = e by omega]; exact .inr (.inr h4)
theorem Shift.isLet (h : Shift z x d) (q : Nat) (hq : q ≤ x.size) : isLet (bx z (d + q)) = isLet (bx x q) := by
  rcases h.at_ q hq with ⟨_, h1⟩ | ⟨_, h1, h2 | h2 | h2⟩
  · rw [h1]
  all_goals rw [h1, h2]; decide
theorem Shift.digI (h : Shift z x d) (q : Nat) (hq : q ≤ x.size) : digI (bx z (d + q)) = digI (bx x q) := by
  rcases h.at_ q hq with ⟨_, h1⟩ | ⟨_, h1, h2 | h2 | h2⟩
  · rw [h1]
  all_goals rw [h1, h2]; decide
theorem Shift.eq (h : Shift z x d) (c : Int) (hc : c = 36 ∨ c = 46) (q : Nat) (hq : q ≤ x.size) : (bx z (d + q) = c) ↔ (bx x q = c) := by
  rcases h.at_ q hq with ⟨_, h1⟩ | ⟨_, h1, h2 | h2 | h2⟩
  · rw [h1]
  all_goals rw [h1, h2]; omega
theorem Shift.glue (h : Shift z x d) (q : Nat) (hq : q ≤ x.size) : glue z (d + q) = glue x q := by
  have hs := h.size
  unfold Go.Proofs.YtlhhpbpoioaagaaDoor.glue
  rw [h.isLet q hq, h.digI q hq]
  rcases h.at_ q hq with ⟨h0, h1⟩ | ⟨h0, h1, h2⟩
  · rw [h1, decide_eq_true h0, decide_eq_true (show d + q < z.size by omega)]
  · rw [h1]
    have e1 : (bx z (d + q) == 36) = false := by rcases h2 with h2 | h2 | h2 <;> rw [h2] <;> decide
    rw [e1, decide_eq_false (show ¬ q < x.size by omega)]
    have e2 : decide (Go.Proofs.YtlhhpbpoioaagaaDoor.digI 0 < 10) = false := by decide
    have e3 : Go.Proofs.YtlhhpbpoioaagaaDoor.isLet 0 = false := by decide
    rw [e2, e3]; simp
theorem Shift.word (h : Shift z x d) : ∀ K q, q ≤ x.size → wordTo z K (d + q) = d + wordTo x K q := by
  intro K
  induction K with
  | zero => intro q _; rfl
  | succ K ih =>
    intro q hq
    have hs := h.size
    unfold wordTo
    rw [h.isLet q hq]
    by_cases h1 : q < x.size ∧ Go.Proofs.YtlhhpbpoioaagaaDoor.isLet (bx x q) = true
    · rw [if_pos h1, if_pos ⟨by omega, h1.2⟩]
      have := ih (q + 1) (by omega)
      rw [← Nat.add_assoc] at this
      exact this
    · rw [if_neg h1, if_neg]
      rintro ⟨_, h3⟩
      rcases h.at_ q hq with ⟨h0, _⟩ | ⟨_, h5, _⟩
      · exact h1 ⟨h0, h3⟩
      · rw [h5] at h3; revert h3; decide
theorem Shift.wordSize (h : Shift z x d) (q : Nat) (hq : q ≤ x.size) : wordTo z (z.size - (d + q)) (d + q) = d + wordTo x (x.size - q) q := by
  have hs := h.size
  rw [h.word _ q hq, wordTo_any x q _ (by omega)]
theorem Shift.num (h : Shift z x d) (base : Int) (hb : base ≤ 16) : ∀ K q n, q ≤ x.size → numTo z base K (d + q) n = ((numTo x base K q n).1, d + (numTo x base K q n).2) := by
  intro K
  induction K with
  | zero => intro q n _; rfl
  | succ K ih =>
    intro q n hq
    have hs := h.size
    unfold numTo
    rw [h.digI q hq]
    by_cases h1 : q < x.size ∧ Go.Proofs.YtlhhpbpoioaagaaDoor.digI (bx x q) < base
    · rw [if_pos h1, if_pos ⟨by omega, h1.2⟩]
      have := ih (q + 1) (min (n * base + Go.Proofs.YtlhhpbpoioaagaaDoor.digI (bx x q)) 65536) (by omega)
      rw [← Nat.add_assoc] at this
      exact this
    · rw [if_neg h1, if_neg]
      rintro ⟨_, h3⟩
      rcases h.at_ q hq with ⟨h0, _⟩ | ⟨_, h5, _⟩
      · exact h1 ⟨h0, h3⟩
      · rw [h5] at h3
        have : Go.Proofs.YtlhhpbpoioaagaaDoor.digI 0 = 99 := by decide
        omega
theorem Shift.numSize (h : Shift z x d) (base : Int) (hb : base ≤ 16) (q : Nat) (hq : q ≤ x.size) : numTo z base (z.size - (d + q)) (d + q) 0 = ((numTo x base (x.size - q) q 0).1, d + (numTo x base (x.size - q) q 0).2) := by
  have hs := h.size
  rw [h.num base hb _ q 0 hq, numTo_any x base q 0 _ (by omega)]
theorem ext_bx {a b : ByteArray} (hs : a.size = b.size) (h : ∀ q, q < a.size → bx a q = bx b q) : a = b := by
  refine ByteArray.ext (Array.ext hs fun q h1 h2 => ?_)
  have := h q h1
  unfold bx at this
  rw [dif_pos (show q < a.size from h1), dif_pos (show q < b.size from h2)] at this
  exact UInt8.toNat_inj.1 (by exact_mod_cast this)
theorem Shift.text (h : Shift z x d) (i j : Nat) (hj : j ≤ x.size) : z.extract (d + i) (d + j) = x.extract i j := by
  have hs := h.size
  refine ext_bx (by rw [size_ext _ _ _ (by omega), size_ext _ _ _ hj]; omega) fun q hq => ?_
  rw [size_ext _ _ _ (by omega)] at hq
  rw [bx_extract _ _ _ _ (by omega) (by omega), bx_extract _ _ _ _ (by omega) hj, ← h.mid (i + q) (by omega)]
  congr 1; omega

/-- The same but for the place. -/
def SameOne (d : Nat) (a b : OneT) : Prop := a.err = b.err ∧ (b.err = 0 → a.kind = b.kind ∧ a.text = b.text ∧ a.n = b.n ∧ a.fin = d + b.fin)
theorem sameOne_bad (d : Nat) (e : Int) : SameOne d (badT e) (badT e) ∨ True := .inr trivial
theorem sameOne_badT {d : Nat} {e : Int} (he : e ≠ 0) : SameOne d (badT e) (badT e) := ⟨rfl, fun h => absurd h he⟩
theorem Shift.numT (h : Shift z x d) (base : Int) (hb : base ≤ 16) (q : Nat) (hq : q ≤ x.size) : SameOne d (numT z base (d + q)) (numT x base q) := by
  have h2 := h.numSize base hb q hq
  have h3 := numTo_size x base (x.size - q) q 0 hq
  unfold Go.Proofs.YtlhhpbpoioaagaaDoor.numT
  rw [h2]
  dsimp only
  rw [h.glue _ h3]
  by_cases c1 : (numTo x base (x.size - q) q 0).2 = q ∨ Go.Proofs.YtlhhpbpoioaagaaDoor.glue x (numTo x base (x.size - q) q 0).2 = true
  · rw [if_pos c1, if_pos (by rcases c1 with c1 | c1; · left; omega
                              · right; exact c1)]
    exact sameOne_badT (by decide)
  · rw [if_neg c1, if_neg (by rintro (c2 | c2); · exact c1 (.inl (by omega))
                              · exact c1 (.inr c2))]
    split
    · exact sameOne_badT (by decide)
    · exact ⟨rfl, fun _ => ⟨rfl, rfl, rfl, rfl⟩⟩
theorem Shift.oneT (h : Shift z x d) (q : Nat) (hq : q < x.size) : SameOne d (oneT z (d + q)) (oneT x q) := by
  have hb := h.mid q hq
  unfold Go.Proofs.YtlhhpbpoioaagaaDoor.oneT
  rw [hb]
  split
  · unfold wordT
    rw [h.wordSize q (by omega), h.glue _ (wordTo_size x _ q (by omega))]
    split
    · exact sameOne_badT (by decide)
    · exact ⟨rfl, fun _ => ⟨rfl, h.text _ _ (wordTo_size x _ q (by omega)), rfl, rfl⟩⟩
  · split
    · by_cases c : bx x (q + 1) = 46
      · rw [if_pos c, if_pos (by rw [Nat.add_assoc]; exact (h.eq 46 (.inr rfl) (q + 1) (by omega)).2 c)]
        exact ⟨rfl, fun _ => ⟨rfl, rfl, rfl, by dsimp only; omega⟩⟩
      · rw [if_neg c, if_neg (by rw [Nat.add_assoc]; exact fun e => c ((h.eq 46 (.inr rfl) (q + 1) (by omega)).1 e))]
        exact sameOne_badT (by decide)
    · split
      · have := h.numT 16 (by omega) (q + 1) (by omega)
        rw [← Nat.add_assoc] at this
        exact this
      · split
        · exact h.numT 10 (by omega) q (by omega)
        · exact sameOne_badT (by decide)

theorem lineR_skip (z : ByteArray) (n : Int) (last : Nat) (l : List Tok) : ∀ (k p : Nat), p + k ≤ z.size → (∀ q, p ≤ q → q < p + k → bx z q = 32 ∨ bx z q = 9) → lineR z n p last l = lineR z n (p + k) last l
  | 0, _, _, _ => rfl
  | k + 1, p, hs, h => by
    have h1 := h p (Nat.le_refl _) (by omega)
    rw [lineR_blank (by omega) (by omega) h1, lineR_skip z n last l k (p + 1) (by omega) (fun q h2 h3 => h q (by omega) (by omega))]
    congr 1; omega
theorem sim_end {l l' : List Tok} (h : Sim l l') (n n' : Int) (a a' : Int) : Sim (if l = [] then [] else l ++ [⟨4, ⟨#[]⟩, 0, n, a⟩]) (if l' = [] then [] else l' ++ [⟨4, ⟨#[]⟩, 0, n', a'⟩]) := by
  by_cases c : l = []
  · rw [if_pos c, if_pos ((sim_nil h).1 c)]; rfl
  · rw [if_neg c, if_neg (fun e => c ((sim_nil h).2 e))]
    exact sim_append h rfl
theorem Shift.line (h : Shift z x d) (n n' : Int) : ∀ (k q last last' : Nat) (l l' : List Tok), x.size - q ≤ k → q ≤ x.size → Sim l l' →
    (lineR z n' (d + q) last' l').1 = (lineR x n q last l).1 ∧ ((lineR x n q last l).1 = 0 → Sim (lineR x n q last l).2.2 (lineR z n' (d + q) last' l').2.2) := by
  have hs := h.size
  have fin : ∀ (q last last' : Nat) (l l' : List Tok), q = x.size → Sim l l' → (lineR z n' (d + q) last' l').1 = (lineR x n q last l).1 ∧ ((lineR x n q last l).1 = 0 → Sim (lineR x n q last l).2.2 (lineR z n' (d + q) last' l').2.2) := by
    intro q last last' l l' hq hl
    subst hq
    obtain ⟨e, h1, h2, h3, h4⟩ := h.tail
    have h5 := lineR_skip z n' last' l' (e - (d + x.size)) (d + x.size) (by omega) (fun q h6 h7 => h4 q h6 (by omega))
    rw [show d + x.size + (e - (d + x.size)) = e by omega] at h5
    rw [h5, lineR_end (by omega) (.inr h3), lineR_end (Nat.le_refl _) (.inl (Nat.le_refl _))]
    exact ⟨rfl, fun _ => sim_end hl _ _ _ _⟩
  intro k
  induction k with
  | zero => intro q last last' l l' hk hq hl; exact fin q last last' l l' (by omega) hl
  | succ k ih =>
    intro q last last' l l' hk hq hl
    rcases Nat.lt_or_ge q x.size with c | c
    · have hb := h.mid q c
      by_cases c1 : bx x q = 35
      · rw [lineR_end (by omega) (.inr c1), lineR_end (by omega) (.inr (by rw [hb]; exact c1))]
        exact ⟨rfl, fun _ => sim_end hl _ _ _ _⟩
      · by_cases c2 : bx x q = 32 ∨ bx x q = 9
        · rw [lineR_blank c c1 c2, lineR_blank (by omega) (by rw [hb]; exact c1) (by rw [hb]; exact c2)]
          have := ih (q + 1) last last' l l' (by omega) (by omega) hl
          rw [← Nat.add_assoc] at this
          exact this
        · obtain ⟨e1, e2⟩ := h.oneT q c
          by_cases c3 : (Go.Proofs.YtlhhpbpoioaagaaDoor.oneT x q).err = 0
          · obtain ⟨e3, e4, e5, e6⟩ := e2 c3
            have h4 := oneT_to x q c c3
            rw [lineR_tok c c1 c2 c3, lineR_tok (by omega) (by rw [hb]; exact c1) (by rw [hb]; exact c2) (by rw [e1]; exact c3), e6]
            exact ih _ _ _ _ _ (by omega) h4.2 (sim_append hl (by unfold Sim bareT; simp [e3, e4, e5]))
          · rw [lineR_bad c c1 c2 c3, lineR_bad (by omega) (by rw [hb]; exact c1) (by rw [hb]; exact c2) (by rw [e1]; exact c3)]
            exact ⟨e1, fun h => absurd h c3⟩
    · exact fin q last last' l l' (by omega) hl
theorem Shift.line0 (h : Shift z x d) (n n' : Int) : (lineR z n' 0 0 []).1 = (lineR x n 0 0 []).1 ∧ ((lineR x n 0 0 []).1 = 0 → Sim (lineR x n 0 0 []).2.2 (lineR z n' 0 0 []).2.2) := by
  have hs := h.size
  have h1 := lineR_skip z n' 0 [] d 0 (by omega) (fun q _ h3 => .inl (h.head q (by omega)))
  rw [h1, show 0 + d = d + 0 by omega]
  exact h.line n n' x.size 0 0 0 [] [] (by omega) (Nat.zero_le _) rfl

/-- Lines, and the same with blanks, remarks, and empty lines. -/
inductive Wide : List ByteArray → List ByteArray → Prop
  | last {x z : ByteArray} {d : Nat} (h : Shift z x d) : Wide [x] [z]
  | cons {x z e : ByteArray} {d : Nat} {xs zs : List ByteArray} (h : Shift z x d) (he : e.size = 0) (hr : Wide xs zs) : Wide (x :: xs) (z :: e :: zs)
theorem empty_line {e : ByteArray} (h : e.size = 0) (n : Int) : lineR e n 0 0 [] = (0, 0, []) := by
  rw [lineR_end (Nat.zero_le _) (.inl (by omega))]; rfl
theorem wide_lines {xs zs : List ByteArray} (h : Wide xs zs) : ∀ (n n' : Int) (l l' : List Tok), (∀ x ∈ xs, x.size ≤ 1000) → (∀ z ∈ zs, z.size ≤ 1000) → Sim l l' →
    (linesT xs n l).2.2.1 = (linesT zs n' l').2.2.1 ∧ Sim (linesT xs n l).2.2.2 (linesT zs n' l').2.2.2 := by
  induction h with
  | @last x z d h =>
    intro n n' l l' hx hz hl
    obtain ⟨h1, h2⟩ := h.line0 n n'
    have a1 : ¬ 1000 < x.size := by have := hx _ List.mem_cons_self; omega
    have a2 : ¬ 1000 < z.size := by have := hz _ List.mem_cons_self; omega
    rw [linesT_cons, linesT_cons, if_neg a1, if_neg a2, h1]
    split
    · exact ⟨rfl, rfl⟩
    · rename_i c
      have c' := Decidable.not_not.1 c
      exact ⟨rfl, sim_append hl (h2 c')⟩
  | @cons x z e d xs zs h he hr ih =>
    intro n n' l l' hx hz hl
    obtain ⟨h1, h2⟩ := h.line0 n n'
    have a1 : ¬ 1000 < x.size := by have := hx _ List.mem_cons_self; omega
    have a2 : ¬ 1000 < z.size := by have := hz _ List.mem_cons_self; omega
    rw [linesT_cons, linesT_cons, if_neg a1, if_neg a2, h1]
    split
    · exact ⟨rfl, rfl⟩
    · rename_i c
      have c' := Decidable.not_not.1 c
      have a3 : ¬ 1000 < e.size := by omega
      rw [linesT_cons, if_neg a3, empty_line he]
      dsimp only
      rw [if_neg (by simp), List.append_nil]
      exact ih _ _ _ _ (fun x hx' => hx x (List.mem_cons_of_mem _ hx')) (fun z hz' => hz z (List.mem_cons_of_mem _ (List.mem_cons_of_mem _ hz'))) (sim_append hl (h2 c'))

/-! ### Lists of bytes -/
def splitL : List UInt8 → List (List UInt8)
  | [] => [[]]
  | b :: t => if b = 10 then [] :: splitL t else match splitL t with
    | [] => [[b]]
    | x :: r => (b :: x) :: r
theorem splitL_ne (l : List UInt8) : splitL l ≠ [] := by
  cases l with
  | nil => simp [splitL]
  | cons b t =>
    unfold splitL
    split
    · simp
    · split <;> simp
theorem splitL_cut : ∀ (x y : List UInt8), (∀ b ∈ x, b ≠ 10) → splitL (x ++ 10 :: y) = x :: splitL y
  | [], y, _ => by show (if (10 : UInt8) = 10 then _ else _) = _; rw [if_pos rfl]
  | b :: x, y, h => by
    rw [List.cons_append, splitL, if_neg (h b List.mem_cons_self), splitL_cut x y fun c hc => h c (List.mem_cons_of_mem _ hc)]
theorem splitL_one : ∀ (x : List UInt8), (∀ b ∈ x, b ≠ 10) → splitL x = [x]
  | [], _ => rfl
  | b :: x, h => by rw [splitL, if_neg (h b List.mem_cons_self), splitL_one x fun c hc => h c (List.mem_cons_of_mem _ hc)]
theorem bx_some (s : ByteArray) (i : Nat) : bx s i = match s.data.toList[i]? with | some b => (b.toNat : Int) | none => 0 := by
  by_cases h : i < s.data.toList.length
  · rw [List.getElem?_eq_getElem h, bx_byte s i h]
  · rw [List.getElem?_eq_none (by omega)]
    exact bx_out (by rw [size_list] at h; omega)
theorem drop_cut (s : ByteArray) (i j : Nat) (hij : i ≤ j) (hj : j < s.size) (h : bx s j = 10) : s.data.toList.drop i = (s.extract i j).data.toList ++ 10 :: s.data.toList.drop (j + 1) := by
  have h1 : j < s.data.toList.length := by rw [size_list]; exact hj
  have h2 : s.data.toList[j] = 10 := (byte_ten _).1 (by rw [← bx_byte s j h1]; exact h)
  rw [ByteArray.data_extract, Array.toList_extract, List.extract_eq_take_drop]
  have h3 : s.data.toList.drop (j + 1) = (s.data.toList.drop i).drop (j - i + 1) := by rw [List.drop_drop]; congr 1; omega
  have h4 : (s.data.toList.drop i)[j - i]? = some 10 := by rw [List.getElem?_drop, show i + (j - i) = j by omega, List.getElem?_eq_getElem h1, h2]
  rw [h3]
  generalize s.data.toList.drop i = L at *
  have h5 := (List.getElem?_eq_some_iff.1 h4)
  obtain ⟨h5, h6⟩ := h5
  conv => lhs; rw [← List.take_append_drop (j - i) L]
  congr 1
  rw [List.drop_eq_getElem_cons h5, h6]
theorem no_ten (s : ByteArray) (i j : Nat) (hj : j ≤ s.size) (h : ∀ q, i ≤ q → q < j → bx s q ≠ 10) : ∀ b ∈ (s.extract i j).data.toList, b ≠ 10 := by
  intro b hb e
  subst e
  obtain ⟨q, hq, h2⟩ := List.getElem_of_mem hb
  have hq2 : q < (s.extract i j).size := by rw [← size_list]; exact hq
  rw [size_ext _ _ _ hj] at hq2
  have h3 := bx_byte (s.extract i j) q hq
  rw [h2, bx_extract _ _ _ _ (by omega) hj] at h3
  exact h (i + q) (by omega) (by omega) h3
theorem lines_split (s : ByteArray) : ∀ k i, i ≤ s.size → s.size - i ≤ k → (linesFrom s k i).map (·.data.toList) = splitL (s.data.toList.drop i) := by
  have last : ∀ i, i ≤ s.size → s.size ≤ lfAt s i → splitL (s.data.toList.drop i) = [(s.extract i s.size).data.toList] := by
    intro i hi h
    rw [← extract_bytes]
    exact splitL_one _ (no_ten s i s.size (Nat.le_refl _) fun q h1 h2 => lfAt_no s i q h1 (by omega))
  intro k
  induction k with
  | zero => intro i hi h; have := lfAt_le s i; rw [last i hi (by omega)]; rfl
  | succ k ih =>
    intro i hi h
    have h1 := lfAt_le s i
    unfold linesFrom
    by_cases c : s.size ≤ lfAt s i
    · rw [if_pos c, last i hi c]; rfl
    · rw [if_neg c, List.map_cons, ih _ (by omega) (by omega), drop_cut s i (lfAt s i) h1 (by omega) (lfAt_is s i (by omega)),
        splitL_cut _ _ (no_ten s i _ (by omega) fun q h2 h3 => lfAt_no s i q h2 h3)]
theorem linesOf_split (s : ByteArray) : (linesOf s).map (·.data.toList) = splitL s.data.toList := by
  rw [linesOf_from]
  have := lines_split s s.size 0 (Nat.zero_le _) (by omega)
  simpa using this

/-- How many bytes stand behind the last line feed. -/
def longOf (s : ByteArray) : Nat → Nat
  | 0 => 0
  | i + 1 => if bx s i = 10 then 0 else longOf s i + 1
def okRun : Nat → List UInt8 → Prop
  | _, [] => True
  | c, b :: t => if b = 10 then okRun 0 t else c + 1 ≤ 900 ∧ okRun (c + 1) t
theorem okRun_of (s : ByteArray) (h : ∀ j, j ≤ s.size → longOf s j ≤ 900) : ∀ k i, i ≤ s.size → s.size - i ≤ k → okRun (longOf s i) (s.data.toList.drop i) := by
  intro k
  induction k with
  | zero => intro i hi hk; rw [List.drop_of_length_le (by rw [size_list]; omega)]; trivial
  | succ k ih =>
    intro i hi hk
    by_cases c : i < s.size
    · have h1 : i < s.data.toList.length := by rw [size_list]; exact c
      have h2 := ih (i + 1) (by omega) (by omega)
      have h3 := h (i + 1) (by omega)
      rw [List.drop_eq_getElem_cons h1, okRun]
      rw [longOf] at h2 h3
      by_cases c2 : bx s i = 10
      · rw [if_pos ((byte_ten _).1 (by rw [← bx_byte s i h1]; exact c2))]
        rw [if_pos c2] at h2; exact h2
      · rw [if_neg (fun e => c2 (by rw [bx_byte s i h1, e]; rfl))]
        rw [if_neg c2] at h2 h3
        exact ⟨h3, h2⟩
    · rw [List.drop_of_length_le (by rw [size_list]; omega)]; trivial
theorem okRun_lines : ∀ (L p : List UInt8), (∀ b ∈ p, b ≠ 10) → p.length ≤ 900 → okRun p.length L → ∀ x ∈ splitL (p ++ L), x.length ≤ 900
  | [], p, hp, hl, _, x, hx => by rw [List.append_nil, splitL_one p hp] at hx; simp at hx; subst hx; exact hl
  | b :: L, p, hp, hl, h, x, hx => by
    rw [okRun] at h
    by_cases c : b = 10
    · subst c
      rw [if_pos rfl] at h
      rw [splitL_cut p L hp, List.mem_cons] at hx
      rcases hx with rfl | hx
      · exact hl
      · exact okRun_lines L [] (by simp) (by simp) h x hx
    · rw [if_neg c] at h
      have e : p ++ b :: L = (p ++ [b]) ++ L := by simp
      rw [e] at hx
      exact okRun_lines L (p ++ [b]) (by intro c' hc'; rw [List.mem_append, List.mem_singleton] at hc'; rcases hc' with hc' | rfl; · exact hp c' hc'
                                         · exact c) (by simp; omega) (by simpa using h.2) x hx

def wideB (bl rm : List UInt8) (b : UInt8) : List UInt8 := if b = 10 then bl ++ [9, 35] ++ rm ++ [10, 10] ++ bl else [b]
/-- How lists of lines go together. -/
inductive WideL (bl rm : List UInt8) : List (List UInt8) → List (List UInt8) → Prop
  | last {x : List UInt8} : WideL bl rm [x] [bl ++ x ++ 35 :: rm]
  | cons {x : List UInt8} {xs zs : List (List UInt8)} (hr : WideL bl rm xs zs) : WideL bl rm (x :: xs) ((bl ++ x ++ (bl ++ [9, 35] ++ rm)) :: [] :: zs)
theorem wideL_of (bl rm : List UInt8) (hbl : ∀ b ∈ bl, b ≠ 10) (hrm : ∀ b ∈ rm, b ≠ 10) : ∀ (L p : List UInt8), (∀ b ∈ p, b ≠ 10) →
    WideL bl rm (splitL (p ++ L)) (splitL (bl ++ p ++ L.flatMap (wideB bl rm) ++ 35 :: rm))
  | [], p, hp => by
    rw [List.append_nil, splitL_one p hp, List.flatMap_nil, List.append_nil, splitL_one]
    · exact .last
    · intro b hb
      simp only [List.mem_append, List.mem_cons] at hb
      rcases hb with (hb | hb) | rfl | hb
      · exact hbl b hb
      · exact hp b hb
      · decide
      · exact hrm b hb
  | b :: L, p, hp => by
    by_cases c : b = 10
    · subst c
      have ih := wideL_of bl rm hbl hrm L [] (by simp)
      have e : bl ++ p ++ (10 :: L).flatMap (wideB bl rm) ++ 35 :: rm = (bl ++ p ++ (bl ++ [9, 35] ++ rm)) ++ 10 :: ([] ++ 10 :: (bl ++ [] ++ L.flatMap (wideB bl rm) ++ 35 :: rm)) := by
        simp [List.flatMap_cons, wideB]
      rw [e, splitL_cut p L hp, splitL_cut, splitL_cut _ _ (by simp)]
      · exact .cons ih
      · intro b hb
        simp only [List.mem_append, List.mem_cons, List.not_mem_nil, or_false] at hb
        rcases hb with (hb | hb) | (hb | rfl | rfl) | hb
        · exact hbl b hb
        · exact hp b hb
        · exact hbl b hb
        · decide
        · decide
        · exact hrm b hb
    · have ih := wideL_of bl rm hbl hrm L (p ++ [b]) (by intro c' hc'; rw [List.mem_append, List.mem_singleton] at hc'; rcases hc' with hc' | rfl; · exact hp c' hc'
                                                         · exact c)
      have e : bl ++ p ++ (b :: L).flatMap (wideB bl rm) ++ 35 :: rm = bl ++ (p ++ [b]) ++ L.flatMap (wideB bl rm) ++ 35 :: rm := by
        simp [List.flatMap_cons, wideB, c]
      rw [e, show p ++ b :: L = (p ++ [b]) ++ L by simp]
      exact ih
theorem shift_of (z x : ByteArray) (bl tl : List UInt8) (hbl : ∀ b ∈ bl, b = 32) (e : Nat) (hz : z.data.toList = bl ++ x.data.toList ++ tl) (h35 : tl[e]? = some 35) (hlow : ∀ q, q < e → tl[q]? = some 32 ∨ tl[q]? = some 9) : Shift z x bl.length := by
  have he := (List.getElem?_eq_some_iff.1 h35).1
  have hsz : z.size = bl.length + x.size + tl.length := by rw [← size_list, hz]; simp [size_list]; omega
  have at_ : ∀ q, q < tl.length → bx z (bl.length + x.size + q) = match tl[q]? with | some b => (b.toNat : Int) | none => 0 := by
    intro q hq
    rw [bx_some, hz, List.getElem?_append_right (by simp [size_list]), List.length_append, size_list]
    congr 2; omega
  refine ⟨by omega, ?_, ?_, bl.length + x.size + e, by omega, by omega, ?_, ?_⟩
  · intro q hq
    rw [bx_some, hz, List.append_assoc, List.getElem?_append_left hq, List.getElem?_eq_getElem hq, hbl _ (List.getElem_mem hq)]; rfl
  · intro q hq
    rw [bx_some, hz, List.append_assoc, List.getElem?_append_right (by omega), List.getElem?_append_left (by rw [size_list]; omega), bx_some x q]
    congr 2; omega
  · rw [at_ e he, h35]; rfl
  · intro q h1 h2
    obtain ⟨j, rfl⟩ : ∃ j, q = bl.length + x.size + j := ⟨q - (bl.length + x.size), by omega⟩
    rw [at_ j (by omega)]
    rcases hlow j (by omega) with h | h
    · rw [h]; exact .inl rfl
    · rw [h]; exact .inr rfl
theorem wide_of (bl rm : List UInt8) (hbl : ∀ b ∈ bl, b = 32) {xs zs : List (List UInt8)} (h : WideL bl rm xs zs) : ∀ (X Z : List ByteArray), X.map (·.data.toList) = xs → Z.map (·.data.toList) = zs → Wide X Z := by
  induction h with
  | @last x =>
    intro X Z hX hZ
    obtain ⟨a, rfl, hX1⟩ := List.map_eq_singleton_iff.1 hX
    obtain ⟨b, rfl, hZ1⟩ := List.map_eq_singleton_iff.1 hZ
    exact .last (shift_of b a bl (35 :: rm) hbl 0 (by rw [hZ1, hX1]) rfl (fun q hq => by omega))
  | @cons x xs zs hr ih =>
    intro X Z hX hZ
    obtain ⟨a, X, rfl, hX1, hX2⟩ := List.map_eq_cons_iff.1 hX
    obtain ⟨b, Z, rfl, hZ1, hZ'⟩ := List.map_eq_cons_iff.1 hZ
    obtain ⟨c, Z, rfl, hZ2, hZ3⟩ := List.map_eq_cons_iff.1 hZ'
    · refine .cons (shift_of b a bl (bl ++ [9, 35] ++ rm) hbl (bl.length + 1) (by rw [hZ1, hX1]) ?_ ?_) ?_ (ih X Z hX2 hZ3)
      · rw [List.append_assoc, List.getElem?_append_right (by omega)]; simp
      · intro q hq
        rcases Nat.lt_or_ge q bl.length with h1 | h1
        · left
          rw [List.append_assoc, List.getElem?_append_left h1, List.getElem?_eq_getElem h1, hbl _ (List.getElem_mem h1)]
        · right
          obtain rfl : q = bl.length := by omega
          rw [List.append_assoc, List.getElem?_append_right (by omega)]; simp
      · rw [← size_list, hZ2]; rfl
theorem wideL_len {bl rm : List UInt8} (hb : bl.length ≤ 20) (hr : rm.length ≤ 50) {xs zs : List (List UInt8)} (h : WideL bl rm xs zs) (hx : ∀ x ∈ xs, x.length ≤ 900) : ∀ z ∈ zs, z.length ≤ 1000 := by
  induction h with
  | last =>
    intro z hz
    simp only [List.mem_singleton] at hz
    subst hz
    have := hx _ List.mem_cons_self
    simp; omega
  | cons hr' ih =>
    intro z hz
    simp only [List.mem_cons] at hz
    rcases hz with rfl | rfl | hz
    · have := hx _ List.mem_cons_self
      simp; omega
    · simp
    · exact ih (fun x hx' => hx x (List.mem_cons_of_mem _ hx')) z hz
/-- The law: a text, and the same with blanks and remarks. -/
theorem blanks_same (s m bl rm : ByteArray) (hm : m.data.toList = bl.data.toList ++ s.data.toList.flatMap (wideB bl.data.toList rm.data.toList) ++ 35 :: rm.data.toList) (hbl : ∀ b ∈ bl.data.toList, b = 32) (hb : bl.size ≤ 20) (hrm : ∀ b ∈ rm.data.toList, b ≠ 10) (hr : rm.size ≤ 50)
    (hlong : ∀ j, j ≤ s.size → longOf s j ≤ 900) (hs : s.size ≤ 65536) (hms : m.size ≤ 65536) : (scanT s).2.2.1 = (scanT m).2.2.1 ∧ Sim (scanT s).2.2.2 (scanT m).2.2.2 := by
  unfold scanT
  rw [if_neg (by omega), if_neg (by omega)]
  have hW := wideL_of bl.data.toList rm.data.toList (fun b h => by rw [hbl b h]; decide) hrm s.data.toList [] (by simp)
  rw [List.nil_append, List.append_nil, ← hm] at hW
  have hx : ∀ x ∈ splitL s.data.toList, x.length ≤ 900 := by
    have h0 := okRun_of s hlong s.size 0 (Nat.zero_le _) (by omega)
    exact fun x hx => okRun_lines s.data.toList [] (by simp) (by simp) (by simpa [longOf] using h0) x hx
  have hz := wideL_len (by rw [size_list]; exact hb) (by rw [size_list]; exact hr) hW hx
  have hW2 := wide_of bl.data.toList rm.data.toList hbl hW (linesOf s) (linesOf m) (linesOf_split s) (linesOf_split m)
  refine wide_lines hW2 1 1 [] [] ?_ ?_ rfl
  · intro x h
    have := hx x.data.toList (by rw [← linesOf_split]; exact List.mem_map_of_mem h)
    rw [size_list] at this; omega
  · intro x h
    have := hz x.data.toList (by rw [← linesOf_split]; exact List.mem_map_of_mem h)
    rw [size_list] at this; omega
end Go.Proofs.YtlhhpbpoioaagaaDoor
