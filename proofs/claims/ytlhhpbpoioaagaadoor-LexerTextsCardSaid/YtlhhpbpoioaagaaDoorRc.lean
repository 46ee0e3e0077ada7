import Derived.Test.YtlhhpbpoioaagaaDoorRb
namespace Go.Proofs.YtlhhpbpoioaagaaDoor
set_option linter.unusedVariables false
set_option linter.unusedSimpArgs false
open Go.RowKit Go.Proofs.YtlhhpbpoioaagaaDoorW.PrintWords Go.Proofs.YtlhhpbpoioaagaaDoorW.PrintLast Go.Proofs.YtlhhpbpoioaagaaDoorW.PrintMore

theorem linesFrom_succ (s : ByteArray) : ∀ k i, i ≤ s.size → s.size - i ≤ k → linesFrom s (k + 1) i = linesFrom s k i := by
  intro k
  induction k with
  | zero => intro i hi h; have h1 := lfAt_le s i; rw [linesFrom_end s _ i (by omega), linesFrom_end s _ i (by omega)]
  | succ k ih =>
    intro i hi h
    have h1 := lfAt_le s i
    by_cases c : s.size ≤ lfAt s i
    · rw [linesFrom_end s _ i c, linesFrom_end s _ i c]
    · rw [linesFrom, if_neg c]
      conv => rhs; rw [linesFrom, if_neg c]
      rw [ih _ (by omega) (by omega)]
theorem linesFrom_any (s : ByteArray) (i : Nat) (hi : i ≤ s.size) : ∀ k, s.size - i ≤ k → linesFrom s k i = linesFrom s (s.size - i) i := by
  intro k
  induction k with
  | zero => intro h; rw [show s.size - i = 0 by omega]
  | succ k ih =>
    intro h
    by_cases c : s.size - i ≤ k
    · rw [linesFrom_succ s k i hi c, ih c]
    · rw [show k + 1 = s.size - i by omega]
def linesR (s : ByteArray) (i : Nat) : List ByteArray := linesFrom s (s.size - i) i
theorem linesR_here (s : ByteArray) (a i : Nat) (ha : a ≤ i) (hi : i < s.size) (h : lfAt s a = i) : linesR s a = s.extract a i :: linesR s (i + 1) := by
  unfold linesR
  obtain ⟨j, hj⟩ : ∃ j, s.size - a = j + 1 := ⟨s.size - a - 1, by omega⟩
  rw [hj, linesFrom, if_neg (by omega), h, linesFrom_any s (i + 1) (by omega) j (by omega)]
theorem linesR_end (s : ByteArray) (a : Nat) (h : lfAt s a = s.size) : linesR s a = [s.extract a s.size] := linesFrom_end s _ a (by omega)
theorem linesT_nil (n : Int) (l : List Tok) : linesT [] n l = (0, 0, 0, l) := rfl

/-- What the document's Scan answers. -/
def RefPost (R : Int × Int × Int × List Tok) (w : World) (e : Ending) (w' : World) : Prop :=
  ∃ v, e = .returned (.tuple #[v, .agg #[.int .i64 R.1, .int .i64 R.2.1], .int .i64 R.2.2.1]) ∧ w'.ownsRow w.heap.size 34 5 v R.2.2.2.length (toks R.2.2.2) ∧ Below w.heap.size w w'

/-- What is still to come, at a byte. -/
def Rest (s : ByteArray) (R : Int × Int × Int × List Tok) (i a n : Nat) (l : List Tok) : Prop :=
  (i ≤ s.size ∧ a ≤ i ∧ (∀ q, a ≤ q → q < i → bx s q ≠ 10) ∧ linesT (linesR s a) n l = R) ∨ (i = s.size + 1 ∧ R = (0, 0, 0, l))

set_option maxHeartbeats 4000000 in
set_option maxRecDepth 100000 in
theorem refScan_calls (s : ByteArray) (hs : s.size ≤ 65536) (w : World) : Calls Tryd.prog 13 #[.string s] w (RefPost (linesT (linesOf s) 1 []) w) := by
  obtain ⟨R, hR⟩ : ∃ R, linesT (linesOf s) 1 [] = R := ⟨_, rfl⟩
  have hR0 : linesT (linesR s 0) ((1 : Nat) : Int) [] = R := by rw [← hR, linesOf_from]; rfl
  rw [hR]
  have hR' := Lib.hid hR0; clear hR hR0
  obtain ⟨r, hr⟩ : ∃ r, Hid (r = w.heap.size) := ⟨_, Lib.hid rfl⟩
  have hr0 : r ≤ w.heap.size := by rw [hr.out]; exact Nat.le_refl _
  go_enter Tryd.func13, Tryd.ntmps13
  have hp0 := Lib.hid (blk_new w (.cells #[.int .i64 0, .int .i64 0] 30))
  have hB0 := Lib.hid ((Below.refl r w).alloc hr0 (.cells #[.int .i64 0, .int .i64 0] 30))
  rw [← hr.out] at hp0
  go_wp2_with fail
  rw [← hr.out]
  go_loopg [5, 6, 7, 8] (s.size + 1) (fun kq v5 v6 v7 v8 w' => ∃ (i a n : Nat) (l : List Tok), v8 = .int .i64 (i : Int) ∧ v7 = .int .i64 (a : Int) ∧ v6 = .int .i64 (n : Int) ∧ Hid (s.size + 1 - i ≤ kq) ∧ Hid (i ≤ s.size + 1) ∧ Hid (n ≤ i + 1) ∧ Hid (l.length ≤ 1001 * i) ∧ Hid (Rest s R i a n l) ∧ Hid (w'.ownsRow r 34 5 v5 l.length (toks l)) ∧ Hid (Below r w w') ∧ Hid (w'.heap[r]? = some (.cells #[.int .i64 0, .int .i64 0] 30 (0, 0))))
  case atStart => exact ⟨0, 0, 1, [], rfl, rfl, rfl, Lib.hid (by omega), Lib.hid (Nat.zero_le _), Lib.hid (Nat.le_refl _), Lib.hid (Nat.le_refl _), Lib.hid (.inl ⟨Nat.zero_le _, Nat.le_refl _, fun q h1 h2 => by omega, hR'.out⟩), Lib.hid (World.ownsRow_nil _ _ _ _), hB0, hp0⟩
  case round =>
    obtain ⟨i, a, n, l, rfl, rfl, rfl, hk, hi, hn, hlen, hRest, hv, hB, hp⟩ := hrel
    obtain ⟨A, c, rfl⟩ := own_slice hv.out
    have hzr : r < wr.heap.size := blk_lt hp.out
    have hn1 : n ≤ 65538 := by have := hi.out; have := hn.out; omega
    have hi1 : i ≤ 65537 := by have := hi.out; omega
    have hl1 : l.length ≤ 1001 * 65537 := by have := hi.out; have := hlen.out; omega
    clear hp0 hB0
    rcases hRest.out with ⟨g1, g2, g3, g4⟩ | ⟨g1, g2⟩
    · have c0 : (i : Int) ≤ (s.size : Int) := by omega
      have g3' := Lib.hid g3; clear g3
      obtain ⟨k1, rfl⟩ : ∃ k1, gk = k1 + 1 := ⟨gk - 1, by have := hk.out; omega⟩
      have hx := bx_read (s := s) (i := i)
      by_cases c1 : i < s.size ∧ bx s i ≠ 10
      · obtain ⟨c2, c3⟩ := c1
        have c2' : (i : Int) < (s.size : Int) := by omega
        have g4' := Lib.hid g4; clear g4
        go_wp2_with fail
        go_roundg k1
        case measure => omega
        case rel =>
          refine ⟨i + 1, a, n, l, by simp, rfl, rfl, Lib.hid (by have := hk.out; omega), Lib.hid (by omega), Lib.hid (by have := hn.out; omega), Lib.hid (by have := hlen.out; omega), Lib.hid (.inl ⟨by omega, by omega, fun q h1 h2 => ?_, g4'.out⟩), hv, hB, hp⟩
          rcases Nat.lt_or_ge q i with h | h
          · exact g3'.out q h1 h
          · rw [show q = i by omega]; exact c3
      · have hat : lfAt s a = i := lfAt_eq s a i g2 g1 g3'.out (by
          rcases Nat.lt_or_ge i s.size with h | h
          · exact .inr (Decidable.not_not.1 fun e => c1 ⟨h, e⟩)
          · exact .inl (by omega))
        obtain ⟨rest, hrest, hx4⟩ : ∃ rest, Hid (rest = if i < s.size then linesR s (i + 1) else []) ∧ linesT (s.extract a i :: rest) n l = R := by
          refine ⟨_, Lib.hid rfl, ?_⟩
          rw [← g4]
          by_cases h : i < s.size
          · rw [if_pos h, linesR_here s a i g2 h hat]
          · rw [if_neg h, show i = s.size by omega, linesR_end s a (by omega)]
        have hsx := size_ext s a i g1
        have hat' := Lib.hid hat; clear hat g4
        rw [linesT_cons] at hx4
        have g2' : (a : Int) ≤ (i : Int) := by omega
        by_cases d1 : 1000 < (s.extract a i).size
        · rw [if_pos d1] at hx4
          have hx4' := Lib.hid hx4; clear hx4
          have hsx' := Lib.hid hsx; clear hsx
          have hl0 := Lib.hid (fun W => line_long (s.extract a i) n d1 W)
          have d1' := Lib.hid d1; clear d1
          have hf0 := blk_frozen hp.out 0
          have hf1 := blk_frozen hp.out 1
          have hx0 : wr.cell? ⟨r, 0, none⟩ = some (.int .i64 0) := (blk_cell hp.out 0).trans rfl
          have hx1 : wr.cell? ⟨r, 1, none⟩ = some (.int .i64 0) := (blk_cell hp.out 1).trans rfl
          by_cases c2 : i < s.size
          · have c2' : (i : Int) < (s.size : Int) := by omega
            have c3 : bx s i = 10 := Decidable.not_not.1 fun e => c1 ⟨c2, e⟩
            clear c1
            (go_wp2_with fail; refine (hl0.out _).mono ?_; rintro e w2 ⟨rfl, rfl⟩; go_wp2_with fail; refine bodyPost_ret (results_list rfl (by simp) (.tmp (.cell r 30 #[.int .i64 (n : Int), .int .i64 1001] (0, 0) _ rfl (blk_put (blk_put hp.out 0 _ rfl) 1 _ rfl) Tryd.underlying30 rfl (by kernel_rfl) (.tmp .nil)))) rfl ?_; rw [← hx4'.out]; refine ⟨_, rfl, World.ownsRow_nil _ _ _ _, ?_⟩; rw [← hr.out]; exact (hB.out.setCell (p := ⟨r, 0, none⟩) (Nat.le_refl _) _).setCell (p := ⟨r, 1, none⟩) (Nat.le_refl _) _)
          · have c2' : ¬ (i : Int) < (s.size : Int) := by omega
            clear c1
            (go_wp2_with fail; refine (hl0.out _).mono ?_; rintro e w2 ⟨rfl, rfl⟩; go_wp2_with fail; refine bodyPost_ret (results_list rfl (by simp) (.tmp (.cell r 30 #[.int .i64 (n : Int), .int .i64 1001] (0, 0) _ rfl (blk_put (blk_put hp.out 0 _ rfl) 1 _ rfl) Tryd.underlying30 rfl (by kernel_rfl) (.tmp .nil)))) rfl ?_; rw [← hx4'.out]; refine ⟨_, rfl, World.ownsRow_nil _ _ _ _, ?_⟩; rw [← hr.out]; exact (hB.out.setCell (p := ⟨r, 0, none⟩) (Nat.le_refl _) _).setCell (p := ⟨r, 1, none⟩) (Nat.le_refl _) _)
        · rw [if_neg d1] at hx4
          have hcap := lineR_len (s.extract a i) n
          have hlc := Lib.hid (fun W => line_calls (s.extract a i) n (by omega) W)
          generalize lineR (s.extract a i) n 0 0 [] = E at *
          have hsx' := Lib.hid hsx; clear hsx
          by_cases d2 : E.1 = 0
          · rw [if_neg (not_not_intro d2)] at hx4
            have hx4' := Lib.hid hx4; clear hx4
            by_cases c2 : i < s.size
            · have c2' : (i : Int) < (s.size : Int) := by omega
              have c3 : bx s i = 10 := Decidable.not_not.1 fun e => c1 ⟨c2, e⟩
              clear c1
              go_wp2_with fail
              refine (hlc.out _).mono ?_
              rintro e w2 ⟨v2, rfl, hok, hno, hb2⟩
              rw [if_pos d2, d2]
              have hv2 := Lib.hid (hok d2)
              have hv1 := Lib.hid (own_later hv.out hb2)
              have hp2 := Lib.hid (blk_below hp.out hb2)
              have hB2 := Lib.hid (hB.out.trans (hb2.mono (Nat.le_of_lt hzr)))
              have hz2 := hb2.size
              clear hok hno hb2
              have hroom : (l ++ E.2.2).length ≤ 1001 * (i + 1) := by rw [List.length_append]; have := hlen.out; omega
              go_wp2_with (at_builtin; refine append_row (by rfl) _ _ _ (by rfl) r 34 _ 5 48 Tryd.underlying29 info34 rfl (by decide) (.slice A l.length c) l.length (toks l) (by rfl) (by exact hv1.out) v2 wr.heap.size E.2.2.length (toks E.2.2) (by rfl) (by exact hv2.out) (toks_cell E.2.2) (by omega) (by decide) (by omega) ?_; intro v9 w9 hv9 hg9)
              have hp9 := Lib.hid (blk_grown hp2.out hg9 (own_ne hv1.out hp2.out (by decide)))
              have hB9 := Lib.hid (hB2.out.grown hg9 (by omega) (own_below hv1.out))
              replace hv9 := Lib.hid (show w9.ownsRow r 34 5 v9 (l ++ E.2.2).length (toks (l ++ E.2.2)) by simpa using hv9)
              clear hg9
              go_roundg k1
              case measure => omega
              case rel => exact ⟨i + 1, i + 1, n + 1, l ++ E.2.2, by simp, by simp, by simp, Lib.hid (by have := hk.out; omega), Lib.hid (by omega), Lib.hid (by have := hn.out; omega), Lib.hid hroom, Lib.hid (.inl ⟨by omega, Nat.le_refl _, fun q h1 h2 => by omega, by rw [← hx4'.out, hrest.out, if_pos c2]; simp⟩), hv9, hB9, hp9⟩
            · have c2' : ¬ (i : Int) < (s.size : Int) := by omega
              clear c1
              go_wp2_with fail
              refine (hlc.out _).mono ?_
              rintro e w2 ⟨v2, rfl, hok, hno, hb2⟩
              rw [if_pos d2, d2]
              have hv2 := Lib.hid (hok d2)
              have hv1 := Lib.hid (own_later hv.out hb2)
              have hp2 := Lib.hid (blk_below hp.out hb2)
              have hB2 := Lib.hid (hB.out.trans (hb2.mono (Nat.le_of_lt hzr)))
              have hz2 := hb2.size
              clear hok hno hb2
              have hroom : (l ++ E.2.2).length ≤ 1001 * (i + 1) := by rw [List.length_append]; have := hlen.out; omega
              go_wp2_with (at_builtin; refine append_row (by rfl) _ _ _ (by rfl) r 34 _ 5 48 Tryd.underlying29 info34 rfl (by decide) (.slice A l.length c) l.length (toks l) (by rfl) (by exact hv1.out) v2 wr.heap.size E.2.2.length (toks E.2.2) (by rfl) (by exact hv2.out) (toks_cell E.2.2) (by omega) (by decide) (by omega) ?_; intro v9 w9 hv9 hg9)
              have hp9 := Lib.hid (blk_grown hp2.out hg9 (own_ne hv1.out hp2.out (by decide)))
              have hB9 := Lib.hid (hB2.out.grown hg9 (by omega) (own_below hv1.out))
              replace hv9 := Lib.hid (show w9.ownsRow r 34 5 v9 (l ++ E.2.2).length (toks (l ++ E.2.2)) by simpa using hv9)
              clear hg9
              go_roundg k1
              case measure => omega
              case rel => exact ⟨i + 1, i + 1, n + 1, l ++ E.2.2, by simp, by simp, by simp, Lib.hid (by have := hk.out; omega), Lib.hid (by omega), Lib.hid (by have := hn.out; omega), Lib.hid hroom, Lib.hid (.inr ⟨by omega, by rw [← hx4'.out, hrest.out, if_neg c2]; rfl⟩), hv9, hB9, hp9⟩
          · rw [if_pos d2] at hx4
            have hx4' := Lib.hid hx4; clear hx4
            have d5 : (E.1 == 0) = false := by simp [d2]
            by_cases c2 : i < s.size
            · have c2' : (i : Int) < (s.size : Int) := by omega
              have c3 : bx s i = 10 := Decidable.not_not.1 fun e => c1 ⟨c2, e⟩
              clear c1
              (go_wp2_with fail; refine (hlc.out _).mono ?_; rintro e w2 ⟨v2, rfl, hok, hno, hb2⟩; obtain rfl := hno d2; rw [if_neg d2]; have hp2 := Lib.hid (blk_below hp.out hb2); have hB2 := Lib.hid (hB.out.trans (hb2.mono (Nat.le_of_lt hzr))); clear hok hno hb2; have hf0 := blk_frozen hp2.out 0; have hf1 := blk_frozen hp2.out 1; have hx0 : w2.cell? ⟨r, 0, none⟩ = some (.int .i64 0) := (blk_cell hp2.out 0).trans rfl; have hx1 : w2.cell? ⟨r, 1, none⟩ = some (.int .i64 0) := (blk_cell hp2.out 1).trans rfl; go_wp2_with fail; refine bodyPost_ret (results_list rfl (by simp) (.tmp (.cell r 30 #[.int .i64 (n : Int), .int .i64 ((E.2.1 : Int) + 1)] (0, 0) _ rfl (blk_put (blk_put hp2.out 0 _ rfl) 1 _ rfl) Tryd.underlying30 rfl (by kernel_rfl) (.tmp .nil)))) rfl ?_; rw [← hx4'.out]; refine ⟨_, rfl, World.ownsRow_nil _ _ _ _, ?_⟩; rw [← hr.out]; exact (hB2.out.setCell (p := ⟨r, 0, none⟩) (Nat.le_refl _) _).setCell (p := ⟨r, 1, none⟩) (Nat.le_refl _) _)
            · have c2' : ¬ (i : Int) < (s.size : Int) := by omega
              clear c1
              (go_wp2_with fail; refine (hlc.out _).mono ?_; rintro e w2 ⟨v2, rfl, hok, hno, hb2⟩; obtain rfl := hno d2; rw [if_neg d2]; have hp2 := Lib.hid (blk_below hp.out hb2); have hB2 := Lib.hid (hB.out.trans (hb2.mono (Nat.le_of_lt hzr))); clear hok hno hb2; have hf0 := blk_frozen hp2.out 0; have hf1 := blk_frozen hp2.out 1; have hx0 : w2.cell? ⟨r, 0, none⟩ = some (.int .i64 0) := (blk_cell hp2.out 0).trans rfl; have hx1 : w2.cell? ⟨r, 1, none⟩ = some (.int .i64 0) := (blk_cell hp2.out 1).trans rfl; go_wp2_with fail; refine bodyPost_ret (results_list rfl (by simp) (.tmp (.cell r 30 #[.int .i64 (n : Int), .int .i64 ((E.2.1 : Int) + 1)] (0, 0) _ rfl (blk_put (blk_put hp2.out 0 _ rfl) 1 _ rfl) Tryd.underlying30 rfl (by kernel_rfl) (.tmp .nil)))) rfl ?_; rw [← hx4'.out]; refine ⟨_, rfl, World.ownsRow_nil _ _ _ _, ?_⟩; rw [← hr.out]; exact (hB2.out.setCell (p := ⟨r, 0, none⟩) (Nat.le_refl _) _).setCell (p := ⟨r, 1, none⟩) (Nat.le_refl _) _)
    · have c0 : ¬ (i : Int) ≤ (s.size : Int) := by omega
      have g2' := Lib.hid g2; clear g2
      have hf0 := blk_frozen hp.out 0
      have hf1 := blk_frozen hp.out 1
      have hx0 : wr.cell? ⟨r, 0, none⟩ = some (.int .i64 0) := (blk_cell hp.out 0).trans rfl
      have hx1 : wr.cell? ⟨r, 1, none⟩ = some (.int .i64 0) := (blk_cell hp.out 1).trans rfl
      go_wp2_with fail
      refine bodyPost_ret (results_list rfl (by simp) (.tmp (.cell r 30 #[.int .i64 0, .int .i64 0] (0, 0) _ rfl (blk_put (blk_put hp.out 0 _ rfl) 1 _ rfl) Tryd.underlying30 rfl (by kernel_rfl) (.tmp .nil)))) rfl ?_
      rw [g2'.out]
      refine ⟨_, rfl, ?_, ?_⟩
      · rw [← hr.out]
        exact own_far (own_far hv.out (p := ⟨r, 0, none⟩) (own_ne hv.out hp.out (by decide)) _) (p := ⟨r, 1, none⟩) (own_ne hv.out hp.out (by decide)) _
      · rw [← hr.out]
        exact (hB.out.setCell (p := ⟨r, 0, none⟩) (Nat.le_refl _) _).setCell (p := ⟨r, 1, none⟩) (Nat.le_refl _) _
end Go.Proofs.YtlhhpbpoioaagaaDoor
