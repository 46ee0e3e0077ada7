import Derived.Test.YtlhhpbpoioaagaaDoorRa
import Derived.Test.YtlhhpbpoioaagaaDoorWi
import Derived.Test.YtlhhpbpoioaagaaDoorCaps
namespace Go.Proofs.YtlhhpbpoioaagaaDoor
set_option linter.unusedVariables false
set_option linter.unusedSimpArgs false
open Go.RowKit Go.Proofs.YtlhhpbpoioaagaaDoorW.PrintWords Go.Proofs.YtlhhpbpoioaagaaDoorW.PrintLast Go.Proofs.YtlhhpbpoioaagaaDoorW.PrintMore PLexerScans

theorem info34 : (Tryd.prog.info? 34).map (fun i => (i.zero, i.size, i.bytes)) = some (some (.agg #[.int .i64 0, .string ⟨#[]⟩, .int .i64 0, .int .i64 0, .int .i64 0]), 5, 48) := by kernel_rfl
theorem own_tok {w : World} (t : Tok) (e : TypeId) (base : Nat) (hb : base ≤ w.heap.size) {H : Nat} (hH : H = w.heap.size) : (w.alloc (.cells t.cells.toArray e)).ownsRow base e 5 (.slice (some ⟨H, 0, none⟩) 1 1) 1 t.cells := by
  subst hH
  exact ⟨by simp [Tok.cells], .inr ⟨w.heap.size, 1, t.cells.toArray, rfl, hb, blk_new _ _, Nat.le_refl _, by decide, by simp [Tok.cells], by simp [Tok.cells]⟩⟩
theorem toks_cell1 (t : Tok) : ∀ u ∈ t.cells, u.oneCell' = true := by
  have := toks_cell [t]
  simpa using this

theorem one_calls (s : ByteArray) (hs : s.size ≤ 70000) (i : Nat) (hi : i < s.size) (w : World) : Calls Tryd.prog 60 #[.string s, .int .i64 (i : Int)] w fun e w' =>
    e = .returned (.tuple #[.agg #[.int .i64 (oneT s i).kind, .string (oneT s i).text, .int .i64 (oneT s i).n, .int .i64 0, .int .i64 0], .int .i64 ((oneT s i).fin : Int), .int .i64 (oneT s i).err]) ∧ Below w.heap.size w w' :=
  cochinealref06_One.calls _ s i _ _ _ _ _ _ _ w (ref_one s hs i hi)

/-- What the document's line answers. -/
def LinePost (R : Int × Nat × List Tok) (w : World) (e : Ending) (w' : World) : Prop :=
  ∃ v, e = .returned (.tuple #[v, .int .i64 (if R.1 = 0 then 0 else (R.2.1 : Int) + 1), .int .i64 R.1]) ∧ (R.1 = 0 → w'.ownsRow w.heap.size 34 5 v R.2.2.length (toks R.2.2)) ∧ (R.1 ≠ 0 → v = .slice none 0 0) ∧ Below w.heap.size w w'

theorem line_long (s : ByteArray) (n : Int) (hs : 1000 < s.size) (w : World) : Calls Tryd.prog 30 #[.string s, .int .i64 n] w fun e w' => e = .returned (.tuple #[.slice none 0 0, .int .i64 1001, .int .i64 12]) ∧ w' = w := by
  have hs' : (1000 : Int) < (s.size : Int) := by omega
  go_enter Tryd.func30, Tryd.ntmps30
  go_wp2
  go_ret3
  exact ⟨rfl, rfl⟩

set_option maxHeartbeats 4000000 in
set_option maxRecDepth 100000 in
theorem line_calls (s : ByteArray) (n : Int) (hs : s.size ≤ 1000) (w : World) : Calls Tryd.prog 30 #[.string s, .int .i64 n] w (LinePost (lineR s n 0 0 []) w) := by
  have hs' : ¬ (1000 : Int) < (s.size : Int) := by omega
  obtain ⟨R, hR⟩ : ∃ R, lineR s n 0 0 [] = R := ⟨_, rfl⟩
  rw [hR]
  have hR' := Lib.hid hR; clear hR
  obtain ⟨r, hr⟩ : ∃ r, Hid (r = w.heap.size) := ⟨_, Lib.hid rfl⟩
  have hr0 : r ≤ w.heap.size := by rw [hr.out]; exact Nat.le_refl _
  go_enter Tryd.func30, Tryd.ntmps30
  go_wp2_with fail
  go_loopg [7, 8, 9] (s.size) (fun kq v7 v8 v9 w' => ∃ (i last : Nat) (l : List Tok), v8 = .int .i64 (i : Int) ∧ v9 = .int .i64 (last : Int) ∧ Hid (s.size - i ≤ kq) ∧ Hid (i ≤ s.size) ∧ Hid (last ≤ i) ∧ Hid (l.length ≤ i) ∧ Hid (lineR s n i last l = R) ∧ Hid (w'.ownsRow r 34 5 v7 l.length (toks l)) ∧ Hid (Below r w w'))
  case atStart => exact ⟨0, 0, [], rfl, rfl, Lib.hid (by omega), Lib.hid (Nat.zero_le _), Lib.hid (Nat.le_refl _), Lib.hid (Nat.le_refl _), hR', Lib.hid (World.ownsRow_nil _ _ _ _), Lib.hid (Below.refl _ _)⟩
  case round =>
    obtain ⟨i, last, l, rfl, rfl, hk, hi, hla, hlen, hRi, hv, hB⟩ := hrel
    have hx := bx_read (s := s) (i := i)
    obtain ⟨A, c, rfl⟩ := own_slice hv.out
    have hzr : r ≤ wr.heap.size := by have := hB.out.size; omega
    have hlast : last ≤ 1000 := by have := hi.out; have := hla.out; omega
    have hi1 : i ≤ 1000 := by have := hi.out; omega
    have hl1 : l.length ≤ 1000 := by have := hlen.out; omega
    by_cases c0 : s.size ≤ i ∨ bx s i = 35
    · have hRo := hRi.out
      rw [lineR_end hi.out c0] at hRo
      have hRo' := Lib.hid hRo; clear hRo
      by_cases c6 : l = []
      · subst c6
        simp only [List.length_nil] at hv
        by_cases c7 : s.size ≤ i
        · have c7' : ¬ (i : Int) < (s.size : Int) := by omega
          (go_wp2_with fail; go_ret3; rw [← hRo'.out]; exact ⟨.slice A 0 c, rfl, fun _ => by rw [← hr.out]; exact hv.out, fun h => absurd rfl h, by rw [← hr.out]; exact hB.out⟩)
        · have c7' : i < s.size := by omega
          have c7'' : (i : Int) < (s.size : Int) := by omega
          have c8 : bx s i = 35 := by rcases c0 with h | h; · omega
                                      · exact h
          (go_wp2_with fail; go_ret3; rw [← hRo'.out]; exact ⟨.slice A 0 c, rfl, fun _ => by rw [← hr.out]; exact hv.out, fun h => absurd rfl h, by rw [← hr.out]; exact hB.out⟩)
      · have c9 : 0 < (l.length : Int) := by have := List.length_pos_iff.2 c6; omega
        rw [if_neg c6] at hRo'
        by_cases c7 : s.size ≤ i
        · have c7' : ¬ (i : Int) < (s.size : Int) := by omega
          (go_wp2_with (at_builtin; refine append_row (by rfl) _ _ _ (by rfl) r 34 _ 5 48 Tryd.underlying29 info34 rfl (by decide) (.slice A l.length c) l.length (toks l) (by rfl) (by exact hv.out.alloc _) _ 0 1 (⟨4, ⟨#[]⟩, 0, n, (last : Int) + 1⟩ : Tok).cells (by rfl) (by exact own_tok (⟨4, ⟨#[]⟩, 0, n, (last : Int) + 1⟩ : Tok) 34 0 (Nat.zero_le _) (by simp)) (toks_cell1 _) (by omega) (by decide) (by simp; omega) ?_; intro v7 w7 hv7 hg7); have hB7 := Lib.hid ((hB.out.alloc hzr (.cells (⟨4, ⟨#[]⟩, 0, n, (last : Int) + 1⟩ : Tok).cells.toArray 34)).grown hg7 (by simp; omega) (own_below hv.out)); have hv7' := Lib.hid hv7; clear hv7 hg7; go_wp2_with fail; go_ret3; rw [← hRo'.out]; exact ⟨v7, rfl, fun _ => by rw [← hr.out]; simpa using hv7'.out, fun h => absurd rfl h, by rw [← hr.out]; exact hB7.out⟩)
        · have c7' : i < s.size := by omega
          have c7'' : (i : Int) < (s.size : Int) := by omega
          have c8 : bx s i = 35 := by rcases c0 with h | h; · omega
                                      · exact h
          (go_wp2_with (at_builtin; refine append_row (by rfl) _ _ _ (by rfl) r 34 _ 5 48 Tryd.underlying29 info34 rfl (by decide) (.slice A l.length c) l.length (toks l) (by rfl) (by exact hv.out.alloc _) _ 0 1 (⟨4, ⟨#[]⟩, 0, n, (last : Int) + 1⟩ : Tok).cells (by rfl) (by exact own_tok (⟨4, ⟨#[]⟩, 0, n, (last : Int) + 1⟩ : Tok) 34 0 (Nat.zero_le _) (by simp)) (toks_cell1 _) (by omega) (by decide) (by simp; omega) ?_; intro v7 w7 hv7 hg7); have hB7 := Lib.hid ((hB.out.alloc hzr (.cells (⟨4, ⟨#[]⟩, 0, n, (last : Int) + 1⟩ : Tok).cells.toArray 34)).grown hg7 (by simp; omega) (own_below hv.out)); have hv7' := Lib.hid hv7; clear hv7 hg7; go_wp2_with fail; go_ret3; rw [← hRo'.out]; exact ⟨v7, rfl, fun _ => by rw [← hr.out]; simpa using hv7'.out, fun h => absurd rfl h, by rw [← hr.out]; exact hB7.out⟩)
    · obtain ⟨c1, c2⟩ := not_or.1 c0
      have c1' : i < s.size := by omega
      have c1'' : (i : Int) < (s.size : Int) := by omega
      obtain ⟨k1, rfl⟩ : ∃ k1, gk = k1 + 1 := ⟨gk - 1, by have := hk.out; omega⟩
      clear c0 c1
      have hRo := hRi.out
      by_cases c3 : bx s i = 32
      · rw [lineR_blank c1' c2 (.inl c3)] at hRo
        have hRo' := Lib.hid hRo; clear hRo
        go_wp2_with fail
        go_roundg k1
        case measure => omega
        case rel => exact ⟨i + 1, last, l, by simp, rfl, Lib.hid (by have := hk.out; omega), Lib.hid (by omega), Lib.hid (by have := hla.out; omega), Lib.hid (by have := hlen.out; omega), hRo', hv, hB⟩
      · by_cases c4 : bx s i = 9
        · rw [lineR_blank c1' c2 (.inr c4)] at hRo
          have hRo' := Lib.hid hRo; clear hRo
          go_wp2_with fail
          go_roundg k1
          case measure => omega
          case rel => exact ⟨i + 1, last, l, by simp, rfl, Lib.hid (by have := hk.out; omega), Lib.hid (by omega), Lib.hid (by have := hla.out; omega), Lib.hid (by have := hlen.out; omega), hRo', hv, hB⟩
        · have d3 : (bx s i == 32) = false := by simp [c3]
          have d4 : (bx s i == 9) = false := by simp [c4]
          have hone := Lib.hid (fun W => one_calls s (by omega) i c1' W)
          by_cases c5 : (oneT s i).err = 0
          · rw [lineR_tok c1' c2 (not_or.2 ⟨c3, c4⟩) c5] at hRo
            have hto := oneT_to s i c1' c5
            generalize oneT s i = o at *
            obtain ⟨oe, ok, ot, on, of⟩ := o
            dsimp only at hRo hto c5 hone
            subst c5
            have hRo' := Lib.hid hRo; clear hRo
            have hto' := Lib.hid hto; clear hto
            go_wp2_with fail
            refine (hone.out _).mono ?_
            rintro e w2 ⟨rfl, hb2⟩
            have hv2 := Lib.hid (own_later hv.out hb2)
            have hB2 := Lib.hid (hB.out.trans (hb2.mono hzr))
            have hz2 := hb2.size
            clear hb2
            go_wp2_with (at_builtin; refine append_row (by rfl) _ _ _ (by rfl) r 34 _ 5 48 Tryd.underlying29 info34 rfl (by decide) (.slice A l.length c) l.length (toks l) (by rfl) (by exact (hv2.out.alloc _).alloc _) _ 0 1 (⟨ok, ot, on, n, (i : Int) + 1⟩ : Tok).cells (by rfl) (by exact own_tok (⟨ok, ot, on, n, (i : Int) + 1⟩ : Tok) 34 0 (Nat.zero_le _) (by simp)) (toks_cell1 _) (by omega) (by decide) (by simp; omega) ?_; intro v7 w7 hv7 hg7)
            have hB7 := Lib.hid (((hB2.out.alloc (by omega) (.cells (⟨ok, ot, on, n, (i : Int) + 1⟩ : Tok).cells.toArray 34)).alloc (by simp; omega) (.cells (⟨ok, ot, on, n, (i : Int) + 1⟩ : Tok).cells.toArray 34)).grown hg7 (by simp; omega) (own_below hv2.out))
            have hv7' := Lib.hid hv7
            clear hv7 hg7
            go_roundg k1
            case measure => omega
            case rel => exact ⟨of, of, l ++ [(⟨ok, ot, on, n, (i : Int) + 1⟩ : Tok)], rfl, rfl, Lib.hid (by have := hto'.out.1; have := hk.out; omega), Lib.hid hto'.out.2, Lib.hid (Nat.le_refl _), Lib.hid (by have := hto'.out.1; have := hlen.out; simp; omega), hRo', Lib.hid (by simpa using hv7'.out), hB7⟩
          · rw [lineR_bad c1' c2 (not_or.2 ⟨c3, c4⟩) c5] at hRo
            generalize oneT s i = o at *
            obtain ⟨oe, ok, ot, on, of⟩ := o
            dsimp only at hRo c5 hone
            have hRo' := Lib.hid hRo; clear hRo
            have d5 : (oe == 0) = false := by simp [c5]
            go_wp2_with fail
            refine (hone.out _).mono ?_
            rintro e w2 ⟨rfl, hb2⟩
            have hB2 := Lib.hid (hB.out.trans (hb2.mono hzr))
            clear hb2
            go_wp2_with fail
            go_ret3
            rw [← hRo'.out]
            refine ⟨.slice none 0 0, ?_, fun h => absurd h c5, fun _ => rfl, ?_⟩
            · have e : (if (oe, i, ([] : List Tok)).1 = 0 then (0 : Int) else ((oe, i, ([] : List Tok)).2.1 : Int) + 1) = (i : Int) + 1 := if_neg c5
              rw [e]; rfl
            · rw [← hr.out]; exact hB2.out.alloc (by have := hB2.out.size; omega) _
end Go.Proofs.YtlhhpbpoioaagaaDoor
