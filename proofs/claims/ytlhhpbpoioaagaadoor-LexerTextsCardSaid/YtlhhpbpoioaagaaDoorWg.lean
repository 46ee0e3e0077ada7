import Derived.Test.YtlhhpbpoioaagaaDoorWc
import Derived.Test.YtlhhpbpoioaagaaDoorWd
import Derived.Test.YtlhhpbpoioaagaaDoorWe
import Derived.Test.YtlhhpbpoioaagaaDoorWf
import Derived.ScopeJumps
import Derived.WalkMore
import Derived.Tactics2
namespace Go.Proofs.YtlhhpbpoioaagaaDoor
set_option linter.unusedVariables false
set_option linter.unusedSimpArgs false
open Go.RowKit Go.Proofs.YtlhhpbpoioaagaaDoorW.PrintWords Go.Proofs.YtlhhpbpoioaagaaDoorW.PrintLast Go.Proofs.YtlhhpbpoioaagaaDoorW.PrintMore

theorem next_calls (g : Nat) (s : ByteArray) (n : Int) (i : Nat) (v : Value) (base : Nat) (l : List Tok) (hi : i < s.size) (hsz : s.size ≤ 1000) (hl0 : l.length ≤ 1000) (w : World) (hl : LineAt g s n i v w) (hv : w.ownsRow base 37 5 v l.length (toks l)) (hbg : base ≤ g) :
    Calls Tryd.prog 59 #[.pointer (some ⟨g, 0, none⟩)] w (NextPost g s n i base l (oneT s i) v w) := by
  unfold oneT
  split
  · rename_i h1; exact next_word g s n i v base l hi hsz hl0 w hl hv hbg h1
  · rename_i h1
    split
    · rename_i h2
      split
      · rename_i h3; exact next_dots g s n i v base l hi hsz hl0 w hl hv hbg h2 h3
      · rename_i h3; exact next_dot g s n i v base l hi hsz hl0 w hl hv hbg h2 h3
    · rename_i h2
      split
      · rename_i h3; exact next_num16 g s n i v base l hi hsz hl0 w hl hv hbg h3
      · rename_i h3
        split
        · rename_i h4; exact next_num10 g s n i v base l hi hsz hl0 w hl hv hbg (by simpa using h1) h2 h3 (by rw [dig10_is, decide_eq_true h4])
        · rename_i h4; exact next_mark g s n i v base l hi hsz hl0 w hl hv hbg (by simpa using h1) h2 h3 (by rw [dig10_is, decide_eq_false h4])

theorem wp_scope_label {P : Program} {a : Act} {w : World} {Q : Exit → Act → World → Prop} {c rest : Code} (l : Nat) (J : Act → World → Prop) (μ : Act → World → Nat) (hf : findLabel c l = some (Code.skip.seq rest))
    (pass : ∀ a w, J a w → rest.wp P (Exit.jump l (fun a' w' => J a' w' ∧ μ a' w' < μ a w) Q) a w)
    (first : (∀ a w, J a w → rest.wp P (Exit.jump l J Q) a w) → c.wp P (Exit.jump l J Q) a w) : (Code.scope c).wp P Q a w :=
  wp_scope_jumps l J μ hf (first fun a w h => Code.wp_mono (fun e a' w' h => by
    cases e with
    | goto l' => exact ⟨h.1, h.2.1⟩
    | _ => exact h) (pass a w h)) (fun a w h => wp_seq (wp_skip (pass a w h)))

/-- What a line's scan answers. -/
def ScanPost (g : Nat) (s : ByteArray) (n : Int) (base : Nat) (R : Int × Nat × List Tok) (w : World) (e : Ending) (w' : World) : Prop :=
  e = .returned (.tuple #[.agg #[.int .i64 (if R.1 = 0 then 0 else n), .int .i64 (if R.1 = 0 then 0 else (R.2.1 : Int) + 1)], .int .i64 R.1]) ∧
    (R.1 = 0 → ∃ i v, LineAt g s n i v w' ∧ w'.ownsRow base 37 5 v R.2.2.length (toks R.2.2)) ∧ Below base w w'

def atOf (g : Nat) (w : World) : Nat := match w.cell? ⟨g, 2, none⟩ with | some (.int _ q) => q.toNat | _ => 0

theorem atOf_line {g : Nat} {s : ByteArray} {n : Int} {i : Nat} {v : Value} {w : World} (h : LineAt g s n i v w) : atOf g w = i := by
  unfold atOf; rw [h.c2]; simp
theorem atOf_lt {g i j m : Nat} {w1 w2 : World} (h2 : atOf g w2 = j) (h1 : atOf g w1 = i) (hi : i < m) (hj : i < j) : m - atOf g w2 < m - atOf g w1 := by omega

/-- What holds of the world at the label. -/
structure LineInv (c r g : Nat) (s : ByteArray) (n : Int) (base : Nat) (R : Int × Nat × List Tok) (w0 : World) (i last : Nat) (l : List Tok) (v : Value) (w : World) : Prop where
  hc : w.heap[c]? = some (.cells #[.pointer (some ⟨g, 0, none⟩)] 67 (0, 0))
  hr : w.heap[r]? = some (.cells #[.int .i64 0, .int .i64 0] 25 (0, 0))
  hl : LineAt g s n i v w
  hv : w.ownsRow base 37 5 v l.length (toks l)
  hB : Below base w0 w
  hi : i ≤ s.size
  hlen : l.length ≤ i
  hlast : last ≤ i
  hR : lineR s n i last l = R
  hbc : base ≤ c
  hbr : base ≤ r
  hgr : g ≠ r
  hgc : g ≠ c
  hcr : c ≠ r

theorem LineInv.drew {c r g : Nat} {s : ByteArray} {n : Int} {base : Nat} {R : Int × Nat × List Tok} {w0 : World} {i last : Nat} {l : List Tok} {v : Value} {w : World} (h : LineInv c r g s n base R w0 i last l v w) : LineInv c r g s n base R w0 i last l v w.drew :=
  ⟨h.hc, h.hr, h.hl, h.hv, h.hB.drew, h.hi, h.hlen, h.hlast, h.hR, h.hbc, h.hbr, h.hgr, h.hgc, h.hcr⟩

def LineJ (c r g : Nat) (s : ByteArray) (n : Int) (base : Nat) (R : Int × Nat × List Tok) (w0 : World) (a : Act) (w : World) : Prop :=
  ∃ (i last : Nat) (l : List Tok) (v : Value), LineInv c r g s n base R w0 i last l v w ∧ ∃ T : Nat → Value, a = { tmps := #[.pointer (some ⟨g, 0, none⟩), .pointer (some ⟨c, 0, none⟩), .pointer (some ⟨r, 0, none⟩), .int .i64 0, .int .i64 (last : Int), .func (.func 57) #[] #[.pointer (some ⟨c, 0, none⟩)], T 6, T 7, T 8, T 9, T 10, T 11, T 12, T 13, T 14, T 15, T 16, T 17, T 18, T 19, T 20, T 21, T 22, T 23, T 24, T 25, T 26, T 27, T 28, T 29, T 30, T 31, T 32, T 33, T 34, T 35, T 36, T 37, T 38, T 39, T 40, T 41, T 42, T 43, T 44, T 45, T 46, T 47, T 48, T 49, T 50, T 51, T 52, T 53, T 54, T 55, T 56, T 57, T 58, T 59, T 60, T 61, T 62, T 63, T 64, T 65, T 66, T 67, T 68, T 69, T 70, T 71, T 72, T 73, T 74, T 75, T 76, T 77, T 78, T 79, T 80, T 81, T 82, T 83, T 84, T 85, T 86, T 87, T 88, T 89, T 90, T 91], defers := [] }

theorem LineJ.of {c r g : Nat} {s : ByteArray} {n : Int} {base : Nat} {R : Int × Nat × List Tok} {w0 : World} {a : Act} {w : World} (i last : Nat) (l : List Tok) (v : Value) (hI : LineInv c r g s n base R w0 i last l v w)
    (h : a = { tmps := #[.pointer (some ⟨g, 0, none⟩), .pointer (some ⟨c, 0, none⟩), .pointer (some ⟨r, 0, none⟩), .int .i64 0, .int .i64 (last : Int), .func (.func 57) #[] #[.pointer (some ⟨c, 0, none⟩)], a.tmps.getD 6 undef, a.tmps.getD 7 undef, a.tmps.getD 8 undef, a.tmps.getD 9 undef, a.tmps.getD 10 undef, a.tmps.getD 11 undef, a.tmps.getD 12 undef, a.tmps.getD 13 undef, a.tmps.getD 14 undef, a.tmps.getD 15 undef, a.tmps.getD 16 undef, a.tmps.getD 17 undef, a.tmps.getD 18 undef, a.tmps.getD 19 undef, a.tmps.getD 20 undef, a.tmps.getD 21 undef, a.tmps.getD 22 undef, a.tmps.getD 23 undef, a.tmps.getD 24 undef, a.tmps.getD 25 undef, a.tmps.getD 26 undef, a.tmps.getD 27 undef, a.tmps.getD 28 undef, a.tmps.getD 29 undef, a.tmps.getD 30 undef, a.tmps.getD 31 undef, a.tmps.getD 32 undef, a.tmps.getD 33 undef, a.tmps.getD 34 undef, a.tmps.getD 35 undef, a.tmps.getD 36 undef, a.tmps.getD 37 undef, a.tmps.getD 38 undef, a.tmps.getD 39 undef, a.tmps.getD 40 undef, a.tmps.getD 41 undef, a.tmps.getD 42 undef, a.tmps.getD 43 undef, a.tmps.getD 44 undef, a.tmps.getD 45 undef, a.tmps.getD 46 undef, a.tmps.getD 47 undef, a.tmps.getD 48 undef, a.tmps.getD 49 undef, a.tmps.getD 50 undef, a.tmps.getD 51 undef, a.tmps.getD 52 undef, a.tmps.getD 53 undef, a.tmps.getD 54 undef, a.tmps.getD 55 undef, a.tmps.getD 56 undef, a.tmps.getD 57 undef, a.tmps.getD 58 undef, a.tmps.getD 59 undef, a.tmps.getD 60 undef, a.tmps.getD 61 undef, a.tmps.getD 62 undef, a.tmps.getD 63 undef, a.tmps.getD 64 undef, a.tmps.getD 65 undef, a.tmps.getD 66 undef, a.tmps.getD 67 undef, a.tmps.getD 68 undef, a.tmps.getD 69 undef, a.tmps.getD 70 undef, a.tmps.getD 71 undef, a.tmps.getD 72 undef, a.tmps.getD 73 undef, a.tmps.getD 74 undef, a.tmps.getD 75 undef, a.tmps.getD 76 undef, a.tmps.getD 77 undef, a.tmps.getD 78 undef, a.tmps.getD 79 undef, a.tmps.getD 80 undef, a.tmps.getD 81 undef, a.tmps.getD 82 undef, a.tmps.getD 83 undef, a.tmps.getD 84 undef, a.tmps.getD 85 undef, a.tmps.getD 86 undef, a.tmps.getD 87 undef, a.tmps.getD 88 undef, a.tmps.getD 89 undef, a.tmps.getD 90 undef, a.tmps.getD 91 undef], defers := [] }) : LineJ c r g s n base R w0 a w := ⟨i, last, l, v, hI, fun k => a.tmps.getD k undef, h⟩

set_option maxHeartbeats 4000000 in
set_option maxRecDepth 1000000 in
theorem scan_calls (g : Nat) (s : ByteArray) (n : Int) (base : Nat) (hsz : s.size ≤ 1000) (w : World) (hl : LineAt g s n 0 (.slice none 0 0) w) (hbg : base ≤ g) :
    Calls Tryd.prog 29 #[.pointer (some ⟨g, 0, none⟩)] w (ScanPost g s n base (lineR s n 0 0 []) w) := by
  have hl' := Lib.hid hl
  have hgl := hl.lt
  clear hl
  obtain ⟨R, hR⟩ : ∃ R, lineR s n 0 0 [] = R := ⟨_, rfl⟩
  rw [hR]
  have hR' := Lib.hid hR; clear hR
  go_enter Tryd.func29, Tryd.ntmps29
  go_wp2
  obtain ⟨c, hc⟩ : ∃ c, Hid (c = w.heap.size) := ⟨_, Lib.hid rfl⟩
  obtain ⟨r, hr⟩ : ∃ r, Hid (r = w.heap.size + 1) := ⟨_, Lib.hid rfl⟩
  refine wp_scope_label 0 (LineJ c r g s n base R w) (fun _ w' => s.size - atOf g w') rfl ?_ ?_
  · rintro a w1 ⟨i, last, l, v, hI, T, rfl⟩
    obtain ⟨A, cp, rfl⟩ := own_slice hI.hv
    have hc0 : w1.cell? ⟨c, 0, none⟩ = some (.pointer (some ⟨g, 0, none⟩)) := (blk_cell hI.hc 0).trans rfl
    have h0 := hI.hl.c0
    have h2 := hI.hl.c2
    have h3 := hI.hl.c3
    have hS : ∀ (p : Mix2.Keeps (fun W => W.cell? ⟨c, 0, none⟩ = some (.pointer (some ⟨g, 0, none⟩)) ∧ W.cell? ⟨g, 0, none⟩ = some (.string s) ∧ W.cell? ⟨g, 2, none⟩ = some (.int .i64 i))), p.w.cell? ⟨c, 0, none⟩ = some (.pointer (some ⟨g, 0, none⟩)) := fun p => p.h.1
    have hS1 : ∀ (p : Mix2.Keeps (fun W => W.cell? ⟨c, 0, none⟩ = some (.pointer (some ⟨g, 0, none⟩)) ∧ W.cell? ⟨g, 0, none⟩ = some (.string s) ∧ W.cell? ⟨g, 2, none⟩ = some (.int .i64 i))), p.w.cell? ⟨g, 0, none⟩ = some (.string s) := fun p => p.h.2.1
    have hS2 : ∀ (p : Mix2.Keeps (fun W => W.cell? ⟨c, 0, none⟩ = some (.pointer (some ⟨g, 0, none⟩)) ∧ W.cell? ⟨g, 0, none⟩ = some (.string s) ∧ W.cell? ⟨g, 2, none⟩ = some (.int .i64 i))), p.w.cell? ⟨g, 2, none⟩ = some (.int .i64 i) := fun p => p.h.2.2
    have hNE : Nonempty (Mix2.Keeps (fun W => W.cell? ⟨c, 0, none⟩ = some (.pointer (some ⟨g, 0, none⟩)) ∧ W.cell? ⟨g, 0, none⟩ = some (.string s) ∧ W.cell? ⟨g, 2, none⟩ = some (.int .i64 i))) := ⟨⟨w1, hc0, h0, h2⟩⟩
    by_cases c1 : s.size ≤ i
    · have c1' : (s.size : Int) ≤ (i : Int) := by omega
      have hRe := lineR_end hI.hi (.inl c1) (n := n) (last := last) (l := l)
      rw [hI.hR] at hRe
      by_cases c5 : l = []
      · subst c5
        rw [if_pos rfl] at hRe
        have hf0 := blk_frozen hI.hr 0
        have hf1 := blk_frozen hI.hr 1
        have hx0 := (blk_cell hI.hr 0).trans rfl
        have hx1 := (blk_cell hI.hr 1).trans rfl
        go_wp2_with fail
        refine Mix2.wp_region (fun W => W.cell? ⟨c, 0, none⟩ = some (.pointer (some ⟨g, 0, none⟩)) ∧ W.cell? ⟨g, 0, none⟩ = some (.string s) ∧ W.cell? ⟨g, 2, none⟩ = some (.int .i64 i)) (fun k => k == 0 || k == 3 || k == 4 || k == 7 || k == 11 || k == 14 || k == 15 || k == 18) (fun k => false) (by kernel_rfl) (by kernel_rfl) (by kernel_rfl) ⟨hc0, h0, h2⟩ ?_
        repeat (first | (refine Mix2.walk_read rfl rfl (fun K hK => ?_); go_simp; refine hK _ ?_; clear hK K) | (refine Mix2.walk_pure rfl (fun K hK => ?_); go_simp; refine hK _ ?_; clear hK K))
        refine Mix2.walk_nil ?_
        go_wp2_with fail
        simp only [Exit.jump]
        refine bodyPost_ret (results_ct rfl _ _ r 25 #[.int .i64 0, .int .i64 0] (0, 0) _ rfl (blk_put (blk_put hI.hr 0 _ rfl) 1 _ rfl) Tryd.underlying25 rfl (by kernel_rfl)) rfl ?_
        try rw [hRe]
        refine ⟨rfl, fun _ => ⟨i, _, blk_far (blk_far hI.hl (p := ⟨r, 0, none⟩) hI.hgr _) (p := ⟨r, 1, none⟩) hI.hgr _, own_far (own_far hI.hv (p := ⟨r, 0, none⟩) (own_ne hI.hv hI.hr (by decide)) _) (p := ⟨r, 1, none⟩) (own_ne hI.hv hI.hr (by decide)) _⟩, ?_⟩
        exact ((hI.hB.setCell (p := ⟨r, 0, none⟩) hI.hbr _).setCell (p := ⟨r, 1, none⟩) hI.hbr _).drew
      · rw [if_neg c5] at hRe
        have c5' : 0 < l.length := List.length_pos_iff.mpr c5
        go_wp2_with fail
        refine Mix2.wp_region (fun W => W.cell? ⟨c, 0, none⟩ = some (.pointer (some ⟨g, 0, none⟩)) ∧ W.cell? ⟨g, 0, none⟩ = some (.string s) ∧ W.cell? ⟨g, 2, none⟩ = some (.int .i64 i)) (fun k => k == 0 || k == 3 || k == 4 || k == 7 || k == 11 || k == 14 || k == 15 || k == 18) (fun k => false) (by kernel_rfl) (by kernel_rfl) (by kernel_rfl) ⟨hc0, h0, h2⟩ ?_
        repeat (first | (refine Mix2.walk_read rfl rfl (fun K hK => ?_); go_simp; refine hK _ ?_; clear hK K) | (refine Mix2.walk_pure rfl (fun K hK => ?_); go_simp; refine hK _ ?_; clear hK K))
        refine Mix2.walk_nil ?_
        go_wp2_with fail
        have hI2 := hI.drew
        clear hS hS1 hS2 hNE hc0 h0 h2 h3 hI
        generalize w1.drew = W at hI2 ⊢
        have hS : ∀ (p : Mix2.Keeps (fun W => W.cell? ⟨c, 0, none⟩ = some (.pointer (some ⟨g, 0, none⟩)) ∧ W.cell? ⟨g, 3, none⟩ = some (.slice A l.length cp))), p.w.cell? ⟨c, 0, none⟩ = some (.pointer (some ⟨g, 0, none⟩)) := fun p => p.h.1
        have hS1 : ∀ (p : Mix2.Keeps (fun W => W.cell? ⟨c, 0, none⟩ = some (.pointer (some ⟨g, 0, none⟩)) ∧ W.cell? ⟨g, 3, none⟩ = some (.slice A l.length cp))), p.w.cell? ⟨g, 3, none⟩ = some (.slice A l.length cp) := fun p => p.h.2
        have hS0 : W.cell? ⟨c, 0, none⟩ = some (.pointer (some ⟨g, 0, none⟩)) ∧ W.cell? ⟨g, 3, none⟩ = some (.slice A l.length cp) := ⟨(blk_cell hI2.hc 0).trans rfl, hI2.hl.c3⟩
        have hNE : Nonempty (Mix2.Keeps (fun W => W.cell? ⟨c, 0, none⟩ = some (.pointer (some ⟨g, 0, none⟩)) ∧ W.cell? ⟨g, 3, none⟩ = some (.slice A l.length cp))) := ⟨⟨W, hS0⟩⟩
        refine Mix2.wp_region (fun W => W.cell? ⟨c, 0, none⟩ = some (.pointer (some ⟨g, 0, none⟩)) ∧ W.cell? ⟨g, 3, none⟩ = some (.slice A l.length cp)) (fun k => k == 0 || k == 1 || k == 4 || k == 5) (fun k => k == 7 || k == 9 || k == 10 || k == 13) (by kernel_rfl) (by kernel_rfl) (by kernel_rfl) hS0 ?_
        repeat (first | (refine Mix2.walk_read rfl rfl (fun K hK => ?_); go_simp; refine hK _ ?_; clear hK K) | (refine Mix2.walk_pure rfl (fun K hK => ?_); go_simp; refine hK _ ?_; clear hK K))
        replace hI2 := hI2.drew
        clear hNE hS0
        generalize W.drew = W2 at hI2 ⊢
        clear W
        refine Mix2.walk_eff rfl (fun K hK => ?_)
        go_simp
        refine (place_calls g s n i _ last (by have := hI2.hlast; have := hI2.hi; omega) _ hI2.hl).mono ?_
        rintro e w3 ⟨rfl, hb⟩
        have hl3 : LineAt g s n i (.slice A l.length cp) w3 := blk_below hI2.hl hb
        have hv3 := own_later hI2.hv hb
        have hc3 := blk_below hI2.hc hb
        have hr3 := blk_below hI2.hr hb
        have hz0 : base ≤ W2.heap.size := Nat.le_trans hbg (Nat.le_of_lt hI2.hl.lt)
        have hB3 : Below base w w3 := hI2.hB.trans (hb.mono hz0)
        refine hK _ _ ⟨(blk_cell hc3 0).trans rfl, hl3.c3⟩ ?_
        clear hK K
        have hz3 : base ≤ w3.heap.size := Nat.le_trans hz0 hb.size
        refine Mix2.walk_pure rfl (fun K hK => ?_); go_simp; refine hK _ ?_; clear hK K
        refine Mix2.walk_eff rfl (fun K hK => ?_)
        go_simp
        have hl4 : LineAt g s n i (.slice A l.length cp) _ := blk_alloc hl3 (.cells (#[.int .i64 4, .string ⟨#[]⟩, .int .i64 0, .int .i64 n, .int .i64 ((last : Int) + 1)] : Array Value) 37)
        have hv4 := hv3.alloc (.cells (#[.int .i64 4, .string ⟨#[]⟩, .int .i64 0, .int .i64 n, .int .i64 ((last : Int) + 1)] : Array Value) 37)
        have hc4 := blk_alloc hc3 (.cells (#[.int .i64 4, .string ⟨#[]⟩, .int .i64 0, .int .i64 n, .int .i64 ((last : Int) + 1)] : Array Value) 37)
        have hr4 := blk_alloc hr3 (.cells (#[.int .i64 4, .string ⟨#[]⟩, .int .i64 0, .int .i64 n, .int .i64 ((last : Int) + 1)] : Array Value) 37)
        have hb4 := blk_new w3 (.cells (#[.int .i64 4, .string ⟨#[]⟩, .int .i64 0, .int .i64 n, .int .i64 ((last : Int) + 1)] : Array Value) 37)
        have hB4 := hB3.alloc hz3 (.cells (#[.int .i64 4, .string ⟨#[]⟩, .int .i64 0, .int .i64 n, .int .i64 ((last : Int) + 1)] : Array Value) 37)
        have hz4 : base ≤ (w3.alloc (.cells (#[.int .i64 4, .string ⟨#[]⟩, .int .i64 0, .int .i64 n, .int .i64 ((last : Int) + 1)] : Array Value) 37)).heap.size := by simp; omega
        refine hK _ _ ⟨(blk_cell hc4 0).trans rfl, hl4.c3⟩ ?_
        clear hK K hl3 hv3 hc3 hr3 hB3 hb
        refine Mix2.walk_eff rfl (fun K hK => ?_)
        refine append_cells (by rfl) _ _ _ (by rfl) base 37 _ 5 48 Tryd.underlying23 info37 rfl (by decide) _ l.length (toks l) (by rfl) hv4 1 (#[.int .i64 4, .string ⟨#[]⟩, .int .i64 0, .int .i64 n, .int .i64 ((last : Int) + 1)] : Array Value).toList w3.heap.size (by rfl) (by simp) hb4 (by simp [Value.oneCell']) (by decide) (by have := hI2.hlen; have := hI2.hi; omega) (by decide) hz4 ?_
        intro v1 w5 hv5 hg5
        obtain ⟨A1, c1', rfl⟩ := own_slice hv5
        have hl5 : LineAt g s n i (.slice A l.length cp) _ := blk_grown hl4 hg5 (own_ne hv4 hl4 (by decide))
        have hc5 := blk_grown hc4 hg5 (own_ne hv4 hc4 (by decide))
        have hr5 := blk_grown hr4 hg5 (own_ne hv4 hr4 (by decide))
        have hB5 := hB4.grown hg5 hz4 (own_below hv4)
        refine hK _ _ ⟨(blk_cell hc5 0).trans rfl, hl5.c3⟩ ?_
        clear hK K hl4 hv4 hc4 hr4 hb4 hB4 hg5
        repeat (refine Mix2.walk_pure rfl (fun K hK => ?_); go_simp; refine hK _ ?_; clear hK K)
        have hf := blk_frozen hl5 3
        have hx := hl5.c3
        refine Mix2.walk_last 6 rfl (by intro j hj; simp; omega) (by kernel_rfl) (fun K hK => ?_)
        go_simp
        refine hK _ _ ?_
        clear hK K hf hx hS hS1
        have hl6 : LineAt g s n i (.slice A1 (l.length + 1) c1') _ := blk_put hl5 3 (.slice A1 (l.length + 1) c1') rfl
        have hv6 := own_far hv5 (p := ⟨g, 3, none⟩) (own_ne hv5 hl5 (by decide)) (.slice A1 (l.length + 1) c1')
        have hB6 := hB5.setCell (p := ⟨g, 3, none⟩) hbg (.slice A1 (l.length + 1) c1')
        have hr6 := blk_far hr5 (p := ⟨g, 3, none⟩) (Ne.symm hI2.hgr) (.slice A1 (l.length + 1) c1')
        generalize w5.setCell ⟨g, 3, none⟩ (.slice A1 (l.length + 1) c1') = W6 at hl6 hv6 hB6 hr6 ⊢
        clear hl5 hv5 hB5 hc5 hr5
        refine Mix2.walk_nil ?_
        have hf0 := blk_frozen hr6 0
        have hf1 := blk_frozen hr6 1
        have hx0 := (blk_cell hr6 0).trans rfl
        have hx1 := (blk_cell hr6 1).trans rfl
        go_wp2_with fail
        simp only [Exit.jump]
        refine bodyPost_ret (results_ct rfl _ _ r 25 #[.int .i64 0, .int .i64 0] (0, 0) _ rfl (blk_put (blk_put hr6 0 _ rfl) 1 _ rfl) Tryd.underlying25 rfl (by kernel_rfl)) rfl ?_
        try rw [hRe]
        refine ⟨rfl, fun _ => ⟨i, _, blk_far (blk_far hl6 (p := ⟨r, 0, none⟩) hI2.hgr _) (p := ⟨r, 1, none⟩) hI2.hgr _, ?_⟩, ?_⟩
        · have hv7 := own_far (own_far hv6 (p := ⟨r, 0, none⟩) (own_ne hv6 hr6 (by decide)) (.int .i64 0)) (p := ⟨r, 1, none⟩) (own_ne hv6 hr6 (by decide)) (.int .i64 0)
          simpa [Tok.cells] using hv7
        · exact (hB6.setCell (p := ⟨r, 0, none⟩) hI2.hbr _).setCell (p := ⟨r, 1, none⟩) hI2.hbr _
    · have hi : i < s.size := by omega
      have c1' : ¬ (s.size : Int) ≤ (i : Int) := by omega
      have c1'' : (i : Int) < (s.size : Int) := by omega
      have hx := bx_read (s := s) (i := i)
      by_cases c2 : bx s i = 35
      · have hRe := lineR_end hI.hi (.inr c2) (n := n) (last := last) (l := l)
        rw [hI.hR] at hRe
        by_cases c5 : l = []
        · subst c5
          rw [if_pos rfl] at hRe
          have hf0 := blk_frozen hI.hr 0
          have hf1 := blk_frozen hI.hr 1
          have hx0 := (blk_cell hI.hr 0).trans rfl
          have hx1 := (blk_cell hI.hr 1).trans rfl
          go_wp2_with fail
          refine Mix2.wp_region (fun W => W.cell? ⟨c, 0, none⟩ = some (.pointer (some ⟨g, 0, none⟩)) ∧ W.cell? ⟨g, 0, none⟩ = some (.string s) ∧ W.cell? ⟨g, 2, none⟩ = some (.int .i64 i)) (fun k => k == 0 || k == 3 || k == 4 || k == 7 || k == 11 || k == 14 || k == 15 || k == 18) (fun k => false) (by kernel_rfl) (by kernel_rfl) (by kernel_rfl) ⟨hc0, h0, h2⟩ ?_
          repeat (first | (refine Mix2.walk_read rfl rfl (fun K hK => ?_); go_simp; refine hK _ ?_; clear hK K) | (refine Mix2.walk_pure rfl (fun K hK => ?_); go_simp; refine hK _ ?_; clear hK K))
          refine Mix2.walk_nil ?_
          go_wp2_with fail
          simp only [Exit.jump]
          refine bodyPost_ret (results_ct rfl _ _ r 25 #[.int .i64 0, .int .i64 0] (0, 0) _ rfl (blk_put (blk_put hI.hr 0 _ rfl) 1 _ rfl) Tryd.underlying25 rfl (by kernel_rfl)) rfl ?_
          try rw [hRe]
          refine ⟨rfl, fun _ => ⟨i, _, blk_far (blk_far hI.hl (p := ⟨r, 0, none⟩) hI.hgr _) (p := ⟨r, 1, none⟩) hI.hgr _, own_far (own_far hI.hv (p := ⟨r, 0, none⟩) (own_ne hI.hv hI.hr (by decide)) _) (p := ⟨r, 1, none⟩) (own_ne hI.hv hI.hr (by decide)) _⟩, ?_⟩
          exact ((hI.hB.setCell (p := ⟨r, 0, none⟩) hI.hbr _).setCell (p := ⟨r, 1, none⟩) hI.hbr _).drew
        · rw [if_neg c5] at hRe
          have c5' : 0 < l.length := List.length_pos_iff.mpr c5
          go_wp2_with fail
          refine Mix2.wp_region (fun W => W.cell? ⟨c, 0, none⟩ = some (.pointer (some ⟨g, 0, none⟩)) ∧ W.cell? ⟨g, 0, none⟩ = some (.string s) ∧ W.cell? ⟨g, 2, none⟩ = some (.int .i64 i)) (fun k => k == 0 || k == 3 || k == 4 || k == 7 || k == 11 || k == 14 || k == 15 || k == 18) (fun k => false) (by kernel_rfl) (by kernel_rfl) (by kernel_rfl) ⟨hc0, h0, h2⟩ ?_
          repeat (first | (refine Mix2.walk_read rfl rfl (fun K hK => ?_); go_simp; refine hK _ ?_; clear hK K) | (refine Mix2.walk_pure rfl (fun K hK => ?_); go_simp; refine hK _ ?_; clear hK K))
          refine Mix2.walk_nil ?_
          go_wp2_with fail
          have hI2 := hI.drew
          clear hS hS1 hS2 hNE hc0 h0 h2 h3 hI
          generalize w1.drew = W at hI2 ⊢
          have hS : ∀ (p : Mix2.Keeps (fun W => W.cell? ⟨c, 0, none⟩ = some (.pointer (some ⟨g, 0, none⟩)) ∧ W.cell? ⟨g, 3, none⟩ = some (.slice A l.length cp))), p.w.cell? ⟨c, 0, none⟩ = some (.pointer (some ⟨g, 0, none⟩)) := fun p => p.h.1
          have hS1 : ∀ (p : Mix2.Keeps (fun W => W.cell? ⟨c, 0, none⟩ = some (.pointer (some ⟨g, 0, none⟩)) ∧ W.cell? ⟨g, 3, none⟩ = some (.slice A l.length cp))), p.w.cell? ⟨g, 3, none⟩ = some (.slice A l.length cp) := fun p => p.h.2
          have hS0 : W.cell? ⟨c, 0, none⟩ = some (.pointer (some ⟨g, 0, none⟩)) ∧ W.cell? ⟨g, 3, none⟩ = some (.slice A l.length cp) := ⟨(blk_cell hI2.hc 0).trans rfl, hI2.hl.c3⟩
          have hNE : Nonempty (Mix2.Keeps (fun W => W.cell? ⟨c, 0, none⟩ = some (.pointer (some ⟨g, 0, none⟩)) ∧ W.cell? ⟨g, 3, none⟩ = some (.slice A l.length cp))) := ⟨⟨W, hS0⟩⟩
          refine Mix2.wp_region (fun W => W.cell? ⟨c, 0, none⟩ = some (.pointer (some ⟨g, 0, none⟩)) ∧ W.cell? ⟨g, 3, none⟩ = some (.slice A l.length cp)) (fun k => k == 0 || k == 1 || k == 4 || k == 5) (fun k => k == 7 || k == 9 || k == 10 || k == 13) (by kernel_rfl) (by kernel_rfl) (by kernel_rfl) hS0 ?_
          repeat (first | (refine Mix2.walk_read rfl rfl (fun K hK => ?_); go_simp; refine hK _ ?_; clear hK K) | (refine Mix2.walk_pure rfl (fun K hK => ?_); go_simp; refine hK _ ?_; clear hK K))
          replace hI2 := hI2.drew
          clear hNE hS0
          generalize W.drew = W2 at hI2 ⊢
          clear W
          refine Mix2.walk_eff rfl (fun K hK => ?_)
          go_simp
          refine (place_calls g s n i _ last (by have := hI2.hlast; have := hI2.hi; omega) _ hI2.hl).mono ?_
          rintro e w3 ⟨rfl, hb⟩
          have hl3 : LineAt g s n i (.slice A l.length cp) w3 := blk_below hI2.hl hb
          have hv3 := own_later hI2.hv hb
          have hc3 := blk_below hI2.hc hb
          have hr3 := blk_below hI2.hr hb
          have hz0 : base ≤ W2.heap.size := Nat.le_trans hbg (Nat.le_of_lt hI2.hl.lt)
          have hB3 : Below base w w3 := hI2.hB.trans (hb.mono hz0)
          refine hK _ _ ⟨(blk_cell hc3 0).trans rfl, hl3.c3⟩ ?_
          clear hK K
          have hz3 : base ≤ w3.heap.size := Nat.le_trans hz0 hb.size
          refine Mix2.walk_pure rfl (fun K hK => ?_); go_simp; refine hK _ ?_; clear hK K
          refine Mix2.walk_eff rfl (fun K hK => ?_)
          go_simp
          have hl4 : LineAt g s n i (.slice A l.length cp) _ := blk_alloc hl3 (.cells (#[.int .i64 4, .string ⟨#[]⟩, .int .i64 0, .int .i64 n, .int .i64 ((last : Int) + 1)] : Array Value) 37)
          have hv4 := hv3.alloc (.cells (#[.int .i64 4, .string ⟨#[]⟩, .int .i64 0, .int .i64 n, .int .i64 ((last : Int) + 1)] : Array Value) 37)
          have hc4 := blk_alloc hc3 (.cells (#[.int .i64 4, .string ⟨#[]⟩, .int .i64 0, .int .i64 n, .int .i64 ((last : Int) + 1)] : Array Value) 37)
          have hr4 := blk_alloc hr3 (.cells (#[.int .i64 4, .string ⟨#[]⟩, .int .i64 0, .int .i64 n, .int .i64 ((last : Int) + 1)] : Array Value) 37)
          have hb4 := blk_new w3 (.cells (#[.int .i64 4, .string ⟨#[]⟩, .int .i64 0, .int .i64 n, .int .i64 ((last : Int) + 1)] : Array Value) 37)
          have hB4 := hB3.alloc hz3 (.cells (#[.int .i64 4, .string ⟨#[]⟩, .int .i64 0, .int .i64 n, .int .i64 ((last : Int) + 1)] : Array Value) 37)
          have hz4 : base ≤ (w3.alloc (.cells (#[.int .i64 4, .string ⟨#[]⟩, .int .i64 0, .int .i64 n, .int .i64 ((last : Int) + 1)] : Array Value) 37)).heap.size := by simp; omega
          refine hK _ _ ⟨(blk_cell hc4 0).trans rfl, hl4.c3⟩ ?_
          clear hK K hl3 hv3 hc3 hr3 hB3 hb
          refine Mix2.walk_eff rfl (fun K hK => ?_)
          refine append_cells (by rfl) _ _ _ (by rfl) base 37 _ 5 48 Tryd.underlying23 info37 rfl (by decide) _ l.length (toks l) (by rfl) hv4 1 (#[.int .i64 4, .string ⟨#[]⟩, .int .i64 0, .int .i64 n, .int .i64 ((last : Int) + 1)] : Array Value).toList w3.heap.size (by rfl) (by simp) hb4 (by simp [Value.oneCell']) (by decide) (by have := hI2.hlen; have := hI2.hi; omega) (by decide) hz4 ?_
          intro v1 w5 hv5 hg5
          obtain ⟨A1, c1', rfl⟩ := own_slice hv5
          have hl5 : LineAt g s n i (.slice A l.length cp) _ := blk_grown hl4 hg5 (own_ne hv4 hl4 (by decide))
          have hc5 := blk_grown hc4 hg5 (own_ne hv4 hc4 (by decide))
          have hr5 := blk_grown hr4 hg5 (own_ne hv4 hr4 (by decide))
          have hB5 := hB4.grown hg5 hz4 (own_below hv4)
          refine hK _ _ ⟨(blk_cell hc5 0).trans rfl, hl5.c3⟩ ?_
          clear hK K hl4 hv4 hc4 hr4 hb4 hB4 hg5
          repeat (refine Mix2.walk_pure rfl (fun K hK => ?_); go_simp; refine hK _ ?_; clear hK K)
          have hf := blk_frozen hl5 3
          have hx := hl5.c3
          refine Mix2.walk_last 6 rfl (by intro j hj; simp; omega) (by kernel_rfl) (fun K hK => ?_)
          go_simp
          refine hK _ _ ?_
          clear hK K hf hx hS hS1
          have hl6 : LineAt g s n i (.slice A1 (l.length + 1) c1') _ := blk_put hl5 3 (.slice A1 (l.length + 1) c1') rfl
          have hv6 := own_far hv5 (p := ⟨g, 3, none⟩) (own_ne hv5 hl5 (by decide)) (.slice A1 (l.length + 1) c1')
          have hB6 := hB5.setCell (p := ⟨g, 3, none⟩) hbg (.slice A1 (l.length + 1) c1')
          have hr6 := blk_far hr5 (p := ⟨g, 3, none⟩) (Ne.symm hI2.hgr) (.slice A1 (l.length + 1) c1')
          generalize w5.setCell ⟨g, 3, none⟩ (.slice A1 (l.length + 1) c1') = W6 at hl6 hv6 hB6 hr6 ⊢
          clear hl5 hv5 hB5 hc5 hr5
          refine Mix2.walk_nil ?_
          have hf0 := blk_frozen hr6 0
          have hf1 := blk_frozen hr6 1
          have hx0 := (blk_cell hr6 0).trans rfl
          have hx1 := (blk_cell hr6 1).trans rfl
          go_wp2_with fail
          simp only [Exit.jump]
          refine bodyPost_ret (results_ct rfl _ _ r 25 #[.int .i64 0, .int .i64 0] (0, 0) _ rfl (blk_put (blk_put hr6 0 _ rfl) 1 _ rfl) Tryd.underlying25 rfl (by kernel_rfl)) rfl ?_
          try rw [hRe]
          refine ⟨rfl, fun _ => ⟨i, _, blk_far (blk_far hl6 (p := ⟨r, 0, none⟩) hI2.hgr _) (p := ⟨r, 1, none⟩) hI2.hgr _, ?_⟩, ?_⟩
          · have hv7 := own_far (own_far hv6 (p := ⟨r, 0, none⟩) (own_ne hv6 hr6 (by decide)) (.int .i64 0)) (p := ⟨r, 1, none⟩) (own_ne hv6 hr6 (by decide)) (.int .i64 0)
            simpa [Tok.cells] using hv7
          · exact (hB6.setCell (p := ⟨r, 0, none⟩) hI2.hbr _).setCell (p := ⟨r, 1, none⟩) hI2.hbr _
      · by_cases c3 : bx s i = 32
        · have hRe := lineR_blank (n := n) (last := last) (l := l) hi c2 (.inl c3)
          rw [hI.hR] at hRe
          have hRe' := Lib.hid hRe; clear hRe
          have hcw : IntKind.i64.wrap ((i : Int) + 1) = (i : Int) + 1 := IntWalk.i64_in _ (by omega)
          go_wp2_with fail
          refine Mix2.wp_region (fun W => W.cell? ⟨c, 0, none⟩ = some (.pointer (some ⟨g, 0, none⟩)) ∧ W.cell? ⟨g, 0, none⟩ = some (.string s) ∧ W.cell? ⟨g, 2, none⟩ = some (.int .i64 i)) (fun k => k == 0 || k == 3 || k == 4 || k == 7 || k == 11 || k == 14 || k == 15 || k == 18) (fun k => false) (by kernel_rfl) (by kernel_rfl) (by kernel_rfl) ⟨hc0, h0, h2⟩ ?_
          repeat (first | (refine Mix2.walk_read rfl rfl (fun K hK => ?_); go_simp; refine hK _ ?_; clear hK K) | (refine Mix2.walk_pure rfl (fun K hK => ?_); go_simp; refine hK _ ?_; clear hK K))
          refine Mix2.walk_nil ?_
          go_wp2_with fail
          refine Mix2.wp_region (fun W => W.cell? ⟨c, 0, none⟩ = some (.pointer (some ⟨g, 0, none⟩)) ∧ W.cell? ⟨g, 0, none⟩ = some (.string s) ∧ W.cell? ⟨g, 2, none⟩ = some (.int .i64 i)) (fun k => k == 0 || k == 3 || k == 4 || k == 7 || k == 11 || k == 14 || k == 15 || k == 18) (fun k => false) (by kernel_rfl) (by kernel_rfl) (by kernel_rfl) ⟨hc0, h0, h2⟩ ?_
          repeat (first | (refine Mix2.walk_read rfl rfl (fun K hK => ?_); go_simp; refine hK _ ?_; clear hK K) | (refine Mix2.walk_pure rfl (fun K hK => ?_); go_simp; refine hK _ ?_; clear hK K))
          refine Mix2.walk_nil ?_
          have hf := blk_frozen hI.hl 2
          go_wp2_with fail
          go_step3
          have hl2 : LineAt g s n (i + 1) (.slice A l.length cp) (w1.drew.drew.setCell ⟨g, 2, none⟩ (.int .i64 ((i : Int) + 1))) := blk_put (w := w1.drew.drew) hI.hl 2 (.int .i64 ((i : Int) + 1)) (by simp)
          refine ⟨rfl, LineJ.of (i + 1) last l _ ⟨blk_far (w := w1.drew.drew) hI.hc hI.hgc.symm _, blk_far (w := w1.drew.drew) hI.hr hI.hgr.symm _, hl2, own_far (w := w1.drew.drew) (p := ⟨g, 2, none⟩) hI.hv (own_ne hI.hv hI.hl (by decide)) _, (hI.hB.drew.drew).setCell hbg _, by omega, by have := hI.hlen; omega, by have := hI.hlast; omega, hRe'.out.symm, hI.hbc, hI.hbr, hI.hgr, hI.hgc, hI.hcr⟩ rfl, ?_⟩
          exact atOf_lt (atOf_line hl2) (atOf_line hI.hl) hi (Nat.lt_succ_self i)
        · by_cases c4 : bx s i = 9
          · have hRe := lineR_blank (n := n) (last := last) (l := l) hi c2 (.inr c4)
            rw [hI.hR] at hRe
            have hRe' := Lib.hid hRe; clear hRe
            have hcw : IntKind.i64.wrap ((i : Int) + 1) = (i : Int) + 1 := IntWalk.i64_in _ (by omega)
            go_wp2_with fail
            refine Mix2.wp_region (fun W => W.cell? ⟨c, 0, none⟩ = some (.pointer (some ⟨g, 0, none⟩)) ∧ W.cell? ⟨g, 0, none⟩ = some (.string s) ∧ W.cell? ⟨g, 2, none⟩ = some (.int .i64 i)) (fun k => k == 0 || k == 3 || k == 4 || k == 7 || k == 11 || k == 14 || k == 15 || k == 18) (fun k => false) (by kernel_rfl) (by kernel_rfl) (by kernel_rfl) ⟨hc0, h0, h2⟩ ?_
            repeat (first | (refine Mix2.walk_read rfl rfl (fun K hK => ?_); go_simp; refine hK _ ?_; clear hK K) | (refine Mix2.walk_pure rfl (fun K hK => ?_); go_simp; refine hK _ ?_; clear hK K))
            refine Mix2.walk_nil ?_
            go_wp2_with fail
            refine Mix2.wp_region (fun W => W.cell? ⟨c, 0, none⟩ = some (.pointer (some ⟨g, 0, none⟩)) ∧ W.cell? ⟨g, 0, none⟩ = some (.string s) ∧ W.cell? ⟨g, 2, none⟩ = some (.int .i64 i)) (fun k => k == 0 || k == 3 || k == 4 || k == 7 || k == 11 || k == 14 || k == 15 || k == 18) (fun k => false) (by kernel_rfl) (by kernel_rfl) (by kernel_rfl) ⟨hc0, h0, h2⟩ ?_
            repeat (first | (refine Mix2.walk_read rfl rfl (fun K hK => ?_); go_simp; refine hK _ ?_; clear hK K) | (refine Mix2.walk_pure rfl (fun K hK => ?_); go_simp; refine hK _ ?_; clear hK K))
            refine Mix2.walk_nil ?_
            have hf := blk_frozen hI.hl 2
            go_wp2_with fail
            go_step3
            have hl2 : LineAt g s n (i + 1) (.slice A l.length cp) (w1.drew.drew.setCell ⟨g, 2, none⟩ (.int .i64 ((i : Int) + 1))) := blk_put (w := w1.drew.drew) hI.hl 2 (.int .i64 ((i : Int) + 1)) (by simp)
            refine ⟨rfl, LineJ.of (i + 1) last l _ ⟨blk_far (w := w1.drew.drew) hI.hc hI.hgc.symm _, blk_far (w := w1.drew.drew) hI.hr hI.hgr.symm _, hl2, own_far (w := w1.drew.drew) (p := ⟨g, 2, none⟩) hI.hv (own_ne hI.hv hI.hl (by decide)) _, (hI.hB.drew.drew).setCell hbg _, by omega, by have := hI.hlen; omega, by have := hI.hlast; omega, hRe'.out.symm, hI.hbc, hI.hbr, hI.hgr, hI.hgc, hI.hcr⟩ rfl, ?_⟩
            exact atOf_lt (atOf_line hl2) (atOf_line hI.hl) hi (Nat.lt_succ_self i)
          · have b35 : (bx s i == 35) = false := by simp [c2]
            have b32 : (bx s i == 32) = false := by simp [c3]
            have b9 : (bx s i == 9) = false := by simp [c4]
            have hnb : ¬ (bx s i = 32 ∨ bx s i = 9) := fun h => h.elim c3 c4
            have hn := next_calls g s n i (.slice A l.length cp) base l hi hsz (by have := hI.hlen; omega)
            have hn' := Lib.hid hn; clear hn
            by_cases c6 : (oneT s i).err = 0
            · have hRe := lineR_tok (n := n) (last := last) (l := l) hi c2 hnb c6
              rw [hI.hR] at hRe
              have hRe' := Lib.hid hRe; clear hRe hnb
              have hto := oneT_to s i hi c6
              have c6' := Lib.hid c6; clear c6
              go_wp2_with fail
              refine Mix2.wp_region (fun W => W.cell? ⟨c, 0, none⟩ = some (.pointer (some ⟨g, 0, none⟩)) ∧ W.cell? ⟨g, 0, none⟩ = some (.string s) ∧ W.cell? ⟨g, 2, none⟩ = some (.int .i64 i)) (fun k => k == 0 || k == 3 || k == 4 || k == 7 || k == 11 || k == 14 || k == 15 || k == 18) (fun k => false) (by kernel_rfl) (by kernel_rfl) (by kernel_rfl) ⟨hc0, h0, h2⟩ ?_
              repeat (first | (refine Mix2.walk_read rfl rfl (fun K hK => ?_); go_simp; refine hK _ ?_; clear hK K) | (refine Mix2.walk_pure rfl (fun K hK => ?_); go_simp; refine hK _ ?_; clear hK K))
              refine Mix2.walk_nil ?_
              go_wp2_with fail
              refine Mix2.wp_region (fun W => W.cell? ⟨c, 0, none⟩ = some (.pointer (some ⟨g, 0, none⟩)) ∧ W.cell? ⟨g, 0, none⟩ = some (.string s) ∧ W.cell? ⟨g, 2, none⟩ = some (.int .i64 i)) (fun k => k == 0 || k == 3 || k == 4 || k == 7 || k == 11 || k == 14 || k == 15 || k == 18) (fun k => false) (by kernel_rfl) (by kernel_rfl) (by kernel_rfl) ⟨hc0, h0, h2⟩ ?_
              repeat (first | (refine Mix2.walk_read rfl rfl (fun K hK => ?_); go_simp; refine hK _ ?_; clear hK K) | (refine Mix2.walk_pure rfl (fun K hK => ?_); go_simp; refine hK _ ?_; clear hK K))
              refine Mix2.walk_nil ?_
              go_wp2_with fail
              refine (hn'.out _ (by exact hI.hl) (by exact hI.hv) hbg).mono ?_
              rintro e w3 ⟨rfl, v', hl3, hv3, hB3, hQ3⟩
              rw [if_pos c6'.out] at hl3 hv3
              rw [c6'.out]
              obtain ⟨A3, cp3, rfl⟩ := own_slice hv3
              have hne1 := own_ne hI.hv hI.hc (by decide)
              have hne2 := own_ne hI.hv hI.hr (by decide)
              have hc3 : w3.heap[c]? = _ := (hQ3.2 c (blk_lt hI.hc) hI.hgc.symm hne1).trans hI.hc
              have hr3 : w3.heap[r]? = _ := (hQ3.2 r (blk_lt hI.hr) hI.hgr.symm hne2).trans hI.hr
              have hcc := (blk_cell hc3 0).trans rfl
              have hcg := hl3.c2
              go_wp2_with fail
              go_step3
              refine ⟨rfl, LineJ.of _ _ _ _ ⟨hc3, hr3, hl3, hv3, (hI.hB.drew.drew).trans hB3, hto.2, ?_, Nat.le_refl _, hRe'.out.symm, hI.hbc, hI.hbr, hI.hgr, hI.hgc, hI.hcr⟩ rfl, ?_⟩
              · have := hI.hlen; simp; omega
              · exact atOf_lt (atOf_line hl3) (atOf_line hI.hl) hi hto.1
            · have hRe := lineR_bad (n := n) (last := last) (l := l) hi c2 hnb c6
              rw [hI.hR] at hRe
              have hRe' := Lib.hid hRe; clear hRe hnb
              have b6 : ((oneT s i).err == 0) = false := by simp [c6]
              go_wp2_with fail
              refine Mix2.wp_region (fun W => W.cell? ⟨c, 0, none⟩ = some (.pointer (some ⟨g, 0, none⟩)) ∧ W.cell? ⟨g, 0, none⟩ = some (.string s) ∧ W.cell? ⟨g, 2, none⟩ = some (.int .i64 i)) (fun k => k == 0 || k == 3 || k == 4 || k == 7 || k == 11 || k == 14 || k == 15 || k == 18) (fun k => false) (by kernel_rfl) (by kernel_rfl) (by kernel_rfl) ⟨hc0, h0, h2⟩ ?_
              repeat (first | (refine Mix2.walk_read rfl rfl (fun K hK => ?_); go_simp; refine hK _ ?_; clear hK K) | (refine Mix2.walk_pure rfl (fun K hK => ?_); go_simp; refine hK _ ?_; clear hK K))
              refine Mix2.walk_nil ?_
              go_wp2_with fail
              refine Mix2.wp_region (fun W => W.cell? ⟨c, 0, none⟩ = some (.pointer (some ⟨g, 0, none⟩)) ∧ W.cell? ⟨g, 0, none⟩ = some (.string s) ∧ W.cell? ⟨g, 2, none⟩ = some (.int .i64 i)) (fun k => k == 0 || k == 3 || k == 4 || k == 7 || k == 11 || k == 14 || k == 15 || k == 18) (fun k => false) (by kernel_rfl) (by kernel_rfl) (by kernel_rfl) ⟨hc0, h0, h2⟩ ?_
              repeat (first | (refine Mix2.walk_read rfl rfl (fun K hK => ?_); go_simp; refine hK _ ?_; clear hK K) | (refine Mix2.walk_pure rfl (fun K hK => ?_); go_simp; refine hK _ ?_; clear hK K))
              refine Mix2.walk_nil ?_
              go_wp2_with fail
              refine (hn'.out _ (by exact hI.hl) (by exact hI.hv) hbg).mono ?_
              rintro e w3 ⟨rfl, v', hl3, hv3, hB3, hQ3⟩
              rw [if_neg c6] at hl3 hv3
              have hne1 := own_ne hI.hv hI.hc (by decide)
              have hne2 := own_ne hI.hv hI.hr (by decide)
              have hc3 : w3.heap[c]? = _ := (hQ3.2 c (blk_lt hI.hc) hI.hgc.symm hne1).trans hI.hc
              have hr3 : w3.heap[r]? = _ := (hQ3.2 r (blk_lt hI.hr) hI.hgr.symm hne2).trans hI.hr
              have hB4 := (hI.hB.drew.drew).trans hB3
              clear hQ3 hB3
              go_wp2_with fail
              refine (tell_calls c g s n i v' (oneT s i).err (by omega) w3 hc3 hl3).mono ?_
              rintro e w4 ⟨rfl, hb⟩
              have hr4 := blk_below hr3 hb
              have hz : base ≤ w3.heap.size := Nat.le_trans hbg (Nat.le_of_lt hl3.lt)
              have hB5 := hB4.trans (hb.mono hz)
              have hf0 := blk_frozen hr4 0
              have hf1 := blk_frozen hr4 1
              have hx0 := (blk_cell hr4 0).trans rfl
              have hx1 := (blk_cell hr4 1).trans rfl
              go_wp2_with fail
              simp only [Exit.jump]
              refine bodyPost_ret (results_ct rfl _ _ r 25 #[.int .i64 n, .int .i64 ((i : Int) + 1)] (0, 0) _ rfl (blk_put (blk_put hr4 0 _ rfl) 1 _ rfl) Tryd.underlying25 rfl (by kernel_rfl)) rfl ?_
              rw [hRe'.out]
              refine ⟨?_, fun h => absurd h c6, (hB5.setCell (p := ⟨r, 0, none⟩) hI.hbr _).setCell (p := ⟨r, 1, none⟩) hI.hbr _⟩
              rw [if_neg c6, if_neg c6]
              rfl
  · intro hrest
    have hc1 := blk_alloc (blk_new w (.cells #[.pointer (some ⟨g, 0, none⟩)] 67)) (.cells #[.int .i64 0, .int .i64 0] 25)
    have hr1 := blk_new (w.alloc (.cells #[.pointer (some ⟨g, 0, none⟩)] 67)) (.cells #[.int .i64 0, .int .i64 0] 25)
    have hl1 : LineAt g s n 0 (.slice none 0 0) _ := blk_alloc (blk_alloc hl'.out (.cells #[.pointer (some ⟨g, 0, none⟩)] 67)) (.cells #[.int .i64 0, .int .i64 0] 25)
    have hB1 := ((Below.refl base w).alloc (by omega) (.cells #[.pointer (some ⟨g, 0, none⟩)] 67)).alloc (by simp; omega) (.cells #[.int .i64 0, .int .i64 0] 25)
    rw [← hr.out, ← hc.out]
    have hrest' := Lib.hid hrest; clear hrest
    go_wp2_with fail
    go_step3
    rename_i hK
    refine hK _ _ (hrest'.out _ _ (LineJ.of 0 0 [] (.slice none 0 0) ⟨?_, ?_, hl1, World.ownsRow_nil _ _ _ _, hB1, Nat.zero_le _, Nat.le_refl _, Nat.le_refl _, hR'.out, ?_, ?_, ?_, ?_, ?_⟩ rfl))
    · rw [hc.out]; exact hc1
    · rw [hr.out]; simpa using hr1
    · rw [hc.out]; omega
    · rw [hr.out]; omega
    · rw [hr.out]; omega
    · rw [hc.out]; omega
    · rw [hr.out, hc.out]; omega
end Go.Proofs.YtlhhpbpoioaagaaDoor
