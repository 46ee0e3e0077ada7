import Derived.Test.YtefhjioeceadlaaDoorWd
set_option linter.unusedVariables false
namespace Go.Proofs.YtefhjioeceadlaaDoor
open Go.RowKit

set_option maxHeartbeats 4000000 in
theorem text_false (c0 c1 y0 y1 a o g n : Int) (w : World) (m0 : y0 ≤ 9223372036854775807) (m1 : y1 ≤ 9223372036854775807)
    (ma : a ≤ 9223372036854775807) (mo : o ≤ 9223372036854775807) (mg : g ≤ 9223372036854775807) (mn : n ≤ 9223372036854775807)
    (htab : Lib.TabIs Tryd.prog w "internal/strconv.uint64pow10" .u64 Lib.pow10Tab) (h1 : 0 ≤ c0) (h2 : c0 ≤ 3) (h5 : 0 ≤ y0) (h3 : 0 ≤ c1) (h4 : c1 ≤ 3) (h6 : 0 ≤ y1) (ka : -1 ≤ a) (ko : -1 ≤ o) (kg : -1 ≤ g) (kn : -1 ≤ n) :
    Calls Tryd.prog 5 #[.agg #[.bool false, .int .i64 c0, .int .i64 c1, .int .i64 y0, .int .i64 y1, .int .i64 a, .int .i64 o, .int .i64 g, .int .i64 n]] w (TextPost false c0 c1 y0 y1 a o g n w) := by
  have hix0 := word_index c0 h1 h2
  have hix1 := word_index c1 h3 h4
  have ix0 : ∀ w, (Instr.index 22 (.agg #[.int .i64 c0, .int .i64 c1]) (.int .i64 0)).run Tryd.prog w = .ok (.int .i64 c0) w := fun _ => by kernel_rfl
  have ix1 : ∀ w, (Instr.index 22 (.agg #[.int .i64 c0, .int .i64 c1]) (.int .i64 1)).run Tryd.prog w = .ok (.int .i64 c1) w := fun _ => by kernel_rfl
  have htab' := Lib.hid htab; clear htab
  go_enter Tryd.func5, Tryd.ntmps5
  go_wp2_with fail
  generalize hW : World.alloc (World.alloc w (.cells #[.bool false, .int .i64 c0, .int .i64 c1, .int .i64 y0, .int .i64 y1, .int .i64 a, .int .i64 o, .int .i64 g, .int .i64 n] 24)) (.cells #[.string ⟨#[104, 105, 103, 104]⟩] 9) = W
  have hbox : BoxAt w.heap.size (#[.bool false, .int .i64 c0, .int .i64 c1, .int .i64 y0, .int .i64 y1, .int .i64 a, .int .i64 o, .int .i64 g, .int .i64 n]) W := by rw [← hW]; exact (BoxAt.new _ _ _).alloc _
  have hown : W.ownsRow (w.heap.size + 1) 9 1 (.slice (some ⟨w.heap.size + 1, 0, none⟩) 1 1) 1 (strs [headL false]) := by
    rw [← hW]; have := World.ownsRow_lit (base := w.heap.size + 1) (e := 9) (size := 1) (w.alloc (.cells #[.bool false, .int .i64 c0, .int .i64 c1, .int .i64 y0, .int .i64 y1, .int .i64 a, .int .i64 o, .int .i64 g, .int .i64 n] 24)) #[.string ⟨#[104, 105, 103, 104]⟩] 1 (by simp) (by decide) (by simp)
    rw [World.size_alloc] at this; exact this
  have hz : w.heap.size + 2 ≤ W.heap.size := by rw [← hW]; simp
  have hB : Below w.heap.size w W := by rw [← hW]; exact (by repeat (first | exact Below.refl _ _ | refine Below.drew ?_ | refine below_drewN ?_ _ | refine Below.alloc ?_ (by simp <;> omega) _ | refine Below.setCell ?_ (by simp <;> omega) _ | assumption | (refine Below.trans ?_ (Below.mono (by assumption) (by simp <;> omega)))))
  have htW := tab_later htab'.out hB
  clear hW
  refine wp_loop_rounds 3 ?_
  -- round 0
  rw [rounds_succ]
  have hb2 := hbox.2
  go_wp2_with fail
  have hS : ∀ (p : Mix.Keeps (BoxAt w.heap.size (#[.bool false, .int .i64 c0, .int .i64 c1, .int .i64 y0, .int .i64 y1, .int .i64 a, .int .i64 o, .int .i64 g, .int .i64 n]))) i, p.w.cell? ⟨w.heap.size, i, none⟩ = (#[.bool false, .int .i64 c0, .int .i64 c1, .int .i64 y0, .int .i64 y1, .int .i64 a, .int .i64 o, .int .i64 g, .int .i64 n] : Array Value)[i]? := fun p i => p.h.2 i
  have hNE : Nonempty (Mix.Keeps (BoxAt w.heap.size (#[.bool false, .int .i64 c0, .int .i64 c1, .int .i64 y0, .int .i64 y1, .int .i64 a, .int .i64 o, .int .i64 g, .int .i64 n]))) := ⟨⟨_, hbox⟩⟩
  refine Mix.wp_region (BoxAt w.heap.size (#[.bool false, .int .i64 c0, .int .i64 c1, .int .i64 y0, .int .i64 y1, .int .i64 a, .int .i64 o, .int .i64 g, .int .i64 n])) (fun k => k == 8 || k == 9 || k == 10) (by kernel_rfl) (by kernel_rfl) (by kernel_rfl) hbox ?_
  repeat (refine Mix.walk_read rfl (fun K hK => ?_); go_simp; refine hK _ ?_; clear hK K)
  refine Mix.walk_eff rfl (fun K hK => ?_)
  go_simp
  refine (itoa_b y0 (by omega) (by omega) _ (by exact htW)).mono ?_
  rintro e w1 ⟨rfl, hb⟩
  replace hb := below_of_drew hb
  have hbox1 : BoxAt w.heap.size (#[.bool false, .int .i64 c0, .int .i64 c1, .int .i64 y0, .int .i64 y1, .int .i64 a, .int .i64 o, .int .i64 g, .int .i64 n]) w1 := hbox.later hb
  have hown1 := own_later hown hb
  have hB1 : Below w.heap.size w w1 := hB.trans (hb.mono hB.size)
  have hz1 : w.heap.size + 2 ≤ w1.heap.size := Nat.le_trans hz hb.size
  have htW1 := tab_later htab'.out hB1
  clear hb hbox hown hB hz htW hb2
  refine hK _ _ ⟨⟨_, hbox1⟩, rfl⟩ ?_
  clear hK K
  refine Mix.walk_eff rfl (fun K hK => ?_)
  go_simp
  refine hK _ _ ⟨⟨_, hbox1.alloc _⟩, rfl⟩ ?_
  clear hK K
  refine Mix.walk_eff rfl (fun K hK => ?_)
  refine append_one (by rfl) _ _ _ (by rfl) (w.heap.size + 1) 9 _ 16 Tryd.underlying34 info9 rfl _ 1 _ (by rfl) (hown1.alloc _) 2 [.string (str (wordL c0)), .string (str (Lib.itoa y0))] w1.heap.size (by rfl) rfl (heap_alloc_new _ _) (by simp [Value.oneCell']) (by omega) (by decide) (by decide) (by simp; omega) ?_
  intro gg cap w2 hown2 hgrow hge hat
  have hbox2 := (hbox1.alloc _).grown hgrow (by simp [Value.ownBlock])
  have hB2 : Below w.heap.size w w2 := (hB1.alloc (by omega) _).grown hgrow (by simp; omega) (by simp [Value.ownBlock])
  have hz2 : w.heap.size + 2 ≤ w2.heap.size := by have := hgrow.size; simp at this; omega
  have htW2 := tab_later htab'.out hB2
  refine hK _ _ ⟨⟨_, hbox2⟩, rfl⟩ ?_
  clear hK K hgrow htW1 hz1 hB1 hown1 hbox1
  repeat (refine Mix.walk_read rfl (fun K hK => ?_); go_simp; refine hK _ ?_; clear hK K)
  refine Mix.walk_nil ?_
  clear hS hNE
  have hown3 : w2.ownsRow (w.heap.size + 1) 9 1 (.slice (some ⟨gg, 0, none⟩) 3 cap) 3 (strs [headL false, wordL c0, Lib.itoa y0]) := by simpa [strs] using hown2
  clear hown2
  obtain ⟨hbox, hB, hz, hown, htW⟩ := And.intro hbox2 (And.intro hB2 (And.intro hz2 (And.intro hown3 htW2)))
  clear hbox2 hB2 hz2 hown3 htW2
  obtain ⟨W, rfl⟩ : ∃ W, W = w2 := ⟨_, rfl⟩
  obtain ⟨g0, rfl⟩ : ∃ g0, g0 = gg := ⟨_, rfl⟩
  go_wp2_with fail
  -- round 1
  rw [rounds_succ]
  have hb2 := hbox.2
  go_wp2_with fail
  have hS : ∀ (p : Mix.Keeps (BoxAt w.heap.size (#[.bool false, .int .i64 c0, .int .i64 c1, .int .i64 y0, .int .i64 y1, .int .i64 a, .int .i64 o, .int .i64 g, .int .i64 n]))) i, p.w.cell? ⟨w.heap.size, i, none⟩ = (#[.bool false, .int .i64 c0, .int .i64 c1, .int .i64 y0, .int .i64 y1, .int .i64 a, .int .i64 o, .int .i64 g, .int .i64 n] : Array Value)[i]? := fun p i => p.h.2 i
  have hNE : Nonempty (Mix.Keeps (BoxAt w.heap.size (#[.bool false, .int .i64 c0, .int .i64 c1, .int .i64 y0, .int .i64 y1, .int .i64 a, .int .i64 o, .int .i64 g, .int .i64 n]))) := ⟨⟨_, hbox⟩⟩
  refine Mix.wp_region (BoxAt w.heap.size (#[.bool false, .int .i64 c0, .int .i64 c1, .int .i64 y0, .int .i64 y1, .int .i64 a, .int .i64 o, .int .i64 g, .int .i64 n])) (fun k => k == 8 || k == 9 || k == 10) (by kernel_rfl) (by kernel_rfl) (by kernel_rfl) hbox ?_
  repeat (refine Mix.walk_read rfl (fun K hK => ?_); go_simp; refine hK _ ?_; clear hK K)
  refine Mix.walk_eff rfl (fun K hK => ?_)
  go_simp
  refine (itoa_b y1 (by omega) (by omega) _ (by exact htW)).mono ?_
  rintro e w1 ⟨rfl, hb⟩
  replace hb := below_of_drew hb
  have hbox1 : BoxAt w.heap.size (#[.bool false, .int .i64 c0, .int .i64 c1, .int .i64 y0, .int .i64 y1, .int .i64 a, .int .i64 o, .int .i64 g, .int .i64 n]) w1 := hbox.later hb
  have hown1 := own_later hown hb
  have hB1 : Below w.heap.size w w1 := hB.trans (hb.mono hB.size)
  have hz1 : w.heap.size + 2 ≤ w1.heap.size := Nat.le_trans hz hb.size
  have htW1 := tab_later htab'.out hB1
  clear hb hbox hown hB hz htW hb2
  refine hK _ _ ⟨⟨_, hbox1⟩, rfl⟩ ?_
  clear hK K
  refine Mix.walk_eff rfl (fun K hK => ?_)
  go_simp
  refine hK _ _ ⟨⟨_, hbox1.alloc _⟩, rfl⟩ ?_
  clear hK K
  refine Mix.walk_eff rfl (fun K hK => ?_)
  refine append_one (by rfl) _ _ _ (by rfl) (w.heap.size + 1) 9 _ 16 Tryd.underlying34 info9 rfl _ 3 _ (by rfl) (hown1.alloc _) 2 [.string (str (wordL c1)), .string (str (Lib.itoa y1))] w1.heap.size (by rfl) rfl (heap_alloc_new _ _) (by simp [Value.oneCell']) (by omega) (by decide) (by decide) (by simp; omega) ?_
  intro gg cap w2 hown2 hgrow hge hat
  have hbox2 := (hbox1.alloc _).grown hgrow (by simp [Value.ownBlock]; omega)
  have hB2 : Below w.heap.size w w2 := (hB1.alloc (by omega) _).grown hgrow (by simp; omega) (by simp [Value.ownBlock]; omega)
  have hz2 : w.heap.size + 2 ≤ w2.heap.size := by have := hgrow.size; simp at this; omega
  have htW2 := tab_later htab'.out hB2
  refine hK _ _ ⟨⟨_, hbox2⟩, rfl⟩ ?_
  clear hK K hgrow htW1 hz1 hB1 hown1 hbox1
  repeat (refine Mix.walk_read rfl (fun K hK => ?_); go_simp; refine hK _ ?_; clear hK K)
  refine Mix.walk_nil ?_
  clear hS hNE
  have hown3 : w2.ownsRow (w.heap.size + 1) 9 1 (.slice (some ⟨gg, 0, none⟩) 5 cap) 5 (strs [headL false, wordL c0, Lib.itoa y0, wordL c1, Lib.itoa y1]) := by simpa [strs] using hown2
  clear hown2
  obtain ⟨hbox, hB, hz, hown, htW⟩ := And.intro hbox2 (And.intro hB2 (And.intro hz2 (And.intro hown3 htW2)))
  clear hbox2 hB2 hz2 hown3 htW2
  obtain ⟨W, rfl⟩ : ∃ W, W = w2 := ⟨_, rfl⟩
  obtain ⟨g1, rfl⟩ : ∃ g1, g1 = gg := ⟨_, rfl⟩
  go_wp2_with fail
  rw [rounds_succ]
  have hb2 := hbox.2
  go_wp2_with fail
  clear hb2
  generalize hR : W.heap.size = r
  generalize hW : World.alloc W (.cells #[.int .i64 a, .int .i64 o, .int .i64 g, .int .i64 n] 3) = W2
  have hrow : BoxAt r (#[.int .i64 a, .int .i64 o, .int .i64 g, .int .i64 n]) W2 := by rw [← hW, ← hR]; exact BoxAt.new _ _ _
  have hown2 : W2.ownsRow (w.heap.size + 1) 9 1 (.slice (some ⟨g1, 0, none⟩) 5 cap) 5 (strs [headL false, wordL c0, Lib.itoa y0, wordL c1, Lib.itoa y1]) := by rw [← hW]; exact hown.alloc _
  have hz2 : w.heap.size + 2 ≤ W2.heap.size := by rw [← hW]; simp; omega
  have hB2 : Below w.heap.size w W2 := by rw [← hW]; exact hB.alloc hB.size _
  have htW2 := tab_later htab'.out hB2
  have hne : r ≠ g1 := by have := own_lt hown; omega
  clear hW hR hown hB hz hbox htW
  obtain ⟨hB, hz, hown, htW⟩ := And.intro hB2 (And.intro hz2 (And.intro hown2 htW2))
  clear hB2 hz2 hown2 htW2
  refine wp_loop_rounds 5 ?_
  -- number a
  rw [rounds_succ]
  have hr2 := hrow.2
  go_wp2_with fail
  refine (number_any a ka (by omega) _ (by exact htW)).mono ?_
  rintro e w1 ⟨rfl, hb⟩
  have hrow1 := hrow.later hb
  have hown1 := own_later hown hb
  have hB1 : Below w.heap.size w w1 := hB.trans (hb.mono hB.size)
  have hz1 : r < w1.heap.size := hrow1.1
  have hz0 : w.heap.size + 2 ≤ w1.heap.size := Nat.le_trans hz hb.size
  clear hb hrow hown hB hz htW hr2
  go_wp2_with (at_builtin; refine append_list (by rfl) _ _ _ (by rfl) (w.heap.size + 1) 9 _ 16 Tryd.underlying34 info9 rfl _ 5 _ (by rfl) (hown1.alloc _) 1 [.string (str (numL a))] w1.heap.size (by rfl) rfl (heap_alloc_new _ _) (by simp [Value.oneCell']) (by omega) (by decide) (by decide) (by simp; omega) ?_; intro gg cap w2 hown2 hgrow hge hat)
  have hrow2 := (hrow1.alloc _).grown hgrow (by simp [Value.ownBlock]; omega)
  have hB2 : Below w.heap.size w w2 := (hB1.alloc (by omega) _).grown hgrow (by simp; omega) (by simp [Value.ownBlock]; omega)
  have hz2 : w.heap.size + 2 ≤ w2.heap.size := by have := hgrow.size; simp at this; omega
  have htW2 := tab_later htab'.out hB2
  replace hne : r ≠ gg := by rcases hat with hat | hat <;> simp [Value.ownBlock] at hat <;> omega
  clear hat hgrow hz1 hz0 hB1 hown1 hrow1
  have hown3 : w2.ownsRow (w.heap.size + 1) 9 1 (.slice (some ⟨gg, 0, none⟩) 6 cap) 6 (strs [headL false, wordL c0, Lib.itoa y0, wordL c1, Lib.itoa y1, numL a]) := by simpa [strs] using hown2
  clear hown2
  obtain ⟨hrow, hB, hz, hown, htW⟩ := And.intro hrow2 (And.intro hB2 (And.intro hz2 (And.intro hown3 htW2)))
  clear hrow2 hB2 hz2 hown3 htW2
  obtain ⟨W, rfl⟩ : ∃ W, W = w2 := ⟨_, rfl⟩
  obtain ⟨g2, rfl⟩ : ∃ g2, g2 = gg := ⟨_, rfl⟩
  -- number o
  rw [rounds_succ]
  have hr2 := hrow.2
  go_wp2_with fail
  refine (number_any o ko (by omega) _ (by exact htW)).mono ?_
  rintro e w1 ⟨rfl, hb⟩
  have hrow1 := hrow.later hb
  have hown1 := own_later hown hb
  have hB1 : Below w.heap.size w w1 := hB.trans (hb.mono hB.size)
  have hz1 : r < w1.heap.size := hrow1.1
  have hz0 : w.heap.size + 2 ≤ w1.heap.size := Nat.le_trans hz hb.size
  clear hb hrow hown hB hz htW hr2
  go_wp2_with (at_builtin; refine append_list (by rfl) _ _ _ (by rfl) (w.heap.size + 1) 9 _ 16 Tryd.underlying34 info9 rfl _ 6 _ (by rfl) (hown1.alloc _) 1 [.string (str (numL o))] w1.heap.size (by rfl) rfl (heap_alloc_new _ _) (by simp [Value.oneCell']) (by omega) (by decide) (by decide) (by simp; omega) ?_; intro gg cap w2 hown2 hgrow hge hat)
  have hrow2 := (hrow1.alloc _).grown hgrow (by simp [Value.ownBlock]; omega)
  have hB2 : Below w.heap.size w w2 := (hB1.alloc (by omega) _).grown hgrow (by simp; omega) (by simp [Value.ownBlock]; omega)
  have hz2 : w.heap.size + 2 ≤ w2.heap.size := by have := hgrow.size; simp at this; omega
  have htW2 := tab_later htab'.out hB2
  replace hne : r ≠ gg := by rcases hat with hat | hat <;> simp [Value.ownBlock] at hat <;> omega
  clear hat hgrow hz1 hz0 hB1 hown1 hrow1
  have hown3 : w2.ownsRow (w.heap.size + 1) 9 1 (.slice (some ⟨gg, 0, none⟩) 7 cap) 7 (strs [headL false, wordL c0, Lib.itoa y0, wordL c1, Lib.itoa y1, numL a, numL o]) := by simpa [strs] using hown2
  clear hown2
  obtain ⟨hrow, hB, hz, hown, htW⟩ := And.intro hrow2 (And.intro hB2 (And.intro hz2 (And.intro hown3 htW2)))
  clear hrow2 hB2 hz2 hown3 htW2
  obtain ⟨W, rfl⟩ : ∃ W, W = w2 := ⟨_, rfl⟩
  obtain ⟨g3, rfl⟩ : ∃ g3, g3 = gg := ⟨_, rfl⟩
  -- number g
  rw [rounds_succ]
  have hr2 := hrow.2
  go_wp2_with fail
  refine (number_any g kg (by omega) _ (by exact htW)).mono ?_
  rintro e w1 ⟨rfl, hb⟩
  have hrow1 := hrow.later hb
  have hown1 := own_later hown hb
  have hB1 : Below w.heap.size w w1 := hB.trans (hb.mono hB.size)
  have hz1 : r < w1.heap.size := hrow1.1
  have hz0 : w.heap.size + 2 ≤ w1.heap.size := Nat.le_trans hz hb.size
  clear hb hrow hown hB hz htW hr2
  go_wp2_with (at_builtin; refine append_list (by rfl) _ _ _ (by rfl) (w.heap.size + 1) 9 _ 16 Tryd.underlying34 info9 rfl _ 7 _ (by rfl) (hown1.alloc _) 1 [.string (str (numL g))] w1.heap.size (by rfl) rfl (heap_alloc_new _ _) (by simp [Value.oneCell']) (by omega) (by decide) (by decide) (by simp; omega) ?_; intro gg cap w2 hown2 hgrow hge hat)
  have hrow2 := (hrow1.alloc _).grown hgrow (by simp [Value.ownBlock]; omega)
  have hB2 : Below w.heap.size w w2 := (hB1.alloc (by omega) _).grown hgrow (by simp; omega) (by simp [Value.ownBlock]; omega)
  have hz2 : w.heap.size + 2 ≤ w2.heap.size := by have := hgrow.size; simp at this; omega
  have htW2 := tab_later htab'.out hB2
  replace hne : r ≠ gg := by rcases hat with hat | hat <;> simp [Value.ownBlock] at hat <;> omega
  clear hat hgrow hz1 hz0 hB1 hown1 hrow1
  have hown3 : w2.ownsRow (w.heap.size + 1) 9 1 (.slice (some ⟨gg, 0, none⟩) 8 cap) 8 (strs [headL false, wordL c0, Lib.itoa y0, wordL c1, Lib.itoa y1, numL a, numL o, numL g]) := by simpa [strs] using hown2
  clear hown2
  obtain ⟨hrow, hB, hz, hown, htW⟩ := And.intro hrow2 (And.intro hB2 (And.intro hz2 (And.intro hown3 htW2)))
  clear hrow2 hB2 hz2 hown3 htW2
  obtain ⟨W, rfl⟩ : ∃ W, W = w2 := ⟨_, rfl⟩
  obtain ⟨g4, rfl⟩ : ∃ g4, g4 = gg := ⟨_, rfl⟩
  -- number n
  rw [rounds_succ]
  have hr2 := hrow.2
  go_wp2_with fail
  refine (number_any n kn (by omega) _ (by exact htW)).mono ?_
  rintro e w1 ⟨rfl, hb⟩
  have hrow1 := hrow.later hb
  have hown1 := own_later hown hb
  have hB1 : Below w.heap.size w w1 := hB.trans (hb.mono hB.size)
  have hz1 : r < w1.heap.size := hrow1.1
  have hz0 : w.heap.size + 2 ≤ w1.heap.size := Nat.le_trans hz hb.size
  clear hb hrow hown hB hz htW hr2
  go_wp2_with (at_builtin; refine append_list (by rfl) _ _ _ (by rfl) (w.heap.size + 1) 9 _ 16 Tryd.underlying34 info9 rfl _ 8 _ (by rfl) (hown1.alloc _) 1 [.string (str (numL n))] w1.heap.size (by rfl) rfl (heap_alloc_new _ _) (by simp [Value.oneCell']) (by omega) (by decide) (by decide) (by simp; omega) ?_; intro gg cap w2 hown2 hgrow hge hat)
  have hrow2 := (hrow1.alloc _).grown hgrow (by simp [Value.ownBlock]; omega)
  have hB2 : Below w.heap.size w w2 := (hB1.alloc (by omega) _).grown hgrow (by simp; omega) (by simp [Value.ownBlock]; omega)
  have hz2 : w.heap.size + 2 ≤ w2.heap.size := by have := hgrow.size; simp at this; omega
  have htW2 := tab_later htab'.out hB2
  replace hne : r ≠ gg := by rcases hat with hat | hat <;> simp [Value.ownBlock] at hat <;> omega
  clear hat hgrow hz1 hz0 hB1 hown1 hrow1
  have hown3 : w2.ownsRow (w.heap.size + 1) 9 1 (.slice (some ⟨gg, 0, none⟩) 9 cap) 9 (strs [headL false, wordL c0, Lib.itoa y0, wordL c1, Lib.itoa y1, numL a, numL o, numL g, numL n]) := by simpa [strs] using hown2
  clear hown2
  obtain ⟨hrow, hB, hz, hown, htW⟩ := And.intro hrow2 (And.intro hB2 (And.intro hz2 (And.intro hown3 htW2)))
  clear hrow2 hB2 hz2 hown3 htW2
  obtain ⟨W, rfl⟩ : ∃ W, W = w2 := ⟨_, rfl⟩
  obtain ⟨g5, rfl⟩ : ∃ g5, g5 = gg := ⟨_, rfl⟩
  rw [rounds_succ]
  go_wp2_with fail
  have hjt := join_text false c0 c1 y0 y1 a o g n h5 h6 ka ko kg kn
  have hlen := text_len false c0 c1 y0 y1 a o g n m0 m1 ma mo mg mn
  have hxs : ([headL false, wordL c0, Lib.itoa y0, wordL c1, Lib.itoa y1, numL a, numL o, numL g, numL n].map str).map (·.data.toList) = [headL false, wordL c0, Lib.itoa y0, wordL c1, Lib.itoa y1, numL a, numL o, numL g, numL n] := by simp [str]
  refine (Tryd.strings_Join g5 0 _ ([headL false, wordL c0, Lib.itoa y0, wordL c1, Lib.itoa y1, numL a, numL o, numL g, numL n].map str) ⟨#[32]⟩ _ (own_strs hown) (own_lt hown) (by simp) (by simpa using own_cap hown) (by rw [hxs]; rw [show (⟨#[32]⟩ : ByteArray).data.toList = [32] from rfl, hjt]; omega)).mono ?_
  rintro e w9 ⟨rfl, hb⟩
  rw [hxs, show (⟨#[32]⟩ : ByteArray).data.toList = [32] from rfl, hjt]
  clear hjt hlen hxs hrow hown htW
  go_wp2_with fail
  go_ret2
  have hfit : fitsB c0 c1 y0 y1 a o g n = true := by simp [fitsB]; omega
  refine ⟨?_, hB.trans (hb.mono hB.size)⟩
  rw [hfit]; rfl

set_option maxHeartbeats 4000000 in
theorem bad_c0_false (c0 c1 y0 y1 a o g n : Int) (w : World) (m0 : y0 ≤ 9223372036854775807) (m1 : y1 ≤ 9223372036854775807)
    (ma : a ≤ 9223372036854775807) (mo : o ≤ 9223372036854775807) (mg : g ≤ 9223372036854775807) (mn : n ≤ 9223372036854775807)
    (htab : Lib.TabIs Tryd.prog w "internal/strconv.uint64pow10" .u64 Lib.pow10Tab)  (hbad : c0 < 0 ∨ 3 < c0 ∨ y0 < 0) :
    Calls Tryd.prog 5 #[.agg #[.bool false, .int .i64 c0, .int .i64 c1, .int .i64 y0, .int .i64 y1, .int .i64 a, .int .i64 o, .int .i64 g, .int .i64 n]] w (TextPost false c0 c1 y0 y1 a o g n w) := by
  have ix0 : ∀ w, (Instr.index 22 (.agg #[.int .i64 c0, .int .i64 c1]) (.int .i64 0)).run Tryd.prog w = .ok (.int .i64 c0) w := fun _ => by kernel_rfl
  have ix1 : ∀ w, (Instr.index 22 (.agg #[.int .i64 c0, .int .i64 c1]) (.int .i64 1)).run Tryd.prog w = .ok (.int .i64 c1) w := fun _ => by kernel_rfl
  have htab' := Lib.hid htab; clear htab
  go_enter Tryd.func5, Tryd.ntmps5
  go_wp2_with fail
  generalize hW : World.alloc (World.alloc w (.cells #[.bool false, .int .i64 c0, .int .i64 c1, .int .i64 y0, .int .i64 y1, .int .i64 a, .int .i64 o, .int .i64 g, .int .i64 n] 24)) (.cells #[.string ⟨#[104, 105, 103, 104]⟩] 9) = W
  have hbox : BoxAt w.heap.size (#[.bool false, .int .i64 c0, .int .i64 c1, .int .i64 y0, .int .i64 y1, .int .i64 a, .int .i64 o, .int .i64 g, .int .i64 n]) W := by rw [← hW]; exact (BoxAt.new _ _ _).alloc _
  have hown : W.ownsRow (w.heap.size + 1) 9 1 (.slice (some ⟨w.heap.size + 1, 0, none⟩) 1 1) 1 (strs [headL false]) := by
    rw [← hW]; have := World.ownsRow_lit (base := w.heap.size + 1) (e := 9) (size := 1) (w.alloc (.cells #[.bool false, .int .i64 c0, .int .i64 c1, .int .i64 y0, .int .i64 y1, .int .i64 a, .int .i64 o, .int .i64 g, .int .i64 n] 24)) #[.string ⟨#[104, 105, 103, 104]⟩] 1 (by simp) (by decide) (by simp)
    rw [World.size_alloc] at this; exact this
  have hz : w.heap.size + 2 ≤ W.heap.size := by rw [← hW]; simp
  have hB : Below w.heap.size w W := by rw [← hW]; exact (by repeat (first | exact Below.refl _ _ | refine Below.drew ?_ | refine below_drewN ?_ _ | refine Below.alloc ?_ (by simp <;> omega) _ | refine Below.setCell ?_ (by simp <;> omega) _ | assumption | (refine Below.trans ?_ (Below.mono (by assumption) (by simp <;> omega)))))
  have htW := tab_later htab'.out hB
  clear hW
  refine wp_loop_rounds 3 ?_
  rw [rounds_succ]
  have hb2 := hbox.2
  have hfit : fitsB c0 c1 y0 y1 a o g n = false := by simp [fitsB]; omega
  have hfit' := Lib.hid hfit; clear hfit
  go_wp2_with fail
  all_goals
    go_ret2
    exact ⟨by rw [hfit'.out]; rfl, hB⟩

set_option maxHeartbeats 4000000 in
theorem bad_c1_false (c0 c1 y0 y1 a o g n : Int) (w : World) (m0 : y0 ≤ 9223372036854775807) (m1 : y1 ≤ 9223372036854775807)
    (ma : a ≤ 9223372036854775807) (mo : o ≤ 9223372036854775807) (mg : g ≤ 9223372036854775807) (mn : n ≤ 9223372036854775807)
    (htab : Lib.TabIs Tryd.prog w "internal/strconv.uint64pow10" .u64 Lib.pow10Tab) (h1 : 0 ≤ c0) (h2 : c0 ≤ 3) (h5 : 0 ≤ y0) (hbad : c1 < 0 ∨ 3 < c1 ∨ y1 < 0) :
    Calls Tryd.prog 5 #[.agg #[.bool false, .int .i64 c0, .int .i64 c1, .int .i64 y0, .int .i64 y1, .int .i64 a, .int .i64 o, .int .i64 g, .int .i64 n]] w (TextPost false c0 c1 y0 y1 a o g n w) := by
  have hix0 := word_index c0 h1 h2
  have ix0 : ∀ w, (Instr.index 22 (.agg #[.int .i64 c0, .int .i64 c1]) (.int .i64 0)).run Tryd.prog w = .ok (.int .i64 c0) w := fun _ => by kernel_rfl
  have ix1 : ∀ w, (Instr.index 22 (.agg #[.int .i64 c0, .int .i64 c1]) (.int .i64 1)).run Tryd.prog w = .ok (.int .i64 c1) w := fun _ => by kernel_rfl
  have htab' := Lib.hid htab; clear htab
  go_enter Tryd.func5, Tryd.ntmps5
  go_wp2_with fail
  generalize hW : World.alloc (World.alloc w (.cells #[.bool false, .int .i64 c0, .int .i64 c1, .int .i64 y0, .int .i64 y1, .int .i64 a, .int .i64 o, .int .i64 g, .int .i64 n] 24)) (.cells #[.string ⟨#[104, 105, 103, 104]⟩] 9) = W
  have hbox : BoxAt w.heap.size (#[.bool false, .int .i64 c0, .int .i64 c1, .int .i64 y0, .int .i64 y1, .int .i64 a, .int .i64 o, .int .i64 g, .int .i64 n]) W := by rw [← hW]; exact (BoxAt.new _ _ _).alloc _
  have hown : W.ownsRow (w.heap.size + 1) 9 1 (.slice (some ⟨w.heap.size + 1, 0, none⟩) 1 1) 1 (strs [headL false]) := by
    rw [← hW]; have := World.ownsRow_lit (base := w.heap.size + 1) (e := 9) (size := 1) (w.alloc (.cells #[.bool false, .int .i64 c0, .int .i64 c1, .int .i64 y0, .int .i64 y1, .int .i64 a, .int .i64 o, .int .i64 g, .int .i64 n] 24)) #[.string ⟨#[104, 105, 103, 104]⟩] 1 (by simp) (by decide) (by simp)
    rw [World.size_alloc] at this; exact this
  have hz : w.heap.size + 2 ≤ W.heap.size := by rw [← hW]; simp
  have hB : Below w.heap.size w W := by rw [← hW]; exact (by repeat (first | exact Below.refl _ _ | refine Below.drew ?_ | refine below_drewN ?_ _ | refine Below.alloc ?_ (by simp <;> omega) _ | refine Below.setCell ?_ (by simp <;> omega) _ | assumption | (refine Below.trans ?_ (Below.mono (by assumption) (by simp <;> omega)))))
  have htW := tab_later htab'.out hB
  clear hW
  refine wp_loop_rounds 3 ?_
  -- round 0
  rw [rounds_succ]
  have hb2 := hbox.2
  go_wp2_with fail
  have hS : ∀ (p : Mix.Keeps (BoxAt w.heap.size (#[.bool false, .int .i64 c0, .int .i64 c1, .int .i64 y0, .int .i64 y1, .int .i64 a, .int .i64 o, .int .i64 g, .int .i64 n]))) i, p.w.cell? ⟨w.heap.size, i, none⟩ = (#[.bool false, .int .i64 c0, .int .i64 c1, .int .i64 y0, .int .i64 y1, .int .i64 a, .int .i64 o, .int .i64 g, .int .i64 n] : Array Value)[i]? := fun p i => p.h.2 i
  have hNE : Nonempty (Mix.Keeps (BoxAt w.heap.size (#[.bool false, .int .i64 c0, .int .i64 c1, .int .i64 y0, .int .i64 y1, .int .i64 a, .int .i64 o, .int .i64 g, .int .i64 n]))) := ⟨⟨_, hbox⟩⟩
  refine Mix.wp_region (BoxAt w.heap.size (#[.bool false, .int .i64 c0, .int .i64 c1, .int .i64 y0, .int .i64 y1, .int .i64 a, .int .i64 o, .int .i64 g, .int .i64 n])) (fun k => k == 8 || k == 9 || k == 10) (by kernel_rfl) (by kernel_rfl) (by kernel_rfl) hbox ?_
  repeat (refine Mix.walk_read rfl (fun K hK => ?_); go_simp; refine hK _ ?_; clear hK K)
  refine Mix.walk_eff rfl (fun K hK => ?_)
  go_simp
  refine (itoa_b y0 (by omega) (by omega) _ (by exact htW)).mono ?_
  rintro e w1 ⟨rfl, hb⟩
  replace hb := below_of_drew hb
  have hbox1 : BoxAt w.heap.size (#[.bool false, .int .i64 c0, .int .i64 c1, .int .i64 y0, .int .i64 y1, .int .i64 a, .int .i64 o, .int .i64 g, .int .i64 n]) w1 := hbox.later hb
  have hown1 := own_later hown hb
  have hB1 : Below w.heap.size w w1 := hB.trans (hb.mono hB.size)
  have hz1 : w.heap.size + 2 ≤ w1.heap.size := Nat.le_trans hz hb.size
  have htW1 := tab_later htab'.out hB1
  clear hb hbox hown hB hz htW hb2
  refine hK _ _ ⟨⟨_, hbox1⟩, rfl⟩ ?_
  clear hK K
  refine Mix.walk_eff rfl (fun K hK => ?_)
  go_simp
  refine hK _ _ ⟨⟨_, hbox1.alloc _⟩, rfl⟩ ?_
  clear hK K
  refine Mix.walk_eff rfl (fun K hK => ?_)
  refine append_one (by rfl) _ _ _ (by rfl) (w.heap.size + 1) 9 _ 16 Tryd.underlying34 info9 rfl _ 1 _ (by rfl) (hown1.alloc _) 2 [.string (str (wordL c0)), .string (str (Lib.itoa y0))] w1.heap.size (by rfl) rfl (heap_alloc_new _ _) (by simp [Value.oneCell']) (by omega) (by decide) (by decide) (by simp; omega) ?_
  intro gg cap w2 hown2 hgrow hge hat
  have hbox2 := (hbox1.alloc _).grown hgrow (by simp [Value.ownBlock])
  have hB2 : Below w.heap.size w w2 := (hB1.alloc (by omega) _).grown hgrow (by simp; omega) (by simp [Value.ownBlock])
  have hz2 : w.heap.size + 2 ≤ w2.heap.size := by have := hgrow.size; simp at this; omega
  have htW2 := tab_later htab'.out hB2
  refine hK _ _ ⟨⟨_, hbox2⟩, rfl⟩ ?_
  clear hK K hgrow htW1 hz1 hB1 hown1 hbox1
  repeat (refine Mix.walk_read rfl (fun K hK => ?_); go_simp; refine hK _ ?_; clear hK K)
  refine Mix.walk_nil ?_
  clear hS hNE
  have hown3 : w2.ownsRow (w.heap.size + 1) 9 1 (.slice (some ⟨gg, 0, none⟩) 3 cap) 3 (strs [headL false, wordL c0, Lib.itoa y0]) := by simpa [strs] using hown2
  clear hown2
  obtain ⟨hbox, hB, hz, hown, htW⟩ := And.intro hbox2 (And.intro hB2 (And.intro hz2 (And.intro hown3 htW2)))
  clear hbox2 hB2 hz2 hown3 htW2
  obtain ⟨W, rfl⟩ : ∃ W, W = w2 := ⟨_, rfl⟩
  obtain ⟨g0, rfl⟩ : ∃ g0, g0 = gg := ⟨_, rfl⟩
  go_wp2_with fail
  rw [rounds_succ]
  have hb2 := hbox.2
  have hfit : fitsB c0 c1 y0 y1 a o g n = false := by simp [fitsB]; omega
  have hfit' := Lib.hid hfit; clear hfit
  go_wp2_with fail
  all_goals
    go_ret2
    exact ⟨by rw [hfit'.out]; rfl, hB⟩

set_option maxHeartbeats 4000000 in
theorem bad_a_false (c0 c1 y0 y1 a o g n : Int) (w : World) (m0 : y0 ≤ 9223372036854775807) (m1 : y1 ≤ 9223372036854775807)
    (ma : a ≤ 9223372036854775807) (mo : o ≤ 9223372036854775807) (mg : g ≤ 9223372036854775807) (mn : n ≤ 9223372036854775807)
    (htab : Lib.TabIs Tryd.prog w "internal/strconv.uint64pow10" .u64 Lib.pow10Tab) (h1 : 0 ≤ c0) (h2 : c0 ≤ 3) (h5 : 0 ≤ y0) (h3 : 0 ≤ c1) (h4 : c1 ≤ 3) (h6 : 0 ≤ y1) (hbad : a < -1) :
    Calls Tryd.prog 5 #[.agg #[.bool false, .int .i64 c0, .int .i64 c1, .int .i64 y0, .int .i64 y1, .int .i64 a, .int .i64 o, .int .i64 g, .int .i64 n]] w (TextPost false c0 c1 y0 y1 a o g n w) := by
  have hix0 := word_index c0 h1 h2
  have hix1 := word_index c1 h3 h4
  have ix0 : ∀ w, (Instr.index 22 (.agg #[.int .i64 c0, .int .i64 c1]) (.int .i64 0)).run Tryd.prog w = .ok (.int .i64 c0) w := fun _ => by kernel_rfl
  have ix1 : ∀ w, (Instr.index 22 (.agg #[.int .i64 c0, .int .i64 c1]) (.int .i64 1)).run Tryd.prog w = .ok (.int .i64 c1) w := fun _ => by kernel_rfl
  have htab' := Lib.hid htab; clear htab
  go_enter Tryd.func5, Tryd.ntmps5
  go_wp2_with fail
  generalize hW : World.alloc (World.alloc w (.cells #[.bool false, .int .i64 c0, .int .i64 c1, .int .i64 y0, .int .i64 y1, .int .i64 a, .int .i64 o, .int .i64 g, .int .i64 n] 24)) (.cells #[.string ⟨#[104, 105, 103, 104]⟩] 9) = W
  have hbox : BoxAt w.heap.size (#[.bool false, .int .i64 c0, .int .i64 c1, .int .i64 y0, .int .i64 y1, .int .i64 a, .int .i64 o, .int .i64 g, .int .i64 n]) W := by rw [← hW]; exact (BoxAt.new _ _ _).alloc _
  have hown : W.ownsRow (w.heap.size + 1) 9 1 (.slice (some ⟨w.heap.size + 1, 0, none⟩) 1 1) 1 (strs [headL false]) := by
    rw [← hW]; have := World.ownsRow_lit (base := w.heap.size + 1) (e := 9) (size := 1) (w.alloc (.cells #[.bool false, .int .i64 c0, .int .i64 c1, .int .i64 y0, .int .i64 y1, .int .i64 a, .int .i64 o, .int .i64 g, .int .i64 n] 24)) #[.string ⟨#[104, 105, 103, 104]⟩] 1 (by simp) (by decide) (by simp)
    rw [World.size_alloc] at this; exact this
  have hz : w.heap.size + 2 ≤ W.heap.size := by rw [← hW]; simp
  have hB : Below w.heap.size w W := by rw [← hW]; exact (by repeat (first | exact Below.refl _ _ | refine Below.drew ?_ | refine below_drewN ?_ _ | refine Below.alloc ?_ (by simp <;> omega) _ | refine Below.setCell ?_ (by simp <;> omega) _ | assumption | (refine Below.trans ?_ (Below.mono (by assumption) (by simp <;> omega)))))
  have htW := tab_later htab'.out hB
  clear hW
  refine wp_loop_rounds 3 ?_
  -- round 0
  rw [rounds_succ]
  have hb2 := hbox.2
  go_wp2_with fail
  have hS : ∀ (p : Mix.Keeps (BoxAt w.heap.size (#[.bool false, .int .i64 c0, .int .i64 c1, .int .i64 y0, .int .i64 y1, .int .i64 a, .int .i64 o, .int .i64 g, .int .i64 n]))) i, p.w.cell? ⟨w.heap.size, i, none⟩ = (#[.bool false, .int .i64 c0, .int .i64 c1, .int .i64 y0, .int .i64 y1, .int .i64 a, .int .i64 o, .int .i64 g, .int .i64 n] : Array Value)[i]? := fun p i => p.h.2 i
  have hNE : Nonempty (Mix.Keeps (BoxAt w.heap.size (#[.bool false, .int .i64 c0, .int .i64 c1, .int .i64 y0, .int .i64 y1, .int .i64 a, .int .i64 o, .int .i64 g, .int .i64 n]))) := ⟨⟨_, hbox⟩⟩
  refine Mix.wp_region (BoxAt w.heap.size (#[.bool false, .int .i64 c0, .int .i64 c1, .int .i64 y0, .int .i64 y1, .int .i64 a, .int .i64 o, .int .i64 g, .int .i64 n])) (fun k => k == 8 || k == 9 || k == 10) (by kernel_rfl) (by kernel_rfl) (by kernel_rfl) hbox ?_
  repeat (refine Mix.walk_read rfl (fun K hK => ?_); go_simp; refine hK _ ?_; clear hK K)
  refine Mix.walk_eff rfl (fun K hK => ?_)
  go_simp
  refine (itoa_b y0 (by omega) (by omega) _ (by exact htW)).mono ?_
  rintro e w1 ⟨rfl, hb⟩
  replace hb := below_of_drew hb
  have hbox1 : BoxAt w.heap.size (#[.bool false, .int .i64 c0, .int .i64 c1, .int .i64 y0, .int .i64 y1, .int .i64 a, .int .i64 o, .int .i64 g, .int .i64 n]) w1 := hbox.later hb
  have hown1 := own_later hown hb
  have hB1 : Below w.heap.size w w1 := hB.trans (hb.mono hB.size)
  have hz1 : w.heap.size + 2 ≤ w1.heap.size := Nat.le_trans hz hb.size
  have htW1 := tab_later htab'.out hB1
  clear hb hbox hown hB hz htW hb2
  refine hK _ _ ⟨⟨_, hbox1⟩, rfl⟩ ?_
  clear hK K
  refine Mix.walk_eff rfl (fun K hK => ?_)
  go_simp
  refine hK _ _ ⟨⟨_, hbox1.alloc _⟩, rfl⟩ ?_
  clear hK K
  refine Mix.walk_eff rfl (fun K hK => ?_)
  refine append_one (by rfl) _ _ _ (by rfl) (w.heap.size + 1) 9 _ 16 Tryd.underlying34 info9 rfl _ 1 _ (by rfl) (hown1.alloc _) 2 [.string (str (wordL c0)), .string (str (Lib.itoa y0))] w1.heap.size (by rfl) rfl (heap_alloc_new _ _) (by simp [Value.oneCell']) (by omega) (by decide) (by decide) (by simp; omega) ?_
  intro gg cap w2 hown2 hgrow hge hat
  have hbox2 := (hbox1.alloc _).grown hgrow (by simp [Value.ownBlock])
  have hB2 : Below w.heap.size w w2 := (hB1.alloc (by omega) _).grown hgrow (by simp; omega) (by simp [Value.ownBlock])
  have hz2 : w.heap.size + 2 ≤ w2.heap.size := by have := hgrow.size; simp at this; omega
  have htW2 := tab_later htab'.out hB2
  refine hK _ _ ⟨⟨_, hbox2⟩, rfl⟩ ?_
  clear hK K hgrow htW1 hz1 hB1 hown1 hbox1
  repeat (refine Mix.walk_read rfl (fun K hK => ?_); go_simp; refine hK _ ?_; clear hK K)
  refine Mix.walk_nil ?_
  clear hS hNE
  have hown3 : w2.ownsRow (w.heap.size + 1) 9 1 (.slice (some ⟨gg, 0, none⟩) 3 cap) 3 (strs [headL false, wordL c0, Lib.itoa y0]) := by simpa [strs] using hown2
  clear hown2
  obtain ⟨hbox, hB, hz, hown, htW⟩ := And.intro hbox2 (And.intro hB2 (And.intro hz2 (And.intro hown3 htW2)))
  clear hbox2 hB2 hz2 hown3 htW2
  obtain ⟨W, rfl⟩ : ∃ W, W = w2 := ⟨_, rfl⟩
  obtain ⟨g0, rfl⟩ : ∃ g0, g0 = gg := ⟨_, rfl⟩
  go_wp2_with fail
  -- round 1
  rw [rounds_succ]
  have hb2 := hbox.2
  go_wp2_with fail
  have hS : ∀ (p : Mix.Keeps (BoxAt w.heap.size (#[.bool false, .int .i64 c0, .int .i64 c1, .int .i64 y0, .int .i64 y1, .int .i64 a, .int .i64 o, .int .i64 g, .int .i64 n]))) i, p.w.cell? ⟨w.heap.size, i, none⟩ = (#[.bool false, .int .i64 c0, .int .i64 c1, .int .i64 y0, .int .i64 y1, .int .i64 a, .int .i64 o, .int .i64 g, .int .i64 n] : Array Value)[i]? := fun p i => p.h.2 i
  have hNE : Nonempty (Mix.Keeps (BoxAt w.heap.size (#[.bool false, .int .i64 c0, .int .i64 c1, .int .i64 y0, .int .i64 y1, .int .i64 a, .int .i64 o, .int .i64 g, .int .i64 n]))) := ⟨⟨_, hbox⟩⟩
  refine Mix.wp_region (BoxAt w.heap.size (#[.bool false, .int .i64 c0, .int .i64 c1, .int .i64 y0, .int .i64 y1, .int .i64 a, .int .i64 o, .int .i64 g, .int .i64 n])) (fun k => k == 8 || k == 9 || k == 10) (by kernel_rfl) (by kernel_rfl) (by kernel_rfl) hbox ?_
  repeat (refine Mix.walk_read rfl (fun K hK => ?_); go_simp; refine hK _ ?_; clear hK K)
  refine Mix.walk_eff rfl (fun K hK => ?_)
  go_simp
  refine (itoa_b y1 (by omega) (by omega) _ (by exact htW)).mono ?_
  rintro e w1 ⟨rfl, hb⟩
  replace hb := below_of_drew hb
  have hbox1 : BoxAt w.heap.size (#[.bool false, .int .i64 c0, .int .i64 c1, .int .i64 y0, .int .i64 y1, .int .i64 a, .int .i64 o, .int .i64 g, .int .i64 n]) w1 := hbox.later hb
  have hown1 := own_later hown hb
  have hB1 : Below w.heap.size w w1 := hB.trans (hb.mono hB.size)
  have hz1 : w.heap.size + 2 ≤ w1.heap.size := Nat.le_trans hz hb.size
  have htW1 := tab_later htab'.out hB1
  clear hb hbox hown hB hz htW hb2
  refine hK _ _ ⟨⟨_, hbox1⟩, rfl⟩ ?_
  clear hK K
  refine Mix.walk_eff rfl (fun K hK => ?_)
  go_simp
  refine hK _ _ ⟨⟨_, hbox1.alloc _⟩, rfl⟩ ?_
  clear hK K
  refine Mix.walk_eff rfl (fun K hK => ?_)
  refine append_one (by rfl) _ _ _ (by rfl) (w.heap.size + 1) 9 _ 16 Tryd.underlying34 info9 rfl _ 3 _ (by rfl) (hown1.alloc _) 2 [.string (str (wordL c1)), .string (str (Lib.itoa y1))] w1.heap.size (by rfl) rfl (heap_alloc_new _ _) (by simp [Value.oneCell']) (by omega) (by decide) (by decide) (by simp; omega) ?_
  intro gg cap w2 hown2 hgrow hge hat
  have hbox2 := (hbox1.alloc _).grown hgrow (by simp [Value.ownBlock]; omega)
  have hB2 : Below w.heap.size w w2 := (hB1.alloc (by omega) _).grown hgrow (by simp; omega) (by simp [Value.ownBlock]; omega)
  have hz2 : w.heap.size + 2 ≤ w2.heap.size := by have := hgrow.size; simp at this; omega
  have htW2 := tab_later htab'.out hB2
  refine hK _ _ ⟨⟨_, hbox2⟩, rfl⟩ ?_
  clear hK K hgrow htW1 hz1 hB1 hown1 hbox1
  repeat (refine Mix.walk_read rfl (fun K hK => ?_); go_simp; refine hK _ ?_; clear hK K)
  refine Mix.walk_nil ?_
  clear hS hNE
  have hown3 : w2.ownsRow (w.heap.size + 1) 9 1 (.slice (some ⟨gg, 0, none⟩) 5 cap) 5 (strs [headL false, wordL c0, Lib.itoa y0, wordL c1, Lib.itoa y1]) := by simpa [strs] using hown2
  clear hown2
  obtain ⟨hbox, hB, hz, hown, htW⟩ := And.intro hbox2 (And.intro hB2 (And.intro hz2 (And.intro hown3 htW2)))
  clear hbox2 hB2 hz2 hown3 htW2
  obtain ⟨W, rfl⟩ : ∃ W, W = w2 := ⟨_, rfl⟩
  obtain ⟨g1, rfl⟩ : ∃ g1, g1 = gg := ⟨_, rfl⟩
  go_wp2_with fail
  rw [rounds_succ]
  have hb2 := hbox.2
  go_wp2_with fail
  clear hb2
  generalize hR : W.heap.size = r
  generalize hW : World.alloc W (.cells #[.int .i64 a, .int .i64 o, .int .i64 g, .int .i64 n] 3) = W2
  have hrow : BoxAt r (#[.int .i64 a, .int .i64 o, .int .i64 g, .int .i64 n]) W2 := by rw [← hW, ← hR]; exact BoxAt.new _ _ _
  have hown2 : W2.ownsRow (w.heap.size + 1) 9 1 (.slice (some ⟨g1, 0, none⟩) 5 cap) 5 (strs [headL false, wordL c0, Lib.itoa y0, wordL c1, Lib.itoa y1]) := by rw [← hW]; exact hown.alloc _
  have hz2 : w.heap.size + 2 ≤ W2.heap.size := by rw [← hW]; simp; omega
  have hB2 : Below w.heap.size w W2 := by rw [← hW]; exact hB.alloc hB.size _
  have htW2 := tab_later htab'.out hB2
  have hne : r ≠ g1 := by have := own_lt hown; omega
  clear hW hR hown hB hz hbox htW
  obtain ⟨hB, hz, hown, htW⟩ := And.intro hB2 (And.intro hz2 (And.intro hown2 htW2))
  clear hB2 hz2 hown2 htW2
  refine wp_loop_rounds 5 ?_
  rw [rounds_succ]
  have hr2 := hrow.2
  have hfit : fitsB c0 c1 y0 y1 a o g n = false := by simp [fitsB]; omega
  have hfit' := Lib.hid hfit; clear hfit
  go_wp2_with fail
  all_goals
    go_ret2
    exact ⟨by rw [hfit'.out]; rfl, hB⟩

set_option maxHeartbeats 4000000 in
theorem bad_o_false (c0 c1 y0 y1 a o g n : Int) (w : World) (m0 : y0 ≤ 9223372036854775807) (m1 : y1 ≤ 9223372036854775807)
    (ma : a ≤ 9223372036854775807) (mo : o ≤ 9223372036854775807) (mg : g ≤ 9223372036854775807) (mn : n ≤ 9223372036854775807)
    (htab : Lib.TabIs Tryd.prog w "internal/strconv.uint64pow10" .u64 Lib.pow10Tab) (h1 : 0 ≤ c0) (h2 : c0 ≤ 3) (h5 : 0 ≤ y0) (h3 : 0 ≤ c1) (h4 : c1 ≤ 3) (h6 : 0 ≤ y1) (ka : -1 ≤ a) (hbad : o < -1) :
    Calls Tryd.prog 5 #[.agg #[.bool false, .int .i64 c0, .int .i64 c1, .int .i64 y0, .int .i64 y1, .int .i64 a, .int .i64 o, .int .i64 g, .int .i64 n]] w (TextPost false c0 c1 y0 y1 a o g n w) := by
  have hix0 := word_index c0 h1 h2
  have hix1 := word_index c1 h3 h4
  have ix0 : ∀ w, (Instr.index 22 (.agg #[.int .i64 c0, .int .i64 c1]) (.int .i64 0)).run Tryd.prog w = .ok (.int .i64 c0) w := fun _ => by kernel_rfl
  have ix1 : ∀ w, (Instr.index 22 (.agg #[.int .i64 c0, .int .i64 c1]) (.int .i64 1)).run Tryd.prog w = .ok (.int .i64 c1) w := fun _ => by kernel_rfl
  have htab' := Lib.hid htab; clear htab
  go_enter Tryd.func5, Tryd.ntmps5
  go_wp2_with fail
  generalize hW : World.alloc (World.alloc w (.cells #[.bool false, .int .i64 c0, .int .i64 c1, .int .i64 y0, .int .i64 y1, .int .i64 a, .int .i64 o, .int .i64 g, .int .i64 n] 24)) (.cells #[.string ⟨#[104, 105, 103, 104]⟩] 9) = W
  have hbox : BoxAt w.heap.size (#[.bool false, .int .i64 c0, .int .i64 c1, .int .i64 y0, .int .i64 y1, .int .i64 a, .int .i64 o, .int .i64 g, .int .i64 n]) W := by rw [← hW]; exact (BoxAt.new _ _ _).alloc _
  have hown : W.ownsRow (w.heap.size + 1) 9 1 (.slice (some ⟨w.heap.size + 1, 0, none⟩) 1 1) 1 (strs [headL false]) := by
    rw [← hW]; have := World.ownsRow_lit (base := w.heap.size + 1) (e := 9) (size := 1) (w.alloc (.cells #[.bool false, .int .i64 c0, .int .i64 c1, .int .i64 y0, .int .i64 y1, .int .i64 a, .int .i64 o, .int .i64 g, .int .i64 n] 24)) #[.string ⟨#[104, 105, 103, 104]⟩] 1 (by simp) (by decide) (by simp)
    rw [World.size_alloc] at this; exact this
  have hz : w.heap.size + 2 ≤ W.heap.size := by rw [← hW]; simp
  have hB : Below w.heap.size w W := by rw [← hW]; exact (by repeat (first | exact Below.refl _ _ | refine Below.drew ?_ | refine below_drewN ?_ _ | refine Below.alloc ?_ (by simp <;> omega) _ | refine Below.setCell ?_ (by simp <;> omega) _ | assumption | (refine Below.trans ?_ (Below.mono (by assumption) (by simp <;> omega)))))
  have htW := tab_later htab'.out hB
  clear hW
  refine wp_loop_rounds 3 ?_
  -- round 0
  rw [rounds_succ]
  have hb2 := hbox.2
  go_wp2_with fail
  have hS : ∀ (p : Mix.Keeps (BoxAt w.heap.size (#[.bool false, .int .i64 c0, .int .i64 c1, .int .i64 y0, .int .i64 y1, .int .i64 a, .int .i64 o, .int .i64 g, .int .i64 n]))) i, p.w.cell? ⟨w.heap.size, i, none⟩ = (#[.bool false, .int .i64 c0, .int .i64 c1, .int .i64 y0, .int .i64 y1, .int .i64 a, .int .i64 o, .int .i64 g, .int .i64 n] : Array Value)[i]? := fun p i => p.h.2 i
  have hNE : Nonempty (Mix.Keeps (BoxAt w.heap.size (#[.bool false, .int .i64 c0, .int .i64 c1, .int .i64 y0, .int .i64 y1, .int .i64 a, .int .i64 o, .int .i64 g, .int .i64 n]))) := ⟨⟨_, hbox⟩⟩
  refine Mix.wp_region (BoxAt w.heap.size (#[.bool false, .int .i64 c0, .int .i64 c1, .int .i64 y0, .int .i64 y1, .int .i64 a, .int .i64 o, .int .i64 g, .int .i64 n])) (fun k => k == 8 || k == 9 || k == 10) (by kernel_rfl) (by kernel_rfl) (by kernel_rfl) hbox ?_
  repeat (refine Mix.walk_read rfl (fun K hK => ?_); go_simp; refine hK _ ?_; clear hK K)
  refine Mix.walk_eff rfl (fun K hK => ?_)
  go_simp
  refine (itoa_b y0 (by omega) (by omega) _ (by exact htW)).mono ?_
  rintro e w1 ⟨rfl, hb⟩
  replace hb := below_of_drew hb
  have hbox1 : BoxAt w.heap.size (#[.bool false, .int .i64 c0, .int .i64 c1, .int .i64 y0, .int .i64 y1, .int .i64 a, .int .i64 o, .int .i64 g, .int .i64 n]) w1 := hbox.later hb
  have hown1 := own_later hown hb
  have hB1 : Below w.heap.size w w1 := hB.trans (hb.mono hB.size)
  have hz1 : w.heap.size + 2 ≤ w1.heap.size := Nat.le_trans hz hb.size
  have htW1 := tab_later htab'.out hB1
  clear hb hbox hown hB hz htW hb2
  refine hK _ _ ⟨⟨_, hbox1⟩, rfl⟩ ?_
  clear hK K
  refine Mix.walk_eff rfl (fun K hK => ?_)
  go_simp
  refine hK _ _ ⟨⟨_, hbox1.alloc _⟩, rfl⟩ ?_
  clear hK K
  refine Mix.walk_eff rfl (fun K hK => ?_)
  refine append_one (by rfl) _ _ _ (by rfl) (w.heap.size + 1) 9 _ 16 Tryd.underlying34 info9 rfl _ 1 _ (by rfl) (hown1.alloc _) 2 [.string (str (wordL c0)), .string (str (Lib.itoa y0))] w1.heap.size (by rfl) rfl (heap_alloc_new _ _) (by simp [Value.oneCell']) (by omega) (by decide) (by decide) (by simp; omega) ?_
  intro gg cap w2 hown2 hgrow hge hat
  have hbox2 := (hbox1.alloc _).grown hgrow (by simp [Value.ownBlock])
  have hB2 : Below w.heap.size w w2 := (hB1.alloc (by omega) _).grown hgrow (by simp; omega) (by simp [Value.ownBlock])
  have hz2 : w.heap.size + 2 ≤ w2.heap.size := by have := hgrow.size; simp at this; omega
  have htW2 := tab_later htab'.out hB2
  refine hK _ _ ⟨⟨_, hbox2⟩, rfl⟩ ?_
  clear hK K hgrow htW1 hz1 hB1 hown1 hbox1
  repeat (refine Mix.walk_read rfl (fun K hK => ?_); go_simp; refine hK _ ?_; clear hK K)
  refine Mix.walk_nil ?_
  clear hS hNE
  have hown3 : w2.ownsRow (w.heap.size + 1) 9 1 (.slice (some ⟨gg, 0, none⟩) 3 cap) 3 (strs [headL false, wordL c0, Lib.itoa y0]) := by simpa [strs] using hown2
  clear hown2
  obtain ⟨hbox, hB, hz, hown, htW⟩ := And.intro hbox2 (And.intro hB2 (And.intro hz2 (And.intro hown3 htW2)))
  clear hbox2 hB2 hz2 hown3 htW2
  obtain ⟨W, rfl⟩ : ∃ W, W = w2 := ⟨_, rfl⟩
  obtain ⟨g0, rfl⟩ : ∃ g0, g0 = gg := ⟨_, rfl⟩
  go_wp2_with fail
  -- round 1
  rw [rounds_succ]
  have hb2 := hbox.2
  go_wp2_with fail
  have hS : ∀ (p : Mix.Keeps (BoxAt w.heap.size (#[.bool false, .int .i64 c0, .int .i64 c1, .int .i64 y0, .int .i64 y1, .int .i64 a, .int .i64 o, .int .i64 g, .int .i64 n]))) i, p.w.cell? ⟨w.heap.size, i, none⟩ = (#[.bool false, .int .i64 c0, .int .i64 c1, .int .i64 y0, .int .i64 y1, .int .i64 a, .int .i64 o, .int .i64 g, .int .i64 n] : Array Value)[i]? := fun p i => p.h.2 i
  have hNE : Nonempty (Mix.Keeps (BoxAt w.heap.size (#[.bool false, .int .i64 c0, .int .i64 c1, .int .i64 y0, .int .i64 y1, .int .i64 a, .int .i64 o, .int .i64 g, .int .i64 n]))) := ⟨⟨_, hbox⟩⟩
  refine Mix.wp_region (BoxAt w.heap.size (#[.bool false, .int .i64 c0, .int .i64 c1, .int .i64 y0, .int .i64 y1, .int .i64 a, .int .i64 o, .int .i64 g, .int .i64 n])) (fun k => k == 8 || k == 9 || k == 10) (by kernel_rfl) (by kernel_rfl) (by kernel_rfl) hbox ?_
  repeat (refine Mix.walk_read rfl (fun K hK => ?_); go_simp; refine hK _ ?_; clear hK K)
  refine Mix.walk_eff rfl (fun K hK => ?_)
  go_simp
  refine (itoa_b y1 (by omega) (by omega) _ (by exact htW)).mono ?_
  rintro e w1 ⟨rfl, hb⟩
  replace hb := below_of_drew hb
  have hbox1 : BoxAt w.heap.size (#[.bool false, .int .i64 c0, .int .i64 c1, .int .i64 y0, .int .i64 y1, .int .i64 a, .int .i64 o, .int .i64 g, .int .i64 n]) w1 := hbox.later hb
  have hown1 := own_later hown hb
  have hB1 : Below w.heap.size w w1 := hB.trans (hb.mono hB.size)
  have hz1 : w.heap.size + 2 ≤ w1.heap.size := Nat.le_trans hz hb.size
  have htW1 := tab_later htab'.out hB1
  clear hb hbox hown hB hz htW hb2
  refine hK _ _ ⟨⟨_, hbox1⟩, rfl⟩ ?_
  clear hK K
  refine Mix.walk_eff rfl (fun K hK => ?_)
  go_simp
  refine hK _ _ ⟨⟨_, hbox1.alloc _⟩, rfl⟩ ?_
  clear hK K
  refine Mix.walk_eff rfl (fun K hK => ?_)
  refine append_one (by rfl) _ _ _ (by rfl) (w.heap.size + 1) 9 _ 16 Tryd.underlying34 info9 rfl _ 3 _ (by rfl) (hown1.alloc _) 2 [.string (str (wordL c1)), .string (str (Lib.itoa y1))] w1.heap.size (by rfl) rfl (heap_alloc_new _ _) (by simp [Value.oneCell']) (by omega) (by decide) (by decide) (by simp; omega) ?_
  intro gg cap w2 hown2 hgrow hge hat
  have hbox2 := (hbox1.alloc _).grown hgrow (by simp [Value.ownBlock]; omega)
  have hB2 : Below w.heap.size w w2 := (hB1.alloc (by omega) _).grown hgrow (by simp; omega) (by simp [Value.ownBlock]; omega)
  have hz2 : w.heap.size + 2 ≤ w2.heap.size := by have := hgrow.size; simp at this; omega
  have htW2 := tab_later htab'.out hB2
  refine hK _ _ ⟨⟨_, hbox2⟩, rfl⟩ ?_
  clear hK K hgrow htW1 hz1 hB1 hown1 hbox1
  repeat (refine Mix.walk_read rfl (fun K hK => ?_); go_simp; refine hK _ ?_; clear hK K)
  refine Mix.walk_nil ?_
  clear hS hNE
  have hown3 : w2.ownsRow (w.heap.size + 1) 9 1 (.slice (some ⟨gg, 0, none⟩) 5 cap) 5 (strs [headL false, wordL c0, Lib.itoa y0, wordL c1, Lib.itoa y1]) := by simpa [strs] using hown2
  clear hown2
  obtain ⟨hbox, hB, hz, hown, htW⟩ := And.intro hbox2 (And.intro hB2 (And.intro hz2 (And.intro hown3 htW2)))
  clear hbox2 hB2 hz2 hown3 htW2
  obtain ⟨W, rfl⟩ : ∃ W, W = w2 := ⟨_, rfl⟩
  obtain ⟨g1, rfl⟩ : ∃ g1, g1 = gg := ⟨_, rfl⟩
  go_wp2_with fail
  rw [rounds_succ]
  have hb2 := hbox.2
  go_wp2_with fail
  clear hb2
  generalize hR : W.heap.size = r
  generalize hW : World.alloc W (.cells #[.int .i64 a, .int .i64 o, .int .i64 g, .int .i64 n] 3) = W2
  have hrow : BoxAt r (#[.int .i64 a, .int .i64 o, .int .i64 g, .int .i64 n]) W2 := by rw [← hW, ← hR]; exact BoxAt.new _ _ _
  have hown2 : W2.ownsRow (w.heap.size + 1) 9 1 (.slice (some ⟨g1, 0, none⟩) 5 cap) 5 (strs [headL false, wordL c0, Lib.itoa y0, wordL c1, Lib.itoa y1]) := by rw [← hW]; exact hown.alloc _
  have hz2 : w.heap.size + 2 ≤ W2.heap.size := by rw [← hW]; simp; omega
  have hB2 : Below w.heap.size w W2 := by rw [← hW]; exact hB.alloc hB.size _
  have htW2 := tab_later htab'.out hB2
  have hne : r ≠ g1 := by have := own_lt hown; omega
  clear hW hR hown hB hz hbox htW
  obtain ⟨hB, hz, hown, htW⟩ := And.intro hB2 (And.intro hz2 (And.intro hown2 htW2))
  clear hB2 hz2 hown2 htW2
  refine wp_loop_rounds 5 ?_
  -- number a
  rw [rounds_succ]
  have hr2 := hrow.2
  go_wp2_with fail
  refine (number_any a ka (by omega) _ (by exact htW)).mono ?_
  rintro e w1 ⟨rfl, hb⟩
  have hrow1 := hrow.later hb
  have hown1 := own_later hown hb
  have hB1 : Below w.heap.size w w1 := hB.trans (hb.mono hB.size)
  have hz1 : r < w1.heap.size := hrow1.1
  have hz0 : w.heap.size + 2 ≤ w1.heap.size := Nat.le_trans hz hb.size
  clear hb hrow hown hB hz htW hr2
  go_wp2_with (at_builtin; refine append_list (by rfl) _ _ _ (by rfl) (w.heap.size + 1) 9 _ 16 Tryd.underlying34 info9 rfl _ 5 _ (by rfl) (hown1.alloc _) 1 [.string (str (numL a))] w1.heap.size (by rfl) rfl (heap_alloc_new _ _) (by simp [Value.oneCell']) (by omega) (by decide) (by decide) (by simp; omega) ?_; intro gg cap w2 hown2 hgrow hge hat)
  have hrow2 := (hrow1.alloc _).grown hgrow (by simp [Value.ownBlock]; omega)
  have hB2 : Below w.heap.size w w2 := (hB1.alloc (by omega) _).grown hgrow (by simp; omega) (by simp [Value.ownBlock]; omega)
  have hz2 : w.heap.size + 2 ≤ w2.heap.size := by have := hgrow.size; simp at this; omega
  have htW2 := tab_later htab'.out hB2
  replace hne : r ≠ gg := by rcases hat with hat | hat <;> simp [Value.ownBlock] at hat <;> omega
  clear hat hgrow hz1 hz0 hB1 hown1 hrow1
  have hown3 : w2.ownsRow (w.heap.size + 1) 9 1 (.slice (some ⟨gg, 0, none⟩) 6 cap) 6 (strs [headL false, wordL c0, Lib.itoa y0, wordL c1, Lib.itoa y1, numL a]) := by simpa [strs] using hown2
  clear hown2
  obtain ⟨hrow, hB, hz, hown, htW⟩ := And.intro hrow2 (And.intro hB2 (And.intro hz2 (And.intro hown3 htW2)))
  clear hrow2 hB2 hz2 hown3 htW2
  obtain ⟨W, rfl⟩ : ∃ W, W = w2 := ⟨_, rfl⟩
  obtain ⟨g2, rfl⟩ : ∃ g2, g2 = gg := ⟨_, rfl⟩
  rw [rounds_succ]
  have hr2 := hrow.2
  have hfit : fitsB c0 c1 y0 y1 a o g n = false := by simp [fitsB]; omega
  have hfit' := Lib.hid hfit; clear hfit
  go_wp2_with fail
  all_goals
    go_ret2
    exact ⟨by rw [hfit'.out]; rfl, hB⟩

set_option maxHeartbeats 4000000 in
theorem bad_g_false (c0 c1 y0 y1 a o g n : Int) (w : World) (m0 : y0 ≤ 9223372036854775807) (m1 : y1 ≤ 9223372036854775807)
    (ma : a ≤ 9223372036854775807) (mo : o ≤ 9223372036854775807) (mg : g ≤ 9223372036854775807) (mn : n ≤ 9223372036854775807)
    (htab : Lib.TabIs Tryd.prog w "internal/strconv.uint64pow10" .u64 Lib.pow10Tab) (h1 : 0 ≤ c0) (h2 : c0 ≤ 3) (h5 : 0 ≤ y0) (h3 : 0 ≤ c1) (h4 : c1 ≤ 3) (h6 : 0 ≤ y1) (ka : -1 ≤ a) (ko : -1 ≤ o) (hbad : g < -1) :
    Calls Tryd.prog 5 #[.agg #[.bool false, .int .i64 c0, .int .i64 c1, .int .i64 y0, .int .i64 y1, .int .i64 a, .int .i64 o, .int .i64 g, .int .i64 n]] w (TextPost false c0 c1 y0 y1 a o g n w) := by
  have hix0 := word_index c0 h1 h2
  have hix1 := word_index c1 h3 h4
  have ix0 : ∀ w, (Instr.index 22 (.agg #[.int .i64 c0, .int .i64 c1]) (.int .i64 0)).run Tryd.prog w = .ok (.int .i64 c0) w := fun _ => by kernel_rfl
  have ix1 : ∀ w, (Instr.index 22 (.agg #[.int .i64 c0, .int .i64 c1]) (.int .i64 1)).run Tryd.prog w = .ok (.int .i64 c1) w := fun _ => by kernel_rfl
  have htab' := Lib.hid htab; clear htab
  go_enter Tryd.func5, Tryd.ntmps5
  go_wp2_with fail
  generalize hW : World.alloc (World.alloc w (.cells #[.bool false, .int .i64 c0, .int .i64 c1, .int .i64 y0, .int .i64 y1, .int .i64 a, .int .i64 o, .int .i64 g, .int .i64 n] 24)) (.cells #[.string ⟨#[104, 105, 103, 104]⟩] 9) = W
  have hbox : BoxAt w.heap.size (#[.bool false, .int .i64 c0, .int .i64 c1, .int .i64 y0, .int .i64 y1, .int .i64 a, .int .i64 o, .int .i64 g, .int .i64 n]) W := by rw [← hW]; exact (BoxAt.new _ _ _).alloc _
  have hown : W.ownsRow (w.heap.size + 1) 9 1 (.slice (some ⟨w.heap.size + 1, 0, none⟩) 1 1) 1 (strs [headL false]) := by
    rw [← hW]; have := World.ownsRow_lit (base := w.heap.size + 1) (e := 9) (size := 1) (w.alloc (.cells #[.bool false, .int .i64 c0, .int .i64 c1, .int .i64 y0, .int .i64 y1, .int .i64 a, .int .i64 o, .int .i64 g, .int .i64 n] 24)) #[.string ⟨#[104, 105, 103, 104]⟩] 1 (by simp) (by decide) (by simp)
    rw [World.size_alloc] at this; exact this
  have hz : w.heap.size + 2 ≤ W.heap.size := by rw [← hW]; simp
  have hB : Below w.heap.size w W := by rw [← hW]; exact (by repeat (first | exact Below.refl _ _ | refine Below.drew ?_ | refine below_drewN ?_ _ | refine Below.alloc ?_ (by simp <;> omega) _ | refine Below.setCell ?_ (by simp <;> omega) _ | assumption | (refine Below.trans ?_ (Below.mono (by assumption) (by simp <;> omega)))))
  have htW := tab_later htab'.out hB
  clear hW
  refine wp_loop_rounds 3 ?_
  -- round 0
  rw [rounds_succ]
  have hb2 := hbox.2
  go_wp2_with fail
  have hS : ∀ (p : Mix.Keeps (BoxAt w.heap.size (#[.bool false, .int .i64 c0, .int .i64 c1, .int .i64 y0, .int .i64 y1, .int .i64 a, .int .i64 o, .int .i64 g, .int .i64 n]))) i, p.w.cell? ⟨w.heap.size, i, none⟩ = (#[.bool false, .int .i64 c0, .int .i64 c1, .int .i64 y0, .int .i64 y1, .int .i64 a, .int .i64 o, .int .i64 g, .int .i64 n] : Array Value)[i]? := fun p i => p.h.2 i
  have hNE : Nonempty (Mix.Keeps (BoxAt w.heap.size (#[.bool false, .int .i64 c0, .int .i64 c1, .int .i64 y0, .int .i64 y1, .int .i64 a, .int .i64 o, .int .i64 g, .int .i64 n]))) := ⟨⟨_, hbox⟩⟩
  refine Mix.wp_region (BoxAt w.heap.size (#[.bool false, .int .i64 c0, .int .i64 c1, .int .i64 y0, .int .i64 y1, .int .i64 a, .int .i64 o, .int .i64 g, .int .i64 n])) (fun k => k == 8 || k == 9 || k == 10) (by kernel_rfl) (by kernel_rfl) (by kernel_rfl) hbox ?_
  repeat (refine Mix.walk_read rfl (fun K hK => ?_); go_simp; refine hK _ ?_; clear hK K)
  refine Mix.walk_eff rfl (fun K hK => ?_)
  go_simp
  refine (itoa_b y0 (by omega) (by omega) _ (by exact htW)).mono ?_
  rintro e w1 ⟨rfl, hb⟩
  replace hb := below_of_drew hb
  have hbox1 : BoxAt w.heap.size (#[.bool false, .int .i64 c0, .int .i64 c1, .int .i64 y0, .int .i64 y1, .int .i64 a, .int .i64 o, .int .i64 g, .int .i64 n]) w1 := hbox.later hb
  have hown1 := own_later hown hb
  have hB1 : Below w.heap.size w w1 := hB.trans (hb.mono hB.size)
  have hz1 : w.heap.size + 2 ≤ w1.heap.size := Nat.le_trans hz hb.size
  have htW1 := tab_later htab'.out hB1
  clear hb hbox hown hB hz htW hb2
  refine hK _ _ ⟨⟨_, hbox1⟩, rfl⟩ ?_
  clear hK K
  refine Mix.walk_eff rfl (fun K hK => ?_)
  go_simp
  refine hK _ _ ⟨⟨_, hbox1.alloc _⟩, rfl⟩ ?_
  clear hK K
  refine Mix.walk_eff rfl (fun K hK => ?_)
  refine append_one (by rfl) _ _ _ (by rfl) (w.heap.size + 1) 9 _ 16 Tryd.underlying34 info9 rfl _ 1 _ (by rfl) (hown1.alloc _) 2 [.string (str (wordL c0)), .string (str (Lib.itoa y0))] w1.heap.size (by rfl) rfl (heap_alloc_new _ _) (by simp [Value.oneCell']) (by omega) (by decide) (by decide) (by simp; omega) ?_
  intro gg cap w2 hown2 hgrow hge hat
  have hbox2 := (hbox1.alloc _).grown hgrow (by simp [Value.ownBlock])
  have hB2 : Below w.heap.size w w2 := (hB1.alloc (by omega) _).grown hgrow (by simp; omega) (by simp [Value.ownBlock])
  have hz2 : w.heap.size + 2 ≤ w2.heap.size := by have := hgrow.size; simp at this; omega
  have htW2 := tab_later htab'.out hB2
  refine hK _ _ ⟨⟨_, hbox2⟩, rfl⟩ ?_
  clear hK K hgrow htW1 hz1 hB1 hown1 hbox1
  repeat (refine Mix.walk_read rfl (fun K hK => ?_); go_simp; refine hK _ ?_; clear hK K)
  refine Mix.walk_nil ?_
  clear hS hNE
  have hown3 : w2.ownsRow (w.heap.size + 1) 9 1 (.slice (some ⟨gg, 0, none⟩) 3 cap) 3 (strs [headL false, wordL c0, Lib.itoa y0]) := by simpa [strs] using hown2
  clear hown2
  obtain ⟨hbox, hB, hz, hown, htW⟩ := And.intro hbox2 (And.intro hB2 (And.intro hz2 (And.intro hown3 htW2)))
  clear hbox2 hB2 hz2 hown3 htW2
  obtain ⟨W, rfl⟩ : ∃ W, W = w2 := ⟨_, rfl⟩
  obtain ⟨g0, rfl⟩ : ∃ g0, g0 = gg := ⟨_, rfl⟩
  go_wp2_with fail
  -- round 1
  rw [rounds_succ]
  have hb2 := hbox.2
  go_wp2_with fail
  have hS : ∀ (p : Mix.Keeps (BoxAt w.heap.size (#[.bool false, .int .i64 c0, .int .i64 c1, .int .i64 y0, .int .i64 y1, .int .i64 a, .int .i64 o, .int .i64 g, .int .i64 n]))) i, p.w.cell? ⟨w.heap.size, i, none⟩ = (#[.bool false, .int .i64 c0, .int .i64 c1, .int .i64 y0, .int .i64 y1, .int .i64 a, .int .i64 o, .int .i64 g, .int .i64 n] : Array Value)[i]? := fun p i => p.h.2 i
  have hNE : Nonempty (Mix.Keeps (BoxAt w.heap.size (#[.bool false, .int .i64 c0, .int .i64 c1, .int .i64 y0, .int .i64 y1, .int .i64 a, .int .i64 o, .int .i64 g, .int .i64 n]))) := ⟨⟨_, hbox⟩⟩
  refine Mix.wp_region (BoxAt w.heap.size (#[.bool false, .int .i64 c0, .int .i64 c1, .int .i64 y0, .int .i64 y1, .int .i64 a, .int .i64 o, .int .i64 g, .int .i64 n])) (fun k => k == 8 || k == 9 || k == 10) (by kernel_rfl) (by kernel_rfl) (by kernel_rfl) hbox ?_
  repeat (refine Mix.walk_read rfl (fun K hK => ?_); go_simp; refine hK _ ?_; clear hK K)
  refine Mix.walk_eff rfl (fun K hK => ?_)
  go_simp
  refine (itoa_b y1 (by omega) (by omega) _ (by exact htW)).mono ?_
  rintro e w1 ⟨rfl, hb⟩
  replace hb := below_of_drew hb
  have hbox1 : BoxAt w.heap.size (#[.bool false, .int .i64 c0, .int .i64 c1, .int .i64 y0, .int .i64 y1, .int .i64 a, .int .i64 o, .int .i64 g, .int .i64 n]) w1 := hbox.later hb
  have hown1 := own_later hown hb
  have hB1 : Below w.heap.size w w1 := hB.trans (hb.mono hB.size)
  have hz1 : w.heap.size + 2 ≤ w1.heap.size := Nat.le_trans hz hb.size
  have htW1 := tab_later htab'.out hB1
  clear hb hbox hown hB hz htW hb2
  refine hK _ _ ⟨⟨_, hbox1⟩, rfl⟩ ?_
  clear hK K
  refine Mix.walk_eff rfl (fun K hK => ?_)
  go_simp
  refine hK _ _ ⟨⟨_, hbox1.alloc _⟩, rfl⟩ ?_
  clear hK K
  refine Mix.walk_eff rfl (fun K hK => ?_)
  refine append_one (by rfl) _ _ _ (by rfl) (w.heap.size + 1) 9 _ 16 Tryd.underlying34 info9 rfl _ 3 _ (by rfl) (hown1.alloc _) 2 [.string (str (wordL c1)), .string (str (Lib.itoa y1))] w1.heap.size (by rfl) rfl (heap_alloc_new _ _) (by simp [Value.oneCell']) (by omega) (by decide) (by decide) (by simp; omega) ?_
  intro gg cap w2 hown2 hgrow hge hat
  have hbox2 := (hbox1.alloc _).grown hgrow (by simp [Value.ownBlock]; omega)
  have hB2 : Below w.heap.size w w2 := (hB1.alloc (by omega) _).grown hgrow (by simp; omega) (by simp [Value.ownBlock]; omega)
  have hz2 : w.heap.size + 2 ≤ w2.heap.size := by have := hgrow.size; simp at this; omega
  have htW2 := tab_later htab'.out hB2
  refine hK _ _ ⟨⟨_, hbox2⟩, rfl⟩ ?_
  clear hK K hgrow htW1 hz1 hB1 hown1 hbox1
  repeat (refine Mix.walk_read rfl (fun K hK => ?_); go_simp; refine hK _ ?_; clear hK K)
  refine Mix.walk_nil ?_
  clear hS hNE
  have hown3 : w2.ownsRow (w.heap.size + 1) 9 1 (.slice (some ⟨gg, 0, none⟩) 5 cap) 5 (strs [headL false, wordL c0, Lib.itoa y0, wordL c1, Lib.itoa y1]) := by simpa [strs] using hown2
  clear hown2
  obtain ⟨hbox, hB, hz, hown, htW⟩ := And.intro hbox2 (And.intro hB2 (And.intro hz2 (And.intro hown3 htW2)))
  clear hbox2 hB2 hz2 hown3 htW2
  obtain ⟨W, rfl⟩ : ∃ W, W = w2 := ⟨_, rfl⟩
  obtain ⟨g1, rfl⟩ : ∃ g1, g1 = gg := ⟨_, rfl⟩
  go_wp2_with fail
  rw [rounds_succ]
  have hb2 := hbox.2
  go_wp2_with fail
  clear hb2
  generalize hR : W.heap.size = r
  generalize hW : World.alloc W (.cells #[.int .i64 a, .int .i64 o, .int .i64 g, .int .i64 n] 3) = W2
  have hrow : BoxAt r (#[.int .i64 a, .int .i64 o, .int .i64 g, .int .i64 n]) W2 := by rw [← hW, ← hR]; exact BoxAt.new _ _ _
  have hown2 : W2.ownsRow (w.heap.size + 1) 9 1 (.slice (some ⟨g1, 0, none⟩) 5 cap) 5 (strs [headL false, wordL c0, Lib.itoa y0, wordL c1, Lib.itoa y1]) := by rw [← hW]; exact hown.alloc _
  have hz2 : w.heap.size + 2 ≤ W2.heap.size := by rw [← hW]; simp; omega
  have hB2 : Below w.heap.size w W2 := by rw [← hW]; exact hB.alloc hB.size _
  have htW2 := tab_later htab'.out hB2
  have hne : r ≠ g1 := by have := own_lt hown; omega
  clear hW hR hown hB hz hbox htW
  obtain ⟨hB, hz, hown, htW⟩ := And.intro hB2 (And.intro hz2 (And.intro hown2 htW2))
  clear hB2 hz2 hown2 htW2
  refine wp_loop_rounds 5 ?_
  -- number a
  rw [rounds_succ]
  have hr2 := hrow.2
  go_wp2_with fail
  refine (number_any a ka (by omega) _ (by exact htW)).mono ?_
  rintro e w1 ⟨rfl, hb⟩
  have hrow1 := hrow.later hb
  have hown1 := own_later hown hb
  have hB1 : Below w.heap.size w w1 := hB.trans (hb.mono hB.size)
  have hz1 : r < w1.heap.size := hrow1.1
  have hz0 : w.heap.size + 2 ≤ w1.heap.size := Nat.le_trans hz hb.size
  clear hb hrow hown hB hz htW hr2
  go_wp2_with (at_builtin; refine append_list (by rfl) _ _ _ (by rfl) (w.heap.size + 1) 9 _ 16 Tryd.underlying34 info9 rfl _ 5 _ (by rfl) (hown1.alloc _) 1 [.string (str (numL a))] w1.heap.size (by rfl) rfl (heap_alloc_new _ _) (by simp [Value.oneCell']) (by omega) (by decide) (by decide) (by simp; omega) ?_; intro gg cap w2 hown2 hgrow hge hat)
  have hrow2 := (hrow1.alloc _).grown hgrow (by simp [Value.ownBlock]; omega)
  have hB2 : Below w.heap.size w w2 := (hB1.alloc (by omega) _).grown hgrow (by simp; omega) (by simp [Value.ownBlock]; omega)
  have hz2 : w.heap.size + 2 ≤ w2.heap.size := by have := hgrow.size; simp at this; omega
  have htW2 := tab_later htab'.out hB2
  replace hne : r ≠ gg := by rcases hat with hat | hat <;> simp [Value.ownBlock] at hat <;> omega
  clear hat hgrow hz1 hz0 hB1 hown1 hrow1
  have hown3 : w2.ownsRow (w.heap.size + 1) 9 1 (.slice (some ⟨gg, 0, none⟩) 6 cap) 6 (strs [headL false, wordL c0, Lib.itoa y0, wordL c1, Lib.itoa y1, numL a]) := by simpa [strs] using hown2
  clear hown2
  obtain ⟨hrow, hB, hz, hown, htW⟩ := And.intro hrow2 (And.intro hB2 (And.intro hz2 (And.intro hown3 htW2)))
  clear hrow2 hB2 hz2 hown3 htW2
  obtain ⟨W, rfl⟩ : ∃ W, W = w2 := ⟨_, rfl⟩
  obtain ⟨g2, rfl⟩ : ∃ g2, g2 = gg := ⟨_, rfl⟩
  -- number o
  rw [rounds_succ]
  have hr2 := hrow.2
  go_wp2_with fail
  refine (number_any o ko (by omega) _ (by exact htW)).mono ?_
  rintro e w1 ⟨rfl, hb⟩
  have hrow1 := hrow.later hb
  have hown1 := own_later hown hb
  have hB1 : Below w.heap.size w w1 := hB.trans (hb.mono hB.size)
  have hz1 : r < w1.heap.size := hrow1.1
  have hz0 : w.heap.size + 2 ≤ w1.heap.size := Nat.le_trans hz hb.size
  clear hb hrow hown hB hz htW hr2
  go_wp2_with (at_builtin; refine append_list (by rfl) _ _ _ (by rfl) (w.heap.size + 1) 9 _ 16 Tryd.underlying34 info9 rfl _ 6 _ (by rfl) (hown1.alloc _) 1 [.string (str (numL o))] w1.heap.size (by rfl) rfl (heap_alloc_new _ _) (by simp [Value.oneCell']) (by omega) (by decide) (by decide) (by simp; omega) ?_; intro gg cap w2 hown2 hgrow hge hat)
  have hrow2 := (hrow1.alloc _).grown hgrow (by simp [Value.ownBlock]; omega)
  have hB2 : Below w.heap.size w w2 := (hB1.alloc (by omega) _).grown hgrow (by simp; omega) (by simp [Value.ownBlock]; omega)
  have hz2 : w.heap.size + 2 ≤ w2.heap.size := by have := hgrow.size; simp at this; omega
  have htW2 := tab_later htab'.out hB2
  replace hne : r ≠ gg := by rcases hat with hat | hat <;> simp [Value.ownBlock] at hat <;> omega
  clear hat hgrow hz1 hz0 hB1 hown1 hrow1
  have hown3 : w2.ownsRow (w.heap.size + 1) 9 1 (.slice (some ⟨gg, 0, none⟩) 7 cap) 7 (strs [headL false, wordL c0, Lib.itoa y0, wordL c1, Lib.itoa y1, numL a, numL o]) := by simpa [strs] using hown2
  clear hown2
  obtain ⟨hrow, hB, hz, hown, htW⟩ := And.intro hrow2 (And.intro hB2 (And.intro hz2 (And.intro hown3 htW2)))
  clear hrow2 hB2 hz2 hown3 htW2
  obtain ⟨W, rfl⟩ : ∃ W, W = w2 := ⟨_, rfl⟩
  obtain ⟨g3, rfl⟩ : ∃ g3, g3 = gg := ⟨_, rfl⟩
  rw [rounds_succ]
  have hr2 := hrow.2
  have hfit : fitsB c0 c1 y0 y1 a o g n = false := by simp [fitsB]; omega
  have hfit' := Lib.hid hfit; clear hfit
  go_wp2_with fail
  all_goals
    go_ret2
    exact ⟨by rw [hfit'.out]; rfl, hB⟩

set_option maxHeartbeats 4000000 in
theorem bad_n_false (c0 c1 y0 y1 a o g n : Int) (w : World) (m0 : y0 ≤ 9223372036854775807) (m1 : y1 ≤ 9223372036854775807)
    (ma : a ≤ 9223372036854775807) (mo : o ≤ 9223372036854775807) (mg : g ≤ 9223372036854775807) (mn : n ≤ 9223372036854775807)
    (htab : Lib.TabIs Tryd.prog w "internal/strconv.uint64pow10" .u64 Lib.pow10Tab) (h1 : 0 ≤ c0) (h2 : c0 ≤ 3) (h5 : 0 ≤ y0) (h3 : 0 ≤ c1) (h4 : c1 ≤ 3) (h6 : 0 ≤ y1) (ka : -1 ≤ a) (ko : -1 ≤ o) (kg : -1 ≤ g) (hbad : n < -1) :
    Calls Tryd.prog 5 #[.agg #[.bool false, .int .i64 c0, .int .i64 c1, .int .i64 y0, .int .i64 y1, .int .i64 a, .int .i64 o, .int .i64 g, .int .i64 n]] w (TextPost false c0 c1 y0 y1 a o g n w) := by
  have hix0 := word_index c0 h1 h2
  have hix1 := word_index c1 h3 h4
  have ix0 : ∀ w, (Instr.index 22 (.agg #[.int .i64 c0, .int .i64 c1]) (.int .i64 0)).run Tryd.prog w = .ok (.int .i64 c0) w := fun _ => by kernel_rfl
  have ix1 : ∀ w, (Instr.index 22 (.agg #[.int .i64 c0, .int .i64 c1]) (.int .i64 1)).run Tryd.prog w = .ok (.int .i64 c1) w := fun _ => by kernel_rfl
  have htab' := Lib.hid htab; clear htab
  go_enter Tryd.func5, Tryd.ntmps5
  go_wp2_with fail
  generalize hW : World.alloc (World.alloc w (.cells #[.bool false, .int .i64 c0, .int .i64 c1, .int .i64 y0, .int .i64 y1, .int .i64 a, .int .i64 o, .int .i64 g, .int .i64 n] 24)) (.cells #[.string ⟨#[104, 105, 103, 104]⟩] 9) = W
  have hbox : BoxAt w.heap.size (#[.bool false, .int .i64 c0, .int .i64 c1, .int .i64 y0, .int .i64 y1, .int .i64 a, .int .i64 o, .int .i64 g, .int .i64 n]) W := by rw [← hW]; exact (BoxAt.new _ _ _).alloc _
  have hown : W.ownsRow (w.heap.size + 1) 9 1 (.slice (some ⟨w.heap.size + 1, 0, none⟩) 1 1) 1 (strs [headL false]) := by
    rw [← hW]; have := World.ownsRow_lit (base := w.heap.size + 1) (e := 9) (size := 1) (w.alloc (.cells #[.bool false, .int .i64 c0, .int .i64 c1, .int .i64 y0, .int .i64 y1, .int .i64 a, .int .i64 o, .int .i64 g, .int .i64 n] 24)) #[.string ⟨#[104, 105, 103, 104]⟩] 1 (by simp) (by decide) (by simp)
    rw [World.size_alloc] at this; exact this
  have hz : w.heap.size + 2 ≤ W.heap.size := by rw [← hW]; simp
  have hB : Below w.heap.size w W := by rw [← hW]; exact (by repeat (first | exact Below.refl _ _ | refine Below.drew ?_ | refine below_drewN ?_ _ | refine Below.alloc ?_ (by simp <;> omega) _ | refine Below.setCell ?_ (by simp <;> omega) _ | assumption | (refine Below.trans ?_ (Below.mono (by assumption) (by simp <;> omega)))))
  have htW := tab_later htab'.out hB
  clear hW
  refine wp_loop_rounds 3 ?_
  -- round 0
  rw [rounds_succ]
  have hb2 := hbox.2
  go_wp2_with fail
  have hS : ∀ (p : Mix.Keeps (BoxAt w.heap.size (#[.bool false, .int .i64 c0, .int .i64 c1, .int .i64 y0, .int .i64 y1, .int .i64 a, .int .i64 o, .int .i64 g, .int .i64 n]))) i, p.w.cell? ⟨w.heap.size, i, none⟩ = (#[.bool false, .int .i64 c0, .int .i64 c1, .int .i64 y0, .int .i64 y1, .int .i64 a, .int .i64 o, .int .i64 g, .int .i64 n] : Array Value)[i]? := fun p i => p.h.2 i
  have hNE : Nonempty (Mix.Keeps (BoxAt w.heap.size (#[.bool false, .int .i64 c0, .int .i64 c1, .int .i64 y0, .int .i64 y1, .int .i64 a, .int .i64 o, .int .i64 g, .int .i64 n]))) := ⟨⟨_, hbox⟩⟩
  refine Mix.wp_region (BoxAt w.heap.size (#[.bool false, .int .i64 c0, .int .i64 c1, .int .i64 y0, .int .i64 y1, .int .i64 a, .int .i64 o, .int .i64 g, .int .i64 n])) (fun k => k == 8 || k == 9 || k == 10) (by kernel_rfl) (by kernel_rfl) (by kernel_rfl) hbox ?_
  repeat (refine Mix.walk_read rfl (fun K hK => ?_); go_simp; refine hK _ ?_; clear hK K)
  refine Mix.walk_eff rfl (fun K hK => ?_)
  go_simp
  refine (itoa_b y0 (by omega) (by omega) _ (by exact htW)).mono ?_
  rintro e w1 ⟨rfl, hb⟩
  replace hb := below_of_drew hb
  have hbox1 : BoxAt w.heap.size (#[.bool false, .int .i64 c0, .int .i64 c1, .int .i64 y0, .int .i64 y1, .int .i64 a, .int .i64 o, .int .i64 g, .int .i64 n]) w1 := hbox.later hb
  have hown1 := own_later hown hb
  have hB1 : Below w.heap.size w w1 := hB.trans (hb.mono hB.size)
  have hz1 : w.heap.size + 2 ≤ w1.heap.size := Nat.le_trans hz hb.size
  have htW1 := tab_later htab'.out hB1
  clear hb hbox hown hB hz htW hb2
  refine hK _ _ ⟨⟨_, hbox1⟩, rfl⟩ ?_
  clear hK K
  refine Mix.walk_eff rfl (fun K hK => ?_)
  go_simp
  refine hK _ _ ⟨⟨_, hbox1.alloc _⟩, rfl⟩ ?_
  clear hK K
  refine Mix.walk_eff rfl (fun K hK => ?_)
  refine append_one (by rfl) _ _ _ (by rfl) (w.heap.size + 1) 9 _ 16 Tryd.underlying34 info9 rfl _ 1 _ (by rfl) (hown1.alloc _) 2 [.string (str (wordL c0)), .string (str (Lib.itoa y0))] w1.heap.size (by rfl) rfl (heap_alloc_new _ _) (by simp [Value.oneCell']) (by omega) (by decide) (by decide) (by simp; omega) ?_
  intro gg cap w2 hown2 hgrow hge hat
  have hbox2 := (hbox1.alloc _).grown hgrow (by simp [Value.ownBlock])
  have hB2 : Below w.heap.size w w2 := (hB1.alloc (by omega) _).grown hgrow (by simp; omega) (by simp [Value.ownBlock])
  have hz2 : w.heap.size + 2 ≤ w2.heap.size := by have := hgrow.size; simp at this; omega
  have htW2 := tab_later htab'.out hB2
  refine hK _ _ ⟨⟨_, hbox2⟩, rfl⟩ ?_
  clear hK K hgrow htW1 hz1 hB1 hown1 hbox1
  repeat (refine Mix.walk_read rfl (fun K hK => ?_); go_simp; refine hK _ ?_; clear hK K)
  refine Mix.walk_nil ?_
  clear hS hNE
  have hown3 : w2.ownsRow (w.heap.size + 1) 9 1 (.slice (some ⟨gg, 0, none⟩) 3 cap) 3 (strs [headL false, wordL c0, Lib.itoa y0]) := by simpa [strs] using hown2
  clear hown2
  obtain ⟨hbox, hB, hz, hown, htW⟩ := And.intro hbox2 (And.intro hB2 (And.intro hz2 (And.intro hown3 htW2)))
  clear hbox2 hB2 hz2 hown3 htW2
  obtain ⟨W, rfl⟩ : ∃ W, W = w2 := ⟨_, rfl⟩
  obtain ⟨g0, rfl⟩ : ∃ g0, g0 = gg := ⟨_, rfl⟩
  go_wp2_with fail
  -- round 1
  rw [rounds_succ]
  have hb2 := hbox.2
  go_wp2_with fail
  have hS : ∀ (p : Mix.Keeps (BoxAt w.heap.size (#[.bool false, .int .i64 c0, .int .i64 c1, .int .i64 y0, .int .i64 y1, .int .i64 a, .int .i64 o, .int .i64 g, .int .i64 n]))) i, p.w.cell? ⟨w.heap.size, i, none⟩ = (#[.bool false, .int .i64 c0, .int .i64 c1, .int .i64 y0, .int .i64 y1, .int .i64 a, .int .i64 o, .int .i64 g, .int .i64 n] : Array Value)[i]? := fun p i => p.h.2 i
  have hNE : Nonempty (Mix.Keeps (BoxAt w.heap.size (#[.bool false, .int .i64 c0, .int .i64 c1, .int .i64 y0, .int .i64 y1, .int .i64 a, .int .i64 o, .int .i64 g, .int .i64 n]))) := ⟨⟨_, hbox⟩⟩
  refine Mix.wp_region (BoxAt w.heap.size (#[.bool false, .int .i64 c0, .int .i64 c1, .int .i64 y0, .int .i64 y1, .int .i64 a, .int .i64 o, .int .i64 g, .int .i64 n])) (fun k => k == 8 || k == 9 || k == 10) (by kernel_rfl) (by kernel_rfl) (by kernel_rfl) hbox ?_
  repeat (refine Mix.walk_read rfl (fun K hK => ?_); go_simp; refine hK _ ?_; clear hK K)
  refine Mix.walk_eff rfl (fun K hK => ?_)
  go_simp
  refine (itoa_b y1 (by omega) (by omega) _ (by exact htW)).mono ?_
  rintro e w1 ⟨rfl, hb⟩
  replace hb := below_of_drew hb
  have hbox1 : BoxAt w.heap.size (#[.bool false, .int .i64 c0, .int .i64 c1, .int .i64 y0, .int .i64 y1, .int .i64 a, .int .i64 o, .int .i64 g, .int .i64 n]) w1 := hbox.later hb
  have hown1 := own_later hown hb
  have hB1 : Below w.heap.size w w1 := hB.trans (hb.mono hB.size)
  have hz1 : w.heap.size + 2 ≤ w1.heap.size := Nat.le_trans hz hb.size
  have htW1 := tab_later htab'.out hB1
  clear hb hbox hown hB hz htW hb2
  refine hK _ _ ⟨⟨_, hbox1⟩, rfl⟩ ?_
  clear hK K
  refine Mix.walk_eff rfl (fun K hK => ?_)
  go_simp
  refine hK _ _ ⟨⟨_, hbox1.alloc _⟩, rfl⟩ ?_
  clear hK K
  refine Mix.walk_eff rfl (fun K hK => ?_)
  refine append_one (by rfl) _ _ _ (by rfl) (w.heap.size + 1) 9 _ 16 Tryd.underlying34 info9 rfl _ 3 _ (by rfl) (hown1.alloc _) 2 [.string (str (wordL c1)), .string (str (Lib.itoa y1))] w1.heap.size (by rfl) rfl (heap_alloc_new _ _) (by simp [Value.oneCell']) (by omega) (by decide) (by decide) (by simp; omega) ?_
  intro gg cap w2 hown2 hgrow hge hat
  have hbox2 := (hbox1.alloc _).grown hgrow (by simp [Value.ownBlock]; omega)
  have hB2 : Below w.heap.size w w2 := (hB1.alloc (by omega) _).grown hgrow (by simp; omega) (by simp [Value.ownBlock]; omega)
  have hz2 : w.heap.size + 2 ≤ w2.heap.size := by have := hgrow.size; simp at this; omega
  have htW2 := tab_later htab'.out hB2
  refine hK _ _ ⟨⟨_, hbox2⟩, rfl⟩ ?_
  clear hK K hgrow htW1 hz1 hB1 hown1 hbox1
  repeat (refine Mix.walk_read rfl (fun K hK => ?_); go_simp; refine hK _ ?_; clear hK K)
  refine Mix.walk_nil ?_
  clear hS hNE
  have hown3 : w2.ownsRow (w.heap.size + 1) 9 1 (.slice (some ⟨gg, 0, none⟩) 5 cap) 5 (strs [headL false, wordL c0, Lib.itoa y0, wordL c1, Lib.itoa y1]) := by simpa [strs] using hown2
  clear hown2
  obtain ⟨hbox, hB, hz, hown, htW⟩ := And.intro hbox2 (And.intro hB2 (And.intro hz2 (And.intro hown3 htW2)))
  clear hbox2 hB2 hz2 hown3 htW2
  obtain ⟨W, rfl⟩ : ∃ W, W = w2 := ⟨_, rfl⟩
  obtain ⟨g1, rfl⟩ : ∃ g1, g1 = gg := ⟨_, rfl⟩
  go_wp2_with fail
  rw [rounds_succ]
  have hb2 := hbox.2
  go_wp2_with fail
  clear hb2
  generalize hR : W.heap.size = r
  generalize hW : World.alloc W (.cells #[.int .i64 a, .int .i64 o, .int .i64 g, .int .i64 n] 3) = W2
  have hrow : BoxAt r (#[.int .i64 a, .int .i64 o, .int .i64 g, .int .i64 n]) W2 := by rw [← hW, ← hR]; exact BoxAt.new _ _ _
  have hown2 : W2.ownsRow (w.heap.size + 1) 9 1 (.slice (some ⟨g1, 0, none⟩) 5 cap) 5 (strs [headL false, wordL c0, Lib.itoa y0, wordL c1, Lib.itoa y1]) := by rw [← hW]; exact hown.alloc _
  have hz2 : w.heap.size + 2 ≤ W2.heap.size := by rw [← hW]; simp; omega
  have hB2 : Below w.heap.size w W2 := by rw [← hW]; exact hB.alloc hB.size _
  have htW2 := tab_later htab'.out hB2
  have hne : r ≠ g1 := by have := own_lt hown; omega
  clear hW hR hown hB hz hbox htW
  obtain ⟨hB, hz, hown, htW⟩ := And.intro hB2 (And.intro hz2 (And.intro hown2 htW2))
  clear hB2 hz2 hown2 htW2
  refine wp_loop_rounds 5 ?_
  -- number a
  rw [rounds_succ]
  have hr2 := hrow.2
  go_wp2_with fail
  refine (number_any a ka (by omega) _ (by exact htW)).mono ?_
  rintro e w1 ⟨rfl, hb⟩
  have hrow1 := hrow.later hb
  have hown1 := own_later hown hb
  have hB1 : Below w.heap.size w w1 := hB.trans (hb.mono hB.size)
  have hz1 : r < w1.heap.size := hrow1.1
  have hz0 : w.heap.size + 2 ≤ w1.heap.size := Nat.le_trans hz hb.size
  clear hb hrow hown hB hz htW hr2
  go_wp2_with (at_builtin; refine append_list (by rfl) _ _ _ (by rfl) (w.heap.size + 1) 9 _ 16 Tryd.underlying34 info9 rfl _ 5 _ (by rfl) (hown1.alloc _) 1 [.string (str (numL a))] w1.heap.size (by rfl) rfl (heap_alloc_new _ _) (by simp [Value.oneCell']) (by omega) (by decide) (by decide) (by simp; omega) ?_; intro gg cap w2 hown2 hgrow hge hat)
  have hrow2 := (hrow1.alloc _).grown hgrow (by simp [Value.ownBlock]; omega)
  have hB2 : Below w.heap.size w w2 := (hB1.alloc (by omega) _).grown hgrow (by simp; omega) (by simp [Value.ownBlock]; omega)
  have hz2 : w.heap.size + 2 ≤ w2.heap.size := by have := hgrow.size; simp at this; omega
  have htW2 := tab_later htab'.out hB2
  replace hne : r ≠ gg := by rcases hat with hat | hat <;> simp [Value.ownBlock] at hat <;> omega
  clear hat hgrow hz1 hz0 hB1 hown1 hrow1
  have hown3 : w2.ownsRow (w.heap.size + 1) 9 1 (.slice (some ⟨gg, 0, none⟩) 6 cap) 6 (strs [headL false, wordL c0, Lib.itoa y0, wordL c1, Lib.itoa y1, numL a]) := by simpa [strs] using hown2
  clear hown2
  obtain ⟨hrow, hB, hz, hown, htW⟩ := And.intro hrow2 (And.intro hB2 (And.intro hz2 (And.intro hown3 htW2)))
  clear hrow2 hB2 hz2 hown3 htW2
  obtain ⟨W, rfl⟩ : ∃ W, W = w2 := ⟨_, rfl⟩
  obtain ⟨g2, rfl⟩ : ∃ g2, g2 = gg := ⟨_, rfl⟩
  -- number o
  rw [rounds_succ]
  have hr2 := hrow.2
  go_wp2_with fail
  refine (number_any o ko (by omega) _ (by exact htW)).mono ?_
  rintro e w1 ⟨rfl, hb⟩
  have hrow1 := hrow.later hb
  have hown1 := own_later hown hb
  have hB1 : Below w.heap.size w w1 := hB.trans (hb.mono hB.size)
  have hz1 : r < w1.heap.size := hrow1.1
  have hz0 : w.heap.size + 2 ≤ w1.heap.size := Nat.le_trans hz hb.size
  clear hb hrow hown hB hz htW hr2
  go_wp2_with (at_builtin; refine append_list (by rfl) _ _ _ (by rfl) (w.heap.size + 1) 9 _ 16 Tryd.underlying34 info9 rfl _ 6 _ (by rfl) (hown1.alloc _) 1 [.string (str (numL o))] w1.heap.size (by rfl) rfl (heap_alloc_new _ _) (by simp [Value.oneCell']) (by omega) (by decide) (by decide) (by simp; omega) ?_; intro gg cap w2 hown2 hgrow hge hat)
  have hrow2 := (hrow1.alloc _).grown hgrow (by simp [Value.ownBlock]; omega)
  have hB2 : Below w.heap.size w w2 := (hB1.alloc (by omega) _).grown hgrow (by simp; omega) (by simp [Value.ownBlock]; omega)
  have hz2 : w.heap.size + 2 ≤ w2.heap.size := by have := hgrow.size; simp at this; omega
  have htW2 := tab_later htab'.out hB2
  replace hne : r ≠ gg := by rcases hat with hat | hat <;> simp [Value.ownBlock] at hat <;> omega
  clear hat hgrow hz1 hz0 hB1 hown1 hrow1
  have hown3 : w2.ownsRow (w.heap.size + 1) 9 1 (.slice (some ⟨gg, 0, none⟩) 7 cap) 7 (strs [headL false, wordL c0, Lib.itoa y0, wordL c1, Lib.itoa y1, numL a, numL o]) := by simpa [strs] using hown2
  clear hown2
  obtain ⟨hrow, hB, hz, hown, htW⟩ := And.intro hrow2 (And.intro hB2 (And.intro hz2 (And.intro hown3 htW2)))
  clear hrow2 hB2 hz2 hown3 htW2
  obtain ⟨W, rfl⟩ : ∃ W, W = w2 := ⟨_, rfl⟩
  obtain ⟨g3, rfl⟩ : ∃ g3, g3 = gg := ⟨_, rfl⟩
  -- number g
  rw [rounds_succ]
  have hr2 := hrow.2
  go_wp2_with fail
  refine (number_any g kg (by omega) _ (by exact htW)).mono ?_
  rintro e w1 ⟨rfl, hb⟩
  have hrow1 := hrow.later hb
  have hown1 := own_later hown hb
  have hB1 : Below w.heap.size w w1 := hB.trans (hb.mono hB.size)
  have hz1 : r < w1.heap.size := hrow1.1
  have hz0 : w.heap.size + 2 ≤ w1.heap.size := Nat.le_trans hz hb.size
  clear hb hrow hown hB hz htW hr2
  go_wp2_with (at_builtin; refine append_list (by rfl) _ _ _ (by rfl) (w.heap.size + 1) 9 _ 16 Tryd.underlying34 info9 rfl _ 7 _ (by rfl) (hown1.alloc _) 1 [.string (str (numL g))] w1.heap.size (by rfl) rfl (heap_alloc_new _ _) (by simp [Value.oneCell']) (by omega) (by decide) (by decide) (by simp; omega) ?_; intro gg cap w2 hown2 hgrow hge hat)
  have hrow2 := (hrow1.alloc _).grown hgrow (by simp [Value.ownBlock]; omega)
  have hB2 : Below w.heap.size w w2 := (hB1.alloc (by omega) _).grown hgrow (by simp; omega) (by simp [Value.ownBlock]; omega)
  have hz2 : w.heap.size + 2 ≤ w2.heap.size := by have := hgrow.size; simp at this; omega
  have htW2 := tab_later htab'.out hB2
  replace hne : r ≠ gg := by rcases hat with hat | hat <;> simp [Value.ownBlock] at hat <;> omega
  clear hat hgrow hz1 hz0 hB1 hown1 hrow1
  have hown3 : w2.ownsRow (w.heap.size + 1) 9 1 (.slice (some ⟨gg, 0, none⟩) 8 cap) 8 (strs [headL false, wordL c0, Lib.itoa y0, wordL c1, Lib.itoa y1, numL a, numL o, numL g]) := by simpa [strs] using hown2
  clear hown2
  obtain ⟨hrow, hB, hz, hown, htW⟩ := And.intro hrow2 (And.intro hB2 (And.intro hz2 (And.intro hown3 htW2)))
  clear hrow2 hB2 hz2 hown3 htW2
  obtain ⟨W, rfl⟩ : ∃ W, W = w2 := ⟨_, rfl⟩
  obtain ⟨g4, rfl⟩ : ∃ g4, g4 = gg := ⟨_, rfl⟩
  rw [rounds_succ]
  have hr2 := hrow.2
  have hfit : fitsB c0 c1 y0 y1 a o g n = false := by simp [fitsB]; omega
  have hfit' := Lib.hid hfit; clear hfit
  go_wp2_with fail
  all_goals
    go_ret2
    exact ⟨by rw [hfit'.out]; rfl, hB⟩
end Go.Proofs.YtefhjioeceadlaaDoor
