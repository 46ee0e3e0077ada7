import Derived.Test.YtefhjioeceadlaaDoorWe
import Derived.Test.YtefhjioeceadlaaDoorWf
namespace Go.Proofs.YtefhjioeceadlaaDoor
open Go.RowKit

theorem text_any (l : Bool) (c0 c1 y0 y1 a o g n : Int) (w : World) (m0 : y0 ≤ 9223372036854775807) (m1 : y1 ≤ 9223372036854775807) (ma : a ≤ 9223372036854775807) (mo : o ≤ 9223372036854775807) (mg : g ≤ 9223372036854775807) (mn : n ≤ 9223372036854775807)
    (htab : Lib.TabIs Tryd.prog w "internal/strconv.uint64pow10" .u64 Lib.pow10Tab) : Calls Tryd.prog 5 #[.agg #[.bool l, .int .i64 c0, .int .i64 c1, .int .i64 y0, .int .i64 y1, .int .i64 a, .int .i64 o, .int .i64 g, .int .i64 n]] w (TextPost l c0 c1 y0 y1 a o g n w) := by
  by_cases b0 : c0 < 0 ∨ 3 < c0 ∨ y0 < 0
  · cases l
    · exact bad_c0_false c0 c1 y0 y1 a o g n w m0 m1 ma mo mg mn htab b0
    · exact bad_c0_true c0 c1 y0 y1 a o g n w m0 m1 ma mo mg mn htab b0
  by_cases b1 : c1 < 0 ∨ 3 < c1 ∨ y1 < 0
  · cases l
    · exact bad_c1_false c0 c1 y0 y1 a o g n w m0 m1 ma mo mg mn htab (by omega) (by omega) (by omega) b1
    · exact bad_c1_true c0 c1 y0 y1 a o g n w m0 m1 ma mo mg mn htab (by omega) (by omega) (by omega) b1
  by_cases b2 : a < -1
  · cases l
    · exact bad_a_false c0 c1 y0 y1 a o g n w m0 m1 ma mo mg mn htab (by omega) (by omega) (by omega) (by omega) (by omega) (by omega) b2
    · exact bad_a_true c0 c1 y0 y1 a o g n w m0 m1 ma mo mg mn htab (by omega) (by omega) (by omega) (by omega) (by omega) (by omega) b2
  by_cases b3 : o < -1
  · cases l
    · exact bad_o_false c0 c1 y0 y1 a o g n w m0 m1 ma mo mg mn htab (by omega) (by omega) (by omega) (by omega) (by omega) (by omega) (by omega) b3
    · exact bad_o_true c0 c1 y0 y1 a o g n w m0 m1 ma mo mg mn htab (by omega) (by omega) (by omega) (by omega) (by omega) (by omega) (by omega) b3
  by_cases b4 : g < -1
  · cases l
    · exact bad_g_false c0 c1 y0 y1 a o g n w m0 m1 ma mo mg mn htab (by omega) (by omega) (by omega) (by omega) (by omega) (by omega) (by omega) (by omega) b4
    · exact bad_g_true c0 c1 y0 y1 a o g n w m0 m1 ma mo mg mn htab (by omega) (by omega) (by omega) (by omega) (by omega) (by omega) (by omega) (by omega) b4
  by_cases b5 : n < -1
  · cases l
    · exact bad_n_false c0 c1 y0 y1 a o g n w m0 m1 ma mo mg mn htab (by omega) (by omega) (by omega) (by omega) (by omega) (by omega) (by omega) (by omega) (by omega) b5
    · exact bad_n_true c0 c1 y0 y1 a o g n w m0 m1 ma mo mg mn htab (by omega) (by omega) (by omega) (by omega) (by omega) (by omega) (by omega) (by omega) (by omega) b5
  cases l
  · exact text_false c0 c1 y0 y1 a o g n w m0 m1 ma mo mg mn htab (by omega) (by omega) (by omega) (by omega) (by omega) (by omega) (by omega) (by omega) (by omega) (by omega)
  · exact text_true c0 c1 y0 y1 a o g n w m0 m1 ma mo mg mn htab (by omega) (by omega) (by omega) (by omega) (by omega) (by omega) (by omega) (by omega) (by omega) (by omega)

theorem text_fits {l : Bool} {c0 c1 y0 y1 a o g n : Int} {w : World} {e : Ending} {w' : World} (hf : fitsB c0 c1 y0 y1 a o g n = true) (h : TextPost l c0 c1 y0 y1 a o g n w e w') :
    e = .returned (.tuple #[.string (str (textL l c0 c1 y0 y1 a o g n)), .int .i64 0]) ∧ Below w.heap.size w w' := by
  obtain ⟨h1, h2⟩ := h; rw [hf] at h1; exact ⟨h1, h2⟩
theorem text_bad {l : Bool} {c0 c1 y0 y1 a o g n : Int} {w : World} {e : Ending} {w' : World} (hf : fitsB c0 c1 y0 y1 a o g n = false) (h : TextPost l c0 c1 y0 y1 a o g n w e w') :
    e = .returned (.tuple #[.string ⟨#[]⟩, .int .i64 10]) ∧ Below w.heap.size w w' := by
  obtain ⟨h1, h2⟩ := h; rw [hf] at h1; exact ⟨h1, h2⟩

set_option maxHeartbeats 1000000 in
theorem holds_r (l : Bool) (c0 c1 y0 y1 a o g n : Int) (w : World) :
    Calls Tryd.prog 11 #[.agg #[.bool l, .int .i64 c0, .int .i64 c1, .int .i64 y0, .int .i64 y1, .int .i64 a, .int .i64 o, .int .i64 g, .int .i64 n]] w fun e w' => e = .returned (.bool (holdsB l c0 c1 y0 y1 a o g n)) ∧ Below w.heap.size w w' := by
  cases l with
  | false =>
    go_enter Tryd.func11, Tryd.ntmps11
    go_wp2
    go_ret
    exact ⟨by simp [holdsB], (by repeat (first | exact Below.refl _ _ | refine Below.drew ?_ | refine below_drewN ?_ _ | refine Below.alloc ?_ (by simp <;> omega) _ | refine Below.setCell ?_ (by simp <;> omega) _ | assumption | (refine Below.trans ?_ (Below.mono (by assumption) (by simp <;> omega)))))⟩
  | true =>
    cases hq : quietB c0 with
    | false =>
      have hq' := Lib.hid hq; clear hq
      go_enter Tryd.func11, Tryd.ntmps11
      go_wp2_with (go_at_call 7; refine (quiet_r _ _ _ _ _ _ _ _ _ _).mono ?_; rintro e w' ⟨rfl, hb⟩; rw [hq'.out])
      go_ret
      exact ⟨by simp [holdsB, hq'.out], (by repeat (first | exact Below.refl _ _ | refine Below.drew ?_ | refine below_drewN ?_ _ | refine Below.alloc ?_ (by simp <;> omega) _ | refine Below.setCell ?_ (by simp <;> omega) _ | assumption | (refine Below.trans ?_ (Below.mono (by assumption) (by simp <;> omega)))))⟩
    | true =>
      have hq' := Lib.hid hq; clear hq
      go_enter Tryd.func11, Tryd.ntmps11
      go_wp2_with (first | (go_at_call 7; refine (quiet_r _ _ _ _ _ _ _ _ _ _).mono ?_; rintro e w' ⟨rfl, hb⟩; rw [hq'.out]; have hc := bcell hb; have hz : w.heap.size + 1 ≤ w'.heap.size := by have := hb.size; simpa using this) | (go_at_call 9; refine (same_r _ _ _ _ _ _ _ _ _ _).mono ?_; rintro e w'' ⟨rfl, hb2⟩; have hb3 := hb.trans (hb2.mono hb.size)))
      all_goals (go_ret; exact ⟨by simp [holdsB, hq'.out, *], (by repeat (first | exact Below.refl _ _ | refine Below.drew ?_ | refine below_drewN ?_ _ | refine Below.alloc ?_ (by simp <;> omega) _ | refine Below.setCell ?_ (by simp <;> omega) _ | assumption | (refine Below.trans ?_ (Below.mono (by assumption) (by simp <;> omega)))))⟩)

theorem awake_text : str (textL true 0 0 5 5 (-1) (-1) (-1) (-1)) = ⟨#[108, 111, 119, 32, 100, 111, 110, 101, 32, 53, 32, 100, 111, 110, 101, 32, 53, 32, 45, 32, 45, 32, 45, 32, 45]⟩ := by
  simp [textL, headL, wordL, placeL, Lib.decDigits, str]

set_option maxHeartbeats 1000000 in
theorem awake_c (w : World) (htab : Lib.TabIs Tryd.prog w "internal/strconv.uint64pow10" .u64 Lib.pow10Tab) :
    Calls Tryd.prog 13 #[] w fun e w' => e = .returned (.bool true) ∧ Below w.heap.size w w' := by
  have htab' := Lib.hid htab; clear htab
  go_enter Tryd.func13, Tryd.ntmps13
  go_wp2_with fail
  refine (text_any _ _ _ _ _ _ _ _ _ _ (by omega) (by omega) (by omega) (by omega) (by omega) (by omega) htab'.out).mono ?_
  intro e w1 h
  obtain ⟨rfl, hb⟩ := text_fits (by decide) h
  rw [awake_text]
  go_wp2_with fail
  refine (same_c _ _ _ _ _ _ _ _ _ _).mono ?_
  rintro e w2 ⟨rfl, hb2⟩
  rw [show sameB 0 0 0 0 (-1) (-1) = true by decide]
  go_wp2_with fail
  refine (same_c _ _ _ _ _ _ _ _ _ _).mono ?_
  rintro e w3 ⟨rfl, hb3⟩
  rw [show sameB 0 0 0 0 0 0 = false by decide]
  go_wp2_with fail
  go_ret
  exact ⟨rfl, hb.trans ((hb2.mono hb.size).trans (hb3.mono (Nat.le_trans hb.size hb2.size)))⟩

def TwoBox (b b2 : Nat) (cs : Array Value) (w : World) : Prop := BoxAt b cs w ∧ BoxAt b2 cs w
theorem TwoBox.later {b b2 : Nat} {cs : Array Value} {w w1 : World} (h : TwoBox b b2 cs w) (hb : Below w.heap.size w w1) : TwoBox b b2 cs w1 := ⟨h.1.later hb, h.2.later hb⟩

set_option maxHeartbeats 2000000 in
theorem law_c (l : Bool) (c0 c1 y0 y1 a o g n : Int) (w : World) (m0 : y0 ≤ 9223372036854775807) (m1 : y1 ≤ 9223372036854775807) (ma : a ≤ 9223372036854775807) (mo : o ≤ 9223372036854775807) (mg : g ≤ 9223372036854775807) (mn : n ≤ 9223372036854775807)
    (htab : Lib.TabIs Tryd.prog w "internal/strconv.uint64pow10" .u64 Lib.pow10Tab) : Calls Tryd.prog 3 #[.agg #[.bool l, .int .i64 c0, .int .i64 c1, .int .i64 y0, .int .i64 y1, .int .i64 a, .int .i64 o, .int .i64 g, .int .i64 n]] w fun e w' => e = .returned (.bool true) ∧ Below w.heap.size w w' := by
  have htab' := Lib.hid htab; clear htab
  go_enter Tryd.func3, Tryd.ntmps3
  go_wp2_with fail
  refine (plain_c _ _ _ _ _ _ _ _ _ _).mono ?_
  rintro e w1 ⟨rfl, hb⟩
  have hbox0 : BoxAt w.heap.size (#[.bool l, .int .i64 c0, .int .i64 c1, .int .i64 y0, .int .i64 y1, .int .i64 a, .int .i64 o, .int .i64 g, .int .i64 n]) w1 := (BoxAt.new _ _ _).later hb
  have hB1 : Below w.heap.size w w1 := ((Below.refl _ _).alloc (Nat.le_refl _) _).trans (hb.mono (by simp))
  have hz1 : w.heap.size + 1 ≤ w1.heap.size := by have := hb.size; simpa using this
  clear hb
  have hc0 := hbox0.2
  have hlt := hbox0.1
  go_wp2_with fail
  refine (text_any _ _ _ _ _ _ _ _ _ _ m0 m1 ma mo mg mn (tab_later htab'.out (hB1.alloc hB1.size _))).mono ?_
  intro e w2 ht
  have hT0 : TwoBox w.heap.size w1.heap.size (#[.bool l, .int .i64 c0, .int .i64 c1, .int .i64 y0, .int .i64 y1, .int .i64 a, .int .i64 o, .int .i64 g, .int .i64 n]) (w1.alloc (.cells (#[.bool l, .int .i64 c0, .int .i64 c1, .int .i64 y0, .int .i64 y1, .int .i64 a, .int .i64 o, .int .i64 g, .int .i64 n]) 25)) := ⟨hbox0.alloc _, BoxAt.new _ _ _⟩
  cases hf : fitsB c0 c1 y0 y1 a o g n
  · have hf' := Lib.hid hf; clear hf
    obtain ⟨rfl, hb⟩ := text_bad hf'.out ht
    have hT := hT0.later hb
    have hB : Below w.heap.size w w2 := (hB1.alloc hB1.size _).trans (hb.mono (hB1.alloc hB1.size _).size)
    clear ht hT0 hB1 hb hc0 hlt hbox0 hz1
    generalize w1.heap.size = b2 at hT ⊢
    go_wp2_with fail
    have hS1 : ∀ (p : Mix.Keeps (TwoBox w.heap.size b2 (#[.bool l, .int .i64 c0, .int .i64 c1, .int .i64 y0, .int .i64 y1, .int .i64 a, .int .i64 o, .int .i64 g, .int .i64 n]))) i, p.w.cell? ⟨w.heap.size, i, none⟩ = (#[.bool l, .int .i64 c0, .int .i64 c1, .int .i64 y0, .int .i64 y1, .int .i64 a, .int .i64 o, .int .i64 g, .int .i64 n] : Array Value)[i]? := fun p i => p.h.1.2 i
    have hS2 : ∀ (p : Mix.Keeps (TwoBox w.heap.size b2 (#[.bool l, .int .i64 c0, .int .i64 c1, .int .i64 y0, .int .i64 y1, .int .i64 a, .int .i64 o, .int .i64 g, .int .i64 n]))) i, p.w.cell? ⟨b2, i, none⟩ = (#[.bool l, .int .i64 c0, .int .i64 c1, .int .i64 y0, .int .i64 y1, .int .i64 a, .int .i64 o, .int .i64 g, .int .i64 n] : Array Value)[i]? := fun p i => p.h.2.2 i
    have hNE : Nonempty (Mix.Keeps (TwoBox w.heap.size b2 (#[.bool l, .int .i64 c0, .int .i64 c1, .int .i64 y0, .int .i64 y1, .int .i64 a, .int .i64 o, .int .i64 g, .int .i64 n]))) := ⟨⟨_, hT⟩⟩
    refine Mix.wp_region (TwoBox w.heap.size b2 (#[.bool l, .int .i64 c0, .int .i64 c1, .int .i64 y0, .int .i64 y1, .int .i64 a, .int .i64 o, .int .i64 g, .int .i64 n])) (fun k => k == 1 || k == 3 || k == 7 || k == 9 || k == 14 || k == 16) (by kernel_rfl) (by kernel_rfl) (by kernel_rfl) hT ?_
    repeat (refine Mix.walk_read rfl (fun K hK => ?_); go_simp; refine hK _ ?_; clear hK K)
    refine Mix.walk_eff rfl (fun K hK => ?_)
    go_simp
    refine (quiet_c _ _ _ _ _ _ _ _ _ _).mono ?_
    rintro e w9 ⟨rfl, hb⟩
    replace hb := below_of_drew hb
    replace hB := hB.trans (hb.mono hB.size)
    replace hT := hT.later hb
    refine hK _ _ ⟨⟨_, hT⟩, rfl⟩ ?_
    clear hK K hb
    obtain ⟨W, rfl⟩ : ∃ W, W = w9 := ⟨_, rfl⟩
    repeat (refine Mix.walk_read rfl (fun K hK => ?_); go_simp; refine hK _ ?_; clear hK K)
    refine Mix.walk_eff rfl (fun K hK => ?_)
    go_simp
    refine (quiet_r _ _ _ _ _ _ _ _ _ _).mono ?_
    rintro e w9 ⟨rfl, hb⟩
    replace hB := hB.trans (hb.mono hB.size)
    replace hT := hT.later hb
    refine hK _ _ ⟨⟨_, hT⟩, rfl⟩ ?_
    clear hK K hb
    obtain ⟨W, rfl⟩ : ∃ W, W = w9 := ⟨_, rfl⟩
    repeat (refine Mix.walk_read rfl (fun K hK => ?_); go_simp; refine hK _ ?_; clear hK K)
    refine Mix.walk_eff rfl (fun K hK => ?_)
    go_simp
    refine (same_c _ _ _ _ _ _ _ _ _ _).mono ?_
    rintro e w9 ⟨rfl, hb⟩
    replace hB := hB.trans (hb.mono hB.size)
    replace hT := hT.later hb
    refine hK _ _ ⟨⟨_, hT⟩, rfl⟩ ?_
    clear hK K hb
    obtain ⟨W, rfl⟩ : ∃ W, W = w9 := ⟨_, rfl⟩
    repeat (refine Mix.walk_read rfl (fun K hK => ?_); go_simp; refine hK _ ?_; clear hK K)
    refine Mix.walk_eff rfl (fun K hK => ?_)
    go_simp
    refine (same_r _ _ _ _ _ _ _ _ _ _).mono ?_
    rintro e w9 ⟨rfl, hb⟩
    replace hB := hB.trans (hb.mono hB.size)
    replace hT := hT.later hb
    refine hK _ _ ⟨⟨_, hT⟩, rfl⟩ ?_
    clear hK K hb
    obtain ⟨W, rfl⟩ : ∃ W, W = w9 := ⟨_, rfl⟩
    repeat (refine Mix.walk_read rfl (fun K hK => ?_); go_simp; refine hK _ ?_; clear hK K)
    refine Mix.walk_eff rfl (fun K hK => ?_)
    go_simp
    refine (holds_c _ _ _ _ _ _ _ _ _ _).mono ?_
    rintro e w9 ⟨rfl, hb⟩
    replace hB := hB.trans (hb.mono hB.size)
    replace hT := hT.later hb
    refine hK _ _ ⟨⟨_, hT⟩, rfl⟩ ?_
    clear hK K hb
    obtain ⟨W, rfl⟩ : ∃ W, W = w9 := ⟨_, rfl⟩
    repeat (refine Mix.walk_read rfl (fun K hK => ?_); go_simp; refine hK _ ?_; clear hK K)
    refine Mix.walk_eff rfl (fun K hK => ?_)
    go_simp
    refine (holds_r _ _ _ _ _ _ _ _ _ _).mono ?_
    rintro e w9 ⟨rfl, hb⟩
    replace hB := hB.trans (hb.mono hB.size)
    replace hT := hT.later hb
    refine hK _ _ ⟨⟨_, hT⟩, rfl⟩ ?_
    clear hK K hb
    obtain ⟨W, rfl⟩ : ∃ W, W = w9 := ⟨_, rfl⟩
    repeat (refine Mix.walk_read rfl (fun K hK => ?_); go_simp; refine hK _ ?_; clear hK K)
    refine Mix.walk_nil ?_
    clear hS1 hS2 hNE
    have hc1 := hT.1.2
    have hc2 := hT.2.2
    go_wp2_with fail
    refine (fits_r _ _ _ _ _ _ _ _ _ _).mono ?_
    rintro e w9 ⟨rfl, hb⟩
    replace hB := hB.trans (hb.mono hB.size)
    replace hT := hT.later hb
    clear hb hc1 hc2
    obtain ⟨W, rfl⟩ : ∃ W, W = w9 := ⟨_, rfl⟩
    rw [hf'.out]
    go_wp2_with fail
    refine (awake_c _ (tab_later htab'.out hB)).mono ?_
    rintro e w9 ⟨rfl, hb⟩
    replace hB := hB.trans (hb.mono hB.size)
    go_wp2_with fail
    go_ret
    exact ⟨rfl, hB⟩
  · have hf' := Lib.hid hf; clear hf
    obtain ⟨rfl, hb⟩ := text_fits hf'.out ht
    have hT := hT0.later hb
    have hB : Below w.heap.size w w2 := (hB1.alloc hB1.size _).trans (hb.mono (hB1.alloc hB1.size _).size)
    clear ht hT0 hB1 hb hc0 hlt hbox0 hz1
    generalize w1.heap.size = b2 at hT ⊢
    generalize hgs : str (textL l c0 c1 y0 y1 a o g n) = S
    have hgs' := Lib.hid hgs; clear hgs
    go_wp2_with fail
    have hS1 : ∀ (p : Mix.Keeps (TwoBox w.heap.size b2 (#[.bool l, .int .i64 c0, .int .i64 c1, .int .i64 y0, .int .i64 y1, .int .i64 a, .int .i64 o, .int .i64 g, .int .i64 n]))) i, p.w.cell? ⟨w.heap.size, i, none⟩ = (#[.bool l, .int .i64 c0, .int .i64 c1, .int .i64 y0, .int .i64 y1, .int .i64 a, .int .i64 o, .int .i64 g, .int .i64 n] : Array Value)[i]? := fun p i => p.h.1.2 i
    have hS2 : ∀ (p : Mix.Keeps (TwoBox w.heap.size b2 (#[.bool l, .int .i64 c0, .int .i64 c1, .int .i64 y0, .int .i64 y1, .int .i64 a, .int .i64 o, .int .i64 g, .int .i64 n]))) i, p.w.cell? ⟨b2, i, none⟩ = (#[.bool l, .int .i64 c0, .int .i64 c1, .int .i64 y0, .int .i64 y1, .int .i64 a, .int .i64 o, .int .i64 g, .int .i64 n] : Array Value)[i]? := fun p i => p.h.2.2 i
    have hNE : Nonempty (Mix.Keeps (TwoBox w.heap.size b2 (#[.bool l, .int .i64 c0, .int .i64 c1, .int .i64 y0, .int .i64 y1, .int .i64 a, .int .i64 o, .int .i64 g, .int .i64 n]))) := ⟨⟨_, hT⟩⟩
    refine Mix.wp_region (TwoBox w.heap.size b2 (#[.bool l, .int .i64 c0, .int .i64 c1, .int .i64 y0, .int .i64 y1, .int .i64 a, .int .i64 o, .int .i64 g, .int .i64 n])) (fun k => k == 1 || k == 3 || k == 7 || k == 9 || k == 14 || k == 16) (by kernel_rfl) (by kernel_rfl) (by kernel_rfl) hT ?_
    repeat (refine Mix.walk_read rfl (fun K hK => ?_); go_simp; refine hK _ ?_; clear hK K)
    refine Mix.walk_eff rfl (fun K hK => ?_)
    go_simp
    refine (quiet_c _ _ _ _ _ _ _ _ _ _).mono ?_
    rintro e w9 ⟨rfl, hb⟩
    replace hb := below_of_drew hb
    replace hB := hB.trans (hb.mono hB.size)
    replace hT := hT.later hb
    refine hK _ _ ⟨⟨_, hT⟩, rfl⟩ ?_
    clear hK K hb
    obtain ⟨W, rfl⟩ : ∃ W, W = w9 := ⟨_, rfl⟩
    repeat (refine Mix.walk_read rfl (fun K hK => ?_); go_simp; refine hK _ ?_; clear hK K)
    refine Mix.walk_eff rfl (fun K hK => ?_)
    go_simp
    refine (quiet_r _ _ _ _ _ _ _ _ _ _).mono ?_
    rintro e w9 ⟨rfl, hb⟩
    replace hB := hB.trans (hb.mono hB.size)
    replace hT := hT.later hb
    refine hK _ _ ⟨⟨_, hT⟩, rfl⟩ ?_
    clear hK K hb
    obtain ⟨W, rfl⟩ : ∃ W, W = w9 := ⟨_, rfl⟩
    repeat (refine Mix.walk_read rfl (fun K hK => ?_); go_simp; refine hK _ ?_; clear hK K)
    refine Mix.walk_eff rfl (fun K hK => ?_)
    go_simp
    refine (same_c _ _ _ _ _ _ _ _ _ _).mono ?_
    rintro e w9 ⟨rfl, hb⟩
    replace hB := hB.trans (hb.mono hB.size)
    replace hT := hT.later hb
    refine hK _ _ ⟨⟨_, hT⟩, rfl⟩ ?_
    clear hK K hb
    obtain ⟨W, rfl⟩ : ∃ W, W = w9 := ⟨_, rfl⟩
    repeat (refine Mix.walk_read rfl (fun K hK => ?_); go_simp; refine hK _ ?_; clear hK K)
    refine Mix.walk_eff rfl (fun K hK => ?_)
    go_simp
    refine (same_r _ _ _ _ _ _ _ _ _ _).mono ?_
    rintro e w9 ⟨rfl, hb⟩
    replace hB := hB.trans (hb.mono hB.size)
    replace hT := hT.later hb
    refine hK _ _ ⟨⟨_, hT⟩, rfl⟩ ?_
    clear hK K hb
    obtain ⟨W, rfl⟩ : ∃ W, W = w9 := ⟨_, rfl⟩
    repeat (refine Mix.walk_read rfl (fun K hK => ?_); go_simp; refine hK _ ?_; clear hK K)
    refine Mix.walk_eff rfl (fun K hK => ?_)
    go_simp
    refine (holds_c _ _ _ _ _ _ _ _ _ _).mono ?_
    rintro e w9 ⟨rfl, hb⟩
    replace hB := hB.trans (hb.mono hB.size)
    replace hT := hT.later hb
    refine hK _ _ ⟨⟨_, hT⟩, rfl⟩ ?_
    clear hK K hb
    obtain ⟨W, rfl⟩ : ∃ W, W = w9 := ⟨_, rfl⟩
    repeat (refine Mix.walk_read rfl (fun K hK => ?_); go_simp; refine hK _ ?_; clear hK K)
    refine Mix.walk_eff rfl (fun K hK => ?_)
    go_simp
    refine (holds_r _ _ _ _ _ _ _ _ _ _).mono ?_
    rintro e w9 ⟨rfl, hb⟩
    replace hB := hB.trans (hb.mono hB.size)
    replace hT := hT.later hb
    refine hK _ _ ⟨⟨_, hT⟩, rfl⟩ ?_
    clear hK K hb
    obtain ⟨W, rfl⟩ : ∃ W, W = w9 := ⟨_, rfl⟩
    repeat (refine Mix.walk_read rfl (fun K hK => ?_); go_simp; refine hK _ ?_; clear hK K)
    refine Mix.walk_nil ?_
    clear hS1 hS2 hNE
    have hc1 := hT.1.2
    have hc2 := hT.2.2
    go_wp2_with fail
    refine (fits_r _ _ _ _ _ _ _ _ _ _).mono ?_
    rintro e w9 ⟨rfl, hb⟩
    replace hB := hB.trans (hb.mono hB.size)
    replace hT := hT.later hb
    clear hb hc1 hc2
    obtain ⟨W, rfl⟩ : ∃ W, W = w9 := ⟨_, rfl⟩
    rw [hf'.out]
    have hc2 := hT.2.2
    go_wp2_with fail
    have hfd := hf'.out
    simp only [fitsB, decide_eq_true_eq] at hfd
    refine (text_r _ _ _ _ _ _ _ _ _ _ (by omega) (by omega) (by omega) (by omega) (by omega) (by omega) m0 m1 ma mo mg mn).mono ?_
    rintro e w9 ⟨rfl, hb⟩
    rw [hgs'.out]
    clear hfd
    replace hB := hB.trans (hb.mono hB.size)
    clear hb hc2 hT
    obtain ⟨W, rfl⟩ : ∃ W, W = w9 := ⟨_, rfl⟩
    go_wp2_with fail
    refine (awake_c _ (tab_later htab'.out hB)).mono ?_
    rintro e w9 ⟨rfl, hb⟩
    replace hB := hB.trans (hb.mono hB.size)
    go_wp2_with fail
    go_ret
    exact ⟨rfl, hB⟩
end Go.Proofs.YtefhjioeceadlaaDoor
