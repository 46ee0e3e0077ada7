import Derived.Test.YtlhhpbpoioaagaaDoorRc
namespace Go.Proofs.YtlhhpbpoioaagaaDoor
set_option linter.unusedVariables false
set_option linter.unusedSimpArgs false
open Go.RowKit Go.Proofs.YtlhhpbpoioaagaaDoorW.PrintWords Go.Proofs.YtlhhpbpoioaagaaDoorW.PrintLast Go.Proofs.YtlhhpbpoioaagaaDoorW.PrintMore

theorem own_cell_at {w : World} {base n e : Nat} {v : Value} {l : List Tok} {A : Option Addr} {c : Nat} (h : w.ownsRow base e 5 v n (toks l)) (hv : v = .slice A n c) {i : Nat} {t : Tok} (ht : l[i]? = some t) :
    ∃ g, A = some ⟨g, 0, none⟩ ∧ ∀ j u, t.cells[j]? = some u → w.cell? ⟨g, i * 5 + j, none⟩ = some u := by
  have hlen : (toks l).length = n * 5 := h.1
  rcases h.2 with ⟨rfl, h2⟩ | ⟨g, cap, cur, rfl, hb, hg, _, _, _, htk⟩
  · exfalso
    have h3 := (List.getElem?_eq_some_iff.1 ht).1
    have h4 := toks_len l
    omega
  · cases hv
    refine ⟨g, rfl, fun j u hu => ?_⟩
    have hj : j < 5 := by have := (List.getElem?_eq_some_iff.1 hu).1; simpa [Tok.cells] using this
    have h3 := (toks_get l i j t ht hj).trans hu
    rw [blk_cell hg, ← Array.getElem?_toList]
    have h4 := (List.getElem?_eq_some_iff.1 h3).1
    rw [← htk, List.getElem?_take_of_lt (by omega)] at h3
    exact h3
theorem plainTok_calls (k : Int) (tx : ByteArray) (n a b : Int) (w : World) : Calls Tryd.prog 14 #[.agg #[.int .i64 k, .string tx, .int .i64 n, .int .i64 a, .int .i64 b]] w fun e w' => e = .returned (.agg #[.int .i64 k, .string tx, .int .i64 n, .int .i64 a, .int .i64 b]) ∧ Below w.heap.size w w' := by
  go_enter Tryd.func14, Tryd.ntmps14
  go_wp2
  refine bodyPost_ret (v := .agg #[.int .i64 k, .string tx, .int .i64 n, .int .i64 a, .int .i64 b]) (by simp [results, Tryd.results14, go_sem]) rfl ⟨rfl, ?_⟩
  repeat (first | exact Below.refl _ _ | refine Below.drew ?_ | refine Below.alloc ?_ (by simp <;> omega) _ | refine Below.setCell ?_ (by simp <;> omega) _)

set_option maxHeartbeats 4000000 in
set_option maxRecDepth 100000 in
theorem Scans_calls (s : ByteArray) (m : Int) (w : World) (hm : w.cell? ⟨0, 0, none⟩ = some (.int .i64 m)) : Calls Tryd.prog 3 #[.string s] w fun e w' => e = .returned (.bool true) ∧ Below w.heap.size w w' := by
  have hm0 := Lib.hid hm
  have hm' := World.block_lt_of_cell? w _ hm
  have hs0 := Lib.hid (Scan_calls s m w hm)
  have ha := Lib.hid (awake_calls m w hm)
  clear hm
  by_cases h0 : 3000 < s.size
  · have h0' : (3000 : Int) < (s.size : Int) := by omega
    by_cases h1 : s.size = 65537
    · have h1' : (s.size : Int) = 65537 := by omega
      have h2 : scanT s = (0, 0, 12, []) := by unfold scanT; rw [if_pos (by omega)]
      have h2' := Lib.hid h2; clear h2 h1
      clear ha
      go_enter Tryd.func3, Tryd.ntmps3
      go_wp2_with fail
      refine hs0.out.mono ?_
      rintro e w1 ⟨v, rfl, hv, hb⟩
      rw [h2'.out] at hv ⊢
      obtain ⟨A, c, rfl⟩ := own_slice hv
      have hB := Lib.hid (hb.alloc hb.size (.cells #[.int .i64 0, .int .i64 0] 25))
      have ha := Lib.hid (awake_calls m (w1.alloc (.cells #[.int .i64 0, .int .i64 0] 25)) (by rw [Below.cell hB.out hm']; exact hm0.out))
      clear hv hb
      go_wp2_with fail
      refine ha.out.mono ?_
      rintro e w2 ⟨rfl, hb2⟩
      go_wp2
      go_ret
      exact ⟨rfl, hB.out.trans (hb2.mono hB.out.size)⟩
    · have h1' : ((s.size : Int) == 65537) = false := by simp; omega
      (go_enter Tryd.func3, Tryd.ntmps3; go_wp2_with fail; refine ha.out.mono ?_; rintro e w1 ⟨rfl, hb⟩; go_wp2; go_ret; exact ⟨rfl, hb⟩)
  · have h0' : ¬ (3000 : Int) < (s.size : Int) := by omega
    have h65 : ¬ (65536 : Int) < (s.size : Int) := by omega
    have hr0 := Lib.hid (fun W => refScan_calls s (by omega) W)
    have hcap := scanT_room s
    have e : scanT s = linesT (linesOf s) 1 [] := by unfold scanT; rw [if_neg (by omega)]
    rw [e] at hs0 hcap
    generalize linesT (linesOf s) 1 [] = R at hs0 hr0 hcap
    obtain ⟨r1, r2, r3, L⟩ := R
    dsimp only at hcap
    clear e ha
    obtain ⟨N, hN⟩ : ∃ N, Hid (L.length = N) := ⟨_, Lib.hid rfl⟩
    rw [hN.out] at hcap
    go_enter Tryd.func3, Tryd.ntmps3
    go_wp2_with fail
    refine hs0.out.mono ?_
    rintro e w1 ⟨v, rfl, hv, hb⟩
    obtain ⟨A, c, rfl⟩ := own_slice hv
    dsimp only at hv ⊢
    have hv1 := Lib.hid (hv.alloc (.cells #[.int .i64 r1, .int .i64 r2] 25))
    have hB := Lib.hid (hb.alloc hb.size (.cells #[.int .i64 r1, .int .i64 r2] 25))
    have hbx := Lib.hid (blk_new w1 (.cells #[.int .i64 r1, .int .i64 r2] 25))
    have hz := hb.size
    clear hv hb
    go_wp2_with fail
    refine (hr0.out _).mono ?_
    rintro e w2 ⟨v2, rfl, hv2, hb2⟩
    obtain ⟨A2, c2, rfl⟩ := own_slice hv2
    dsimp only at hv2 ⊢
    have hv1' := Lib.hid ((own_later hv1.out hb2).alloc (.cells #[.int .i64 r1, .int .i64 r2] 30))
    have hv2' := Lib.hid (hv2.alloc (.cells #[.int .i64 r1, .int .i64 r2] 30))
    have hz2 : w1.heap.size < w2.heap.size := by have := hb2.size; simp at this; omega
    have hB2 := Lib.hid ((hB.out.trans (hb2.mono (by simp; omega))).alloc (by omega) (.cells #[.int .i64 r1, .int .i64 r2] 30))
    have hbx2 := Lib.hid (blk_below hbx.out hb2)
    have x0 : w2.cell? ⟨w1.heap.size, 0, none⟩ = some (.int .i64 r1) := (blk_cell hbx2.out 0).trans rfl
    have x1 : w2.cell? ⟨w1.heap.size, 1, none⟩ = some (.int .i64 r2) := (blk_cell hbx2.out 1).trans rfl
    have hne : w1.heap.size ≠ w2.heap.size := by omega
    clear hv2 hb2 hv1 hB hbx
    rw [hN.out]
    rw [hN.out] at hv1' hv2'
    go_wp2_with fail
    go_loopg [9] N (fun kq v9 w' => ∃ i : Nat, v9 = .int .i64 (i : Int) ∧ Hid (N - i = kq) ∧ Hid (i ≤ N) ∧ Hid (w'.ownsRow w.heap.size 37 5 (.slice A N c) N (toks L)) ∧ Hid (w'.ownsRow (w1.heap.size + 1) 34 5 (.slice A2 N c2) N (toks L)) ∧ Hid (Below w.heap.size w w'))
    case atStart => exact ⟨0, rfl, Lib.hid rfl, Lib.hid (Nat.zero_le _), hv1', by simpa using hv2', hB2⟩
    case round =>
      obtain ⟨i, rfl, hk, hi, h1, h2, hBr⟩ := hrel
      clear hv1' hv2' hB2 x0 x1 hbx2
      by_cases c1 : i < N
      · have c1' : (i : Int) < (N : Int) := by omega
        obtain ⟨k1, rfl⟩ : ∃ k1, gk = k1 + 1 := ⟨gk - 1, by have := hk.out; omega⟩
        obtain ⟨t, ht⟩ : ∃ t, L[i]? = some t := ⟨_, List.getElem?_eq_getElem (by rw [hN.out]; exact c1)⟩
        obtain ⟨g, rfl, hc⟩ := own_cell h1.out rfl ht
        obtain ⟨g', rfl, hc'⟩ := own_cell_at h2.out rfl ht
        obtain ⟨tk, tx, tn, tl, tc⟩ := t
        have x0 := later_cell (hc 0 _ rfl)
        have x1 := later_cell (hc 1 _ rfl)
        have x2 := later_cell (hc 2 _ rfl)
        have x3 := later_cell (hc 3 _ rfl)
        have x4 := later_cell (hc 4 _ rfl)
        have y0 := later_cell (hc' 0 _ rfl)
        have y1 := later_cell (hc' 1 _ rfl)
        have y2 := later_cell (hc' 2 _ rfl)
        have y3 := later_cell (hc' 3 _ rfl)
        have y4 := later_cell (hc' 4 _ rfl)
        dsimp only [Tok.cells] at x0 x1 x2 x3 x4 y0 y1 y2 y3 y4
        rw [Nat.add_zero] at x0 y0
        clear hc hc'
        have ht1 := Lib.hid ht; clear ht
        go_wp2_with fail
        refine wp_region_later (by kernel_rfl) (by kernel_rfl) ?_
        repeat (quiet_step ((go_at_call 14; exact Calls.later_of (plainTok_calls tk tx tn tl tc _))))
        refine wpQuiet_nil ?_
        intro W2 ⟨pw, hpw⟩
        have hq : Below wr.heap.size wr W2 := by rw [hpw]; exact pw.h
        clear hpw pw x0 x1 x2 x3 x4 y0 y1 y2 y3 y4
        go_wp2_with fail
        go_roundg k1
        case measure => omega
        case rel => exact ⟨i + 1, by simp, Lib.hid (by have := hk.out; omega), Lib.hid (by omega), Lib.hid (own_later h1.out hq), Lib.hid (own_later h2.out hq), Lib.hid (hBr.out.trans (hq.mono hBr.out.size))⟩
      · have c1' : ¬ (i : Int) < (N : Int) := by omega
        have ha := Lib.hid (awake_calls m wr (by rw [Below.cell hBr.out hm']; exact hm0.out))
        go_wp2_with fail
        refine ha.out.mono ?_
        rintro e w3 ⟨rfl, hb3⟩
        go_wp2
        go_ret
        exact ⟨rfl, hBr.out.trans (hb3.mono hBr.out.size)⟩
end Go.Proofs.YtlhhpbpoioaagaaDoor
