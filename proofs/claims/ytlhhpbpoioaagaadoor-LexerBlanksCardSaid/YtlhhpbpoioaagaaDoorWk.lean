import Derived.Test.YtlhhpbpoioaagaaDoorWi
import Derived.Test.YtlhhpbpoioaagaaDoorBlanks
namespace Go.Proofs.YtlhhpbpoioaagaaDoor
set_option linter.unusedVariables false
set_option linter.unusedSimpArgs false
open Go.RowKit Go.Proofs.YtlhhpbpoioaagaaDoorW.PrintWords Go.Proofs.YtlhhpbpoioaagaaDoorW.PrintLast Go.Proofs.YtlhhpbpoioaagaaDoorW.PrintMore

theorem bare_calls (k : Int) (tx : ByteArray) (n a b : Int) (w : World) : Calls Tryd.prog 31 #[.agg #[.int .i64 k, .string tx, .int .i64 n, .int .i64 a, .int .i64 b]] w fun e w' => e = .returned (.agg #[.int .i64 k, .string tx, .int .i64 n, .int .i64 0, .int .i64 0]) ∧ Below w.heap.size w w' := by
  go_enter Tryd.func31, Tryd.ntmps31
  go_wp2
  refine bodyPost_ret (v := .agg #[.int .i64 k, .string tx, .int .i64 n, .int .i64 0, .int .i64 0]) (by simp [results, Tryd.results31, go_sem]) rfl ⟨rfl, ?_⟩
  repeat (first | exact Below.refl _ _ | refine Below.drew ?_ | refine Below.alloc ?_ (by simp <;> omega) _ | refine Below.setCell ?_ (by simp <;> omega) _)

set_option maxHeartbeats 1000000 in
set_option maxRecDepth 100000 in
theorem same_calls (l l' : List Tok) (hsim : Sim l l') (b b' : Nat) (A A' : Option Addr) (c c' : Nat) (w : World) (h1 : w.ownsRow b 37 5 (.slice A l.length c) l.length (toks l)) (h2 : w.ownsRow b' 37 5 (.slice A' l'.length c') l'.length (toks l')) (hcap : l.length ≤ 100000000) :
    Calls Tryd.prog 15 #[.slice A l.length c, .slice A' l'.length c'] w fun e w' => e = .returned (.bool true) ∧ Below w.heap.size w w' := by
  have hlen : l.length = l'.length := by unfold Sim at hsim; simpa using congrArg List.length hsim
  rw [← hlen] at h2 ⊢
  have hsim' := Lib.hid hsim; clear hsim
  have h1' := Lib.hid h1; clear h1
  have h2' := Lib.hid h2; clear h2
  have hlen' := Lib.hid hlen; clear hlen
  generalize hN : l.length = N at *
  have hN' := Lib.hid hN; clear hN
  obtain ⟨w0, hw0⟩ : ∃ w0, Hid (w = w0) := ⟨_, Lib.hid rfl⟩
  go_enter Tryd.func15, Tryd.ntmps15
  go_wp2_with fail
  go_loopg [5] N (fun kq v5 w' => ∃ i : Nat, v5 = .int .i64 (i : Int) ∧ Hid (N - i = kq) ∧ Hid (i ≤ N) ∧ Hid (w'.ownsRow b 37 5 (.slice A N c) N (toks l)) ∧ Hid (w'.ownsRow b' 37 5 (.slice A' N c') N (toks l')) ∧ Hid (Below w.heap.size w w'))
  case atStart => exact ⟨0, rfl, Lib.hid rfl, Lib.hid (Nat.zero_le _), h1', h2', Lib.hid (Below.refl _ _)⟩
  case round =>
    obtain ⟨i, rfl, hk, hi, h1, h2, hB⟩ := hrel
    clear h1' h2'
    by_cases c1 : i < N
    · have c1' : (i : Int) < (N : Int) := by omega
      obtain ⟨k1, rfl⟩ : ∃ k1, gk = k1 + 1 := ⟨gk - 1, by have := hk.out; omega⟩
      obtain ⟨t, ht⟩ : ∃ t, l[i]? = some t := ⟨_, List.getElem?_eq_getElem (by rw [hN'.out]; exact c1)⟩
      obtain ⟨t', ht'⟩ : ∃ t', l'[i]? = some t' := ⟨_, List.getElem?_eq_getElem (by rw [← hlen'.out]; exact c1)⟩
      have hb : bareT t = bareT t' := by
        have e := congrArg (fun m => m[i]?) hsim'.out
        simp only [List.getElem?_map, ht, ht', Option.map_some, Option.some.injEq] at e
        exact e
      obtain ⟨g, rfl, hc⟩ := own_cell h1.out rfl ht
      obtain ⟨g', rfl, hc'⟩ := own_cell h2.out rfl ht'
      obtain ⟨tk, tx, tn, tl, tc⟩ := t
      obtain ⟨tk', tx', tn', tl', tc'⟩ := t'
      simp only [bareT, Prod.mk.injEq] at hb
      obtain ⟨rfl, rfl, rfl⟩ := hb
      have x0 := later_cell (hc 0 _ rfl)
      have x1 := later_cell (hc 1 _ rfl)
      have x2 := later_cell (hc 2 _ rfl)
      have x3 := later_cell (hc 3 _ rfl)
      have x4 := later_cell (hc 4 _ rfl)
      have y0 := later_cell (hc' 0 _ rfl)
      have y1 := later_cell (hc' 1 _ rfl)
      have y2 := later_cell (hc' 2 _ rfl)
      have y3 := later_cell (hc' 3 _ rfl)
      have y4 := later_cell (hc' 4 _ rfl)
      dsimp only [Tok.cells] at x0 x1 x2 x3 x4 y0 y1 y2 y3 y4
      rw [Nat.add_zero] at x0 y0
      clear hc hc'
      have ht1 := Lib.hid ht; clear ht
      have ht2 := Lib.hid ht'; clear ht'
      go_wp2_with fail
      refine wp_region_later (by kernel_rfl) (by kernel_rfl) ?_
      repeat (quiet_step ((first
        | (go_at_call_of 31 (Value.agg #[.int .i64 tk, .string tx, .int .i64 tn, .int .i64 tl, .int .i64 tc]); exact Calls.later_of (bare_calls tk tx tn tl tc _))
        | (go_at_call_of 31 (Value.agg #[.int .i64 tk, .string tx, .int .i64 tn, .int .i64 tl', .int .i64 tc']); exact Calls.later_of (bare_calls tk tx tn tl' tc' _)))))
      refine wpQuiet_nil ?_
      intro W2 ⟨pw, hpw⟩
      have hq : Below wr.heap.size wr W2 := by rw [hpw]; exact pw.h
      clear hpw pw x0 x1 x2 x3 x4 y0 y1 y2 y3 y4
      go_wp2_with fail
      go_roundg k1
      case measure => omega
      case rel => exact ⟨i + 1, by simp, Lib.hid (by have := hk.out; omega), Lib.hid (by omega), Lib.hid (own_later h1.out hq), Lib.hid (own_later h2.out hq), Lib.hid (hB.out.trans (hq.mono hB.out.size))⟩
    · have c1' : ¬ (i : Int) < (N : Int) := by omega
      go_wp2_with fail
      go_ret
      exact ⟨rfl, hB.out⟩
end Go.Proofs.YtlhhpbpoioaagaaDoor
