import Derived.Test.YtlhhpbpoioaagaaDoorWh
import Derived.Test.YtlhhpbpoioaagaaDoorPlaces
namespace Go.Proofs.YtlhhpbpoioaagaaDoor
set_option linter.unusedVariables false
set_option linter.unusedSimpArgs false
open Go.RowKit Go.Proofs.YtlhhpbpoioaagaaDoorW.PrintWords Go.Proofs.YtlhhpbpoioaagaaDoorW.PrintLast Go.Proofs.YtlhhpbpoioaagaaDoorW.PrintMore

theorem toks_get (l : List Tok) : ∀ (i j : Nat) (t : Tok), l[i]? = some t → j < 5 → (toks l)[i * 5 + j]? = t.cells[j]? := by
  induction l with
  | nil => intro i j t h; simp at h
  | cons u l ih =>
    intro i j t h hj
    rw [show u :: l = [u] ++ l from rfl, toks_append, toks_one]
    cases i with
    | zero =>
      simp at h; subst h
      rw [List.getElem?_append_left (by simp [Tok.cells]; omega)]
      simp
    | succ i =>
      simp at h
      rw [List.getElem?_append_right (by simp [Tok.cells]; omega)]
      have := ih i j t h hj
      rw [← this]; congr 1; simp [Tok.cells]; omega
theorem own_cell {w : World} {base n : Nat} {v : Value} {l : List Tok} {A : Option Addr} {c : Nat} (h : w.ownsRow base 37 5 v n (toks l)) (hv : v = .slice A n c) {i : Nat} {t : Tok} (ht : l[i]? = some t) :
    ∃ g, A = some ⟨g, 0, none⟩ ∧ ∀ j u, t.cells[j]? = some u → w.cell? ⟨g, i * 5 + j, none⟩ = some u := by
  have hlen : (toks l).length = n * 5 := h.1
  rcases h.2 with ⟨rfl, h2⟩ | ⟨g, cap, cur, rfl, hb, hg, _, _, _, htk⟩
  · exfalso
    have h3 := (List.getElem?_eq_some_iff.1 ht).1
    have h4 := toks_len l
    omega
  · cases hv
    refine ⟨g, rfl, fun j u hu => ?_⟩
    have hj : j < 5 := by have := (List.getElem?_eq_some_iff.1 hu).1; simpa [Tok.cells] using this
    have h3 := (toks_get l i j t ht hj).trans hu
    rw [blk_cell hg, ← Array.getElem?_toList]
    have h4 := (List.getElem?_eq_some_iff.1 h3).1
    rw [← htk, List.getElem?_take_of_lt (by omega)] at h3
    exact h3

def exText : ByteArray := ⟨#[115, 101, 99, 114, 101, 116, 32, 36, 48, 50, 48, 48, 46, 46, 36, 48, 50, 102, 102, 32, 35, 32, 120]⟩
def exToks : List Tok := [⟨1, ⟨#[115, 101, 99, 114, 101, 116]⟩, 0, 1, 1⟩, ⟨2, ⟨#[]⟩, 512, 1, 8⟩, ⟨3, ⟨#[]⟩, 0, 1, 13⟩, ⟨2, ⟨#[]⟩, 767, 1, 15⟩, ⟨4, ⟨#[]⟩, 0, 1, 20⟩]
theorem ex_scan : scanT exText = (0, 0, 0, exToks) := by kernel_rfl

set_option maxHeartbeats 1000000 in
set_option maxRecDepth 100000 in
theorem awake_calls (m : Int) (w : World) (hm : w.cell? ⟨0, 0, none⟩ = some (.int .i64 m)) : Calls Tryd.prog 11 #[] w fun e w' => e = .returned (.bool true) ∧ Below w.heap.size w w' := by
  have hs := Lib.hid (Scan_calls exText m w hm)
  clear hm
  go_enter Tryd.func11, Tryd.ntmps11
  go_wp2_with fail
  refine hs.out.mono ?_
  rintro e w1 ⟨v, rfl, hv, hb⟩
  rw [ex_scan] at hv ⊢
  have h5 : exToks.length = 5 := rfl
  rw [h5] at hv
  clear h5
  obtain ⟨A, c, rfl⟩ := own_slice hv
  have hv' := hv.alloc (.cells #[.int .i64 0, .int .i64 0] 25)
  obtain ⟨g, rfl, h0⟩ := own_cell hv (i := 0) rfl rfl
  have hlt := own_lt hv
  have hne : g ≠ w1.heap.size := by omega
  obtain ⟨_, hx, h1⟩ := own_cell hv (i := 1) rfl rfl; cases hx
  obtain ⟨_, hx, h3⟩ := own_cell hv (i := 3) rfl rfl; cases hx
  obtain ⟨_, hx, h4⟩ := own_cell hv (i := 4) rfl rfl; cases hx
  clear hv hv'
  have a0 := h0 0 _ rfl
  have a1 := h0 1 _ rfl
  have a2 := h0 2 _ rfl
  have a3 := h0 3 _ rfl
  have a4 := h0 4 _ rfl
  have b2 := h1 2 _ rfl
  have c2 := h3 2 _ rfl
  have d0 := h4 0 _ rfl
  have d1 := h4 1 _ rfl
  have d2 := h4 2 _ rfl
  have d3 := h4 3 _ rfl
  have d4 := h4 4 _ rfl
  simp only [Nat.zero_mul, Nat.one_mul, Nat.zero_add, Nat.reduceMul, Nat.reduceAdd] at a0 a1 a2 a3 a4 b2 c2 d0 d1 d2 d3 d4
  clear h0 h1 h3 h4 hs
  have hb' := Lib.hid hb; clear hb
  go_wp2_with fail
  go_ret
  exact ⟨rfl, hb'.out.alloc hb'.out.size _⟩
end Go.Proofs.YtlhhpbpoioaagaaDoor
