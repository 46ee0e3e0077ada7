import Derived.Test.YtlhhpbpoioaagaaDoorWb
namespace Go.Proofs.YtlhhpbpoioaagaaDoor
set_option linter.unusedVariables false
set_option linter.unusedSimpArgs false
open Go.RowKit Go.Proofs.YtlhhpbpoioaagaaDoorW.PrintWords Go.Proofs.YtlhhpbpoioaagaaDoorW.PrintLast Go.Proofs.YtlhhpbpoioaagaaDoorW.PrintMore

def NextPost (g : Nat) (s : ByteArray) (n : Int) (i : Nat) (base : Nat) (l : List Tok) (o : OneT) (v : Value) (w : World) (e : Ending) (w' : World) : Prop :=
  e = .returned (.int .i64 o.err) ∧ ∃ v', LineAt g s n (if o.err = 0 then o.fin else i) v' w' ∧
    w'.ownsRow base 37 5 v' (if o.err = 0 then l ++ [(⟨o.kind, o.text, o.n, n, i + 1⟩ : Tok)] else l).length (toks (if o.err = 0 then l ++ [(⟨o.kind, o.text, o.n, n, i + 1⟩ : Tok)] else l)) ∧ Below base w w' ∧ KeepBut w w' g v.ownBlock

set_option maxHeartbeats 1000000 in
set_option maxRecDepth 100000 in
theorem next_word (g : Nat) (s : ByteArray) (n : Int) (i : Nat) (v : Value) (base : Nat) (l : List Tok) (hi : i < s.size) (hsz : s.size ≤ 1000) (hl0 : l.length ≤ 1000) (w : World)
    (hl : LineAt g s n i v w) (hv : w.ownsRow base 37 5 v l.length (toks l)) (hbg : base ≤ g) (hb : isLet (bx s i) = true) :
    Calls Tryd.prog 59 #[.pointer (some ⟨g, 0, none⟩)] w (NextPost g s n i base l (wordT s i) v w) := by
  have h0 := hl.c0
  have h2 := hl.c2
  have hgl := hl.lt
  have hl' := Lib.hid hl; clear hl
  have hv' := Lib.hid hv; clear hv
  have hx := bx_read (s := s) (i := i)
  have hi' : (i : Int) < (s.size : Int) := by omega
  generalize hE : wordTo s (s.size - i) i = E
  have hwc : Hid (∀ W, LineAt g s n i v W → Calls Tryd.prog 78 #[.pointer (some ⟨g, 0, none⟩), .int .i64 i] W fun e w' => e = .returned (.int .i64 E) ∧ w' = W) := Lib.hid (fun W h => by have := word_calls g s n i v i (by omega) W h; rw [hE] at this; exact this)
  have hE1 : i ≤ E := by rw [← hE]; exact wordTo_le _ _ _
  have hE2 : E ≤ s.size := by rw [← hE]; exact wordTo_size _ _ _ (by omega)
  have hw : wordT s i = if glue s E = true then badT 11 else ⟨0, 1, s.extract i E, 0, E⟩ := by unfold wordT; rw [hE]
  rw [hw]
  clear hw hE
  by_cases hg : glue s E = true
  · rw [if_pos hg]
    go_enter Tryd.func59, Tryd.ntmps59
    go_wp2_with (first | (go_at_call 76; (with_reducible refine (digit10 (bx s i) (bx_range s i) _).mono ?_); rintro e w' ⟨rfl, rfl⟩) | (go_at_call 77; (with_reducible refine (letter (bx s i) _).mono ?_); rintro e w' ⟨rfl, rfl⟩) | (go_at_call 78; refine (hwc.out _ (by exact hl'.out)).mono ?_; rintro e w' ⟨rfl, rfl⟩) | (go_at_call 79; refine (begins_calls g s n i v E hE2 (by omega) _ (by exact hl'.out)).mono ?_; rintro e w' ⟨rfl, rfl⟩) | go_region)
    go_ret
    exact ⟨rfl, v, hl'.out, hv'.out, ((Below.refl _ _).drew).drew, ⟨Nat.le_refl _, fun _ _ _ _ => rfl⟩⟩
  · rw [if_neg hg]
    go_enter Tryd.func59, Tryd.ntmps59
    go_wp2_with (first | (go_at_call 76; (with_reducible refine (digit10 (bx s i) (bx_range s i) _).mono ?_); rintro e w' ⟨rfl, rfl⟩) | (go_at_call 77; (with_reducible refine (letter (bx s i) _).mono ?_); rintro e w' ⟨rfl, rfl⟩) | (go_at_call 78; refine (hwc.out _ (by exact hl'.out)).mono ?_; rintro e w' ⟨rfl, rfl⟩) | (go_at_call 79; refine (begins_calls g s n i v E hE2 (by omega) _ (by exact hl'.out)).mono ?_; rintro e w' ⟨rfl, rfl⟩) | go_region)
    have hs1 : (i : Int) ≤ (E : Int) := by omega
    have hs2 : (E : Int) ≤ (s.size : Int) := by omega
    have hS : ∀ (p : Mix2.Keeps (fun W => W.cell? ⟨g, 0, none⟩ = some (.string s) ∧ W.cell? ⟨g, 2, none⟩ = some (.int .i64 i))), p.w.cell? ⟨g, 0, none⟩ = some (.string s) := fun p => p.h.1
    have hS2 : ∀ (p : Mix2.Keeps (fun W => W.cell? ⟨g, 0, none⟩ = some (.string s) ∧ W.cell? ⟨g, 2, none⟩ = some (.int .i64 i))), p.w.cell? ⟨g, 2, none⟩ = some (.int .i64 i) := fun p => p.h.2
    have hNE : Nonempty (Mix2.Keeps (fun W => W.cell? ⟨g, 0, none⟩ = some (.string s) ∧ W.cell? ⟨g, 2, none⟩ = some (.int .i64 i))) := ⟨⟨w, h0, h2⟩⟩
    refine Mix2.wp_region (fun W => W.cell? ⟨g, 0, none⟩ = some (.string s) ∧ W.cell? ⟨g, 2, none⟩ = some (.int .i64 i)) (fun k => k == 4 || k == 8) (fun k => k == 13) (by kernel_rfl) (by kernel_rfl) (by kernel_rfl) ⟨h0, h2⟩ ?_
    repeat (first | (refine Mix2.walk_read rfl rfl (fun K hK => ?_); go_simp; refine hK _ ?_; clear hK K) | (refine Mix2.walk_pure rfl (fun K hK => ?_); go_simp; refine hK _ ?_; clear hK K))
    refine Mix2.walk_last 9 rfl (by intro j hj; simp; omega) (by kernel_rfl) (fun K hK => ?_)
    go_simp
    refine (add_calls g s n i E v base l 1 (s.extract i E) 0 (by omega) (by omega) _ (by exact hl'.out) (by exact hv'.out) hbg).mono ?_
    rintro e w1 ⟨rfl, v', hl1, hv1, hB1, hQ1⟩
    refine hK _ _ ?_
    clear hK K hS hS2 hNE
    refine Mix2.walk_nil ?_
    go_wp2
    go_ret
    exact ⟨rfl, v', hl1, hv1, ⟨hB1.os, hB1.tape, hB1.output, hB1.size, hB1.block⟩, ⟨hQ1.1, hQ1.2⟩⟩
end Go.Proofs.YtlhhpbpoioaagaaDoor
