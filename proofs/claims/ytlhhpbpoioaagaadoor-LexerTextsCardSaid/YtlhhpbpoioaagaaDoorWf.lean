import Derived.Test.YtlhhpbpoioaagaaDoorWc
import Derived.Test.YtlhhpbpoioaagaaDoorWc2
import Derived.Test.YtlhhpbpoioaagaaDoorWd
namespace Go.Proofs.YtlhhpbpoioaagaaDoor
set_option linter.unusedVariables false
set_option linter.unusedSimpArgs false
open Go.RowKit Go.Proofs.YtlhhpbpoioaagaaDoorW.PrintWords Go.Proofs.YtlhhpbpoioaagaaDoorW.PrintLast Go.Proofs.YtlhhpbpoioaagaaDoorW.PrintMore



set_option maxHeartbeats 4000000 in
set_option maxRecDepth 100000 in
theorem next_num10 (g : Nat) (s : ByteArray) (n : Int) (i : Nat) (v : Value) (base : Nat) (l : List Tok) (hi : i < s.size) (hsz : s.size ≤ 1000) (hl0 : l.length ≤ 1000) (w : World) (hl : LineAt g s n i v w) (hv : w.ownsRow base 37 5 v l.length (toks l)) (hbg : base ≤ g) (hb : isLet (bx s i) = false) (h46 : ¬ bx s i = 46) (h36 : ¬ bx s i = 36) (hd : decide (0 ≤ dig10 (bx s i)) = true) :
    Calls Tryd.prog 59 #[.pointer (some ⟨g, 0, none⟩)] w (NextPost g s n i base l (numT s 10 (i)) v w) := by
  have h0 := hl.c0
  have h2 := hl.c2
  have hgl := hl.lt
  have hl' := Lib.hid hl; clear hl
  have hv' := Lib.hid hv; clear hv
  have hx := bx_read (s := s) (i := i)
  have hi' : (i : Int) < (s.size : Int) := by omega
  have hle : (i : Int) ≤ (s.size : Int) := by omega
  have hpre : Hid (∀ W, Calls Tryd.prog 81 #[.string (s.extract i s.size), .string ⟨#[46, 46]⟩] W fun e w' => e = .returned (.bool false) ∧ w' = W) := Lib.hid fun W => by
    have h := Tryd.strings_HasPrefix (s.extract i s.size) ⟨#[46, 46]⟩ W
    have hp := dots_is s i
    rw [decide_eq_false h46, Bool.false_and] at hp
    rw [show (⟨#[46, 46]⟩ : ByteArray).data.toList = [46, 46] from rfl, hp] at h
    exact h
  obtain ⟨N, hN⟩ : ∃ N, (numTo s 10 (s.size - (i)) (i) 0).1 = N := ⟨_, rfl⟩
  obtain ⟨E, hE⟩ : ∃ E, (numTo s 10 (s.size - (i)) (i) 0).2 = E := ⟨_, rfl⟩
  have hE1 : (i) ≤ E := by rw [← hE]; exact numTo_le _ _ _ _ _
  have hE2 : E ≤ s.size := by rw [← hE]; exact numTo_size _ _ _ _ _ (by omega)
  have hw : numT s 10 (i) = if E = (i) ∨ glue s E = true then badT 11 else if 65535 < N then badT 10 else ⟨0, 2, ⟨#[]⟩, N, E⟩ := by unfold numT; rw [hE, hN]
  have hnc : Hid (∀ W, LineAt g s n i v W → Calls Tryd.prog 82 #[.pointer (some ⟨g, 0, none⟩), .int .i64 ((i : Int)), .int .i64 10] W fun e w' => e = .returned (.tuple #[.int .i64 N, .int .i64 E]) ∧ w' = W) := Lib.hid fun W h => by
    have h2 := number10_calls g s n i v (i) (by omega) (by omega) W h
    rw [hN, hE] at h2
    simpa using h2
  have hadd : Hid (∀ W, LineAt g s n i v W → W.ownsRow base 37 5 v l.length (toks l) → Calls Tryd.prog 80 #[.pointer (some ⟨g, 0, none⟩), .agg #[.int .i64 2, .string ⟨#[]⟩, .int .i64 N, .int .i64 0, .int .i64 0], .int .i64 (E : Int)] W fun e w' => e = .returned (.tuple #[]) ∧ ∃ v', LineAt g s n E v' w' ∧ w'.ownsRow base 37 5 v' (l ++ [(⟨2, ⟨#[]⟩, N, n, i + 1⟩ : Tok)]).length (toks (l ++ [(⟨2, ⟨#[]⟩, N, n, i + 1⟩ : Tok)])) ∧ Below base W w' ∧ KeepBut W w' g v.ownBlock) := Lib.hid fun W h1 h2 => add_calls g s n i E v base l 2 ⟨#[]⟩ N (by omega) (by omega) W h1 h2 hbg
  rw [hw]
  clear hw hN hE
  by_cases c1 : E = (i)
  · rw [if_pos (.inl c1)]
    have c1' : (E : Int) = ((i : Int)) := by omega
    clear c1
    go_enter Tryd.func59, Tryd.ntmps59
    go_wp2_with (first | (go_at_call 76; (with_reducible refine (digit10 (bx s i) (bx_range s i) _).mono ?_); rintro e w' ⟨rfl, rfl⟩) | (go_at_call 77; (with_reducible refine (letter (bx s i) _).mono ?_); rintro e w' ⟨rfl, rfl⟩) | go_region)
    have hS : ∀ (p : Mix2.Keeps (fun W => W.cell? ⟨g, 0, none⟩ = some (.string s) ∧ W.cell? ⟨g, 2, none⟩ = some (.int .i64 i))), p.w.cell? ⟨g, 0, none⟩ = some (.string s) := fun p => p.h.1
    have hS2 : ∀ (p : Mix2.Keeps (fun W => W.cell? ⟨g, 0, none⟩ = some (.string s) ∧ W.cell? ⟨g, 2, none⟩ = some (.int .i64 i))), p.w.cell? ⟨g, 2, none⟩ = some (.int .i64 i) := fun p => p.h.2
    have hNE : Nonempty (Mix2.Keeps (fun W => W.cell? ⟨g, 0, none⟩ = some (.string s) ∧ W.cell? ⟨g, 2, none⟩ = some (.int .i64 i))) := ⟨⟨w, h0, h2⟩⟩
    refine Mix2.wp_region (fun W => W.cell? ⟨g, 0, none⟩ = some (.string s) ∧ W.cell? ⟨g, 2, none⟩ = some (.int .i64 i)) (fun k => k == 3 || k == 7) (fun k => k == 9) (by kernel_rfl) (by kernel_rfl) (by kernel_rfl) ⟨h0, h2⟩ ?_
    repeat (first | (refine Mix2.walk_read rfl rfl (fun K hK => ?_); go_simp; refine hK _ ?_; clear hK K) | (refine Mix2.walk_pure rfl (fun K hK => ?_); go_simp; refine hK _ ?_; clear hK K))
    refine Mix2.walk_last 8 rfl (by intro j hj; simp; omega) (by kernel_rfl) (fun K hK => ?_)
    go_simp
    refine (hpre.out _).mono ?_
    rintro e w1 ⟨rfl, rfl⟩
    refine hK _ _ ?_
    clear hK K hS hS2 hNE
    repeat (first | (refine Mix2.walk_read rfl rfl (fun K hK => ?_); go_simp; refine hK _ ?_; clear hK K) | (refine Mix2.walk_pure rfl (fun K hK => ?_); go_simp; refine hK _ ?_; clear hK K))
    refine Mix2.walk_nil ?_
    go_wp2_with (first | (go_at_call 82; refine (hnc.out _ (by exact hl'.out)).mono ?_; rintro e w' ⟨rfl, rfl⟩) | (go_at_call 79; refine (begins_calls g s n i v E hE2 (by omega) _ (by exact hl'.out)).mono ?_; rintro e w' ⟨rfl, rfl⟩) | go_region)
    go_ret
    exact ⟨rfl, v, hl'.out, hv'.out, ⟨rfl, rfl, rfl, Nat.le_refl _, fun _ _ => rfl⟩, ⟨Nat.le_refl _, fun _ _ _ _ => rfl⟩⟩
  · have c1' : ¬ (E : Int) = ((i : Int)) := by omega
    have c2 : Hid (E ≠ (i)) := Lib.hid c1
    clear c1
    by_cases c3 : glue s E = true
    · rw [if_pos (.inr c3)]
      go_enter Tryd.func59, Tryd.ntmps59
      go_wp2_with (first | (go_at_call 76; (with_reducible refine (digit10 (bx s i) (bx_range s i) _).mono ?_); rintro e w' ⟨rfl, rfl⟩) | (go_at_call 77; (with_reducible refine (letter (bx s i) _).mono ?_); rintro e w' ⟨rfl, rfl⟩) | go_region)
      have hS : ∀ (p : Mix2.Keeps (fun W => W.cell? ⟨g, 0, none⟩ = some (.string s) ∧ W.cell? ⟨g, 2, none⟩ = some (.int .i64 i))), p.w.cell? ⟨g, 0, none⟩ = some (.string s) := fun p => p.h.1
      have hS2 : ∀ (p : Mix2.Keeps (fun W => W.cell? ⟨g, 0, none⟩ = some (.string s) ∧ W.cell? ⟨g, 2, none⟩ = some (.int .i64 i))), p.w.cell? ⟨g, 2, none⟩ = some (.int .i64 i) := fun p => p.h.2
      have hNE : Nonempty (Mix2.Keeps (fun W => W.cell? ⟨g, 0, none⟩ = some (.string s) ∧ W.cell? ⟨g, 2, none⟩ = some (.int .i64 i))) := ⟨⟨w, h0, h2⟩⟩
      refine Mix2.wp_region (fun W => W.cell? ⟨g, 0, none⟩ = some (.string s) ∧ W.cell? ⟨g, 2, none⟩ = some (.int .i64 i)) (fun k => k == 3 || k == 7) (fun k => k == 9) (by kernel_rfl) (by kernel_rfl) (by kernel_rfl) ⟨h0, h2⟩ ?_
      repeat (first | (refine Mix2.walk_read rfl rfl (fun K hK => ?_); go_simp; refine hK _ ?_; clear hK K) | (refine Mix2.walk_pure rfl (fun K hK => ?_); go_simp; refine hK _ ?_; clear hK K))
      refine Mix2.walk_last 8 rfl (by intro j hj; simp; omega) (by kernel_rfl) (fun K hK => ?_)
      go_simp
      refine (hpre.out _).mono ?_
      rintro e w1 ⟨rfl, rfl⟩
      refine hK _ _ ?_
      clear hK K hS hS2 hNE
      repeat (first | (refine Mix2.walk_read rfl rfl (fun K hK => ?_); go_simp; refine hK _ ?_; clear hK K) | (refine Mix2.walk_pure rfl (fun K hK => ?_); go_simp; refine hK _ ?_; clear hK K))
      refine Mix2.walk_nil ?_
      go_wp2_with (first | (go_at_call 82; refine (hnc.out _ (by exact hl'.out)).mono ?_; rintro e w' ⟨rfl, rfl⟩) | (go_at_call 79; refine (begins_calls g s n i v E hE2 (by omega) _ (by exact hl'.out)).mono ?_; rintro e w' ⟨rfl, rfl⟩) | go_region)
      go_ret
      exact ⟨rfl, v, hl'.out, hv'.out, ⟨rfl, rfl, rfl, Nat.le_refl _, fun _ _ => rfl⟩, ⟨Nat.le_refl _, fun _ _ _ _ => rfl⟩⟩
    · rw [if_neg (fun h => h.elim c2.out c3)]
      by_cases c4 : 65535 < N
      · rw [if_pos c4]
        go_enter Tryd.func59, Tryd.ntmps59
        go_wp2_with (first | (go_at_call 76; (with_reducible refine (digit10 (bx s i) (bx_range s i) _).mono ?_); rintro e w' ⟨rfl, rfl⟩) | (go_at_call 77; (with_reducible refine (letter (bx s i) _).mono ?_); rintro e w' ⟨rfl, rfl⟩) | go_region)
        have hS : ∀ (p : Mix2.Keeps (fun W => W.cell? ⟨g, 0, none⟩ = some (.string s) ∧ W.cell? ⟨g, 2, none⟩ = some (.int .i64 i))), p.w.cell? ⟨g, 0, none⟩ = some (.string s) := fun p => p.h.1
        have hS2 : ∀ (p : Mix2.Keeps (fun W => W.cell? ⟨g, 0, none⟩ = some (.string s) ∧ W.cell? ⟨g, 2, none⟩ = some (.int .i64 i))), p.w.cell? ⟨g, 2, none⟩ = some (.int .i64 i) := fun p => p.h.2
        have hNE : Nonempty (Mix2.Keeps (fun W => W.cell? ⟨g, 0, none⟩ = some (.string s) ∧ W.cell? ⟨g, 2, none⟩ = some (.int .i64 i))) := ⟨⟨w, h0, h2⟩⟩
        refine Mix2.wp_region (fun W => W.cell? ⟨g, 0, none⟩ = some (.string s) ∧ W.cell? ⟨g, 2, none⟩ = some (.int .i64 i)) (fun k => k == 3 || k == 7) (fun k => k == 9) (by kernel_rfl) (by kernel_rfl) (by kernel_rfl) ⟨h0, h2⟩ ?_
        repeat (first | (refine Mix2.walk_read rfl rfl (fun K hK => ?_); go_simp; refine hK _ ?_; clear hK K) | (refine Mix2.walk_pure rfl (fun K hK => ?_); go_simp; refine hK _ ?_; clear hK K))
        refine Mix2.walk_last 8 rfl (by intro j hj; simp; omega) (by kernel_rfl) (fun K hK => ?_)
        go_simp
        refine (hpre.out _).mono ?_
        rintro e w1 ⟨rfl, rfl⟩
        refine hK _ _ ?_
        clear hK K hS hS2 hNE
        repeat (first | (refine Mix2.walk_read rfl rfl (fun K hK => ?_); go_simp; refine hK _ ?_; clear hK K) | (refine Mix2.walk_pure rfl (fun K hK => ?_); go_simp; refine hK _ ?_; clear hK K))
        refine Mix2.walk_nil ?_
        go_wp2_with (first | (go_at_call 82; refine (hnc.out _ (by exact hl'.out)).mono ?_; rintro e w' ⟨rfl, rfl⟩) | (go_at_call 79; refine (begins_calls g s n i v E hE2 (by omega) _ (by exact hl'.out)).mono ?_; rintro e w' ⟨rfl, rfl⟩) | go_region)
        go_ret
        exact ⟨rfl, v, hl'.out, hv'.out, ⟨rfl, rfl, rfl, Nat.le_refl _, fun _ _ => rfl⟩, ⟨Nat.le_refl _, fun _ _ _ _ => rfl⟩⟩
      · rw [if_neg c4]
        go_enter Tryd.func59, Tryd.ntmps59
        go_wp2_with (first | (go_at_call 76; (with_reducible refine (digit10 (bx s i) (bx_range s i) _).mono ?_); rintro e w' ⟨rfl, rfl⟩) | (go_at_call 77; (with_reducible refine (letter (bx s i) _).mono ?_); rintro e w' ⟨rfl, rfl⟩) | go_region)
        have hS : ∀ (p : Mix2.Keeps (fun W => W.cell? ⟨g, 0, none⟩ = some (.string s) ∧ W.cell? ⟨g, 2, none⟩ = some (.int .i64 i))), p.w.cell? ⟨g, 0, none⟩ = some (.string s) := fun p => p.h.1
        have hS2 : ∀ (p : Mix2.Keeps (fun W => W.cell? ⟨g, 0, none⟩ = some (.string s) ∧ W.cell? ⟨g, 2, none⟩ = some (.int .i64 i))), p.w.cell? ⟨g, 2, none⟩ = some (.int .i64 i) := fun p => p.h.2
        have hNE : Nonempty (Mix2.Keeps (fun W => W.cell? ⟨g, 0, none⟩ = some (.string s) ∧ W.cell? ⟨g, 2, none⟩ = some (.int .i64 i))) := ⟨⟨w, h0, h2⟩⟩
        refine Mix2.wp_region (fun W => W.cell? ⟨g, 0, none⟩ = some (.string s) ∧ W.cell? ⟨g, 2, none⟩ = some (.int .i64 i)) (fun k => k == 3 || k == 7) (fun k => k == 9) (by kernel_rfl) (by kernel_rfl) (by kernel_rfl) ⟨h0, h2⟩ ?_
        repeat (first | (refine Mix2.walk_read rfl rfl (fun K hK => ?_); go_simp; refine hK _ ?_; clear hK K) | (refine Mix2.walk_pure rfl (fun K hK => ?_); go_simp; refine hK _ ?_; clear hK K))
        refine Mix2.walk_last 8 rfl (by intro j hj; simp; omega) (by kernel_rfl) (fun K hK => ?_)
        go_simp
        refine (hpre.out _).mono ?_
        rintro e w1 ⟨rfl, rfl⟩
        refine hK _ _ ?_
        clear hK K hS hS2 hNE
        repeat (first | (refine Mix2.walk_read rfl rfl (fun K hK => ?_); go_simp; refine hK _ ?_; clear hK K) | (refine Mix2.walk_pure rfl (fun K hK => ?_); go_simp; refine hK _ ?_; clear hK K))
        refine Mix2.walk_nil ?_
        go_wp2_with (first | (go_at_call 82; refine (hnc.out _ (by exact hl'.out)).mono ?_; rintro e w' ⟨rfl, rfl⟩) | (go_at_call 79; refine (begins_calls g s n i v E hE2 (by omega) _ (by exact hl'.out)).mono ?_; rintro e w' ⟨rfl, rfl⟩) | (go_at_call 80; refine (hadd.out _ (by exact hl'.out) (by exact hv'.out)).mono ?_; rintro e w' ⟨rfl, v', hl1, hv1, hB1, hQ1⟩) | go_region)
        go_ret
        exact ⟨rfl, v', hl1, hv1, ⟨hB1.os, hB1.tape, hB1.output, hB1.size, hB1.block⟩, ⟨hQ1.1, hQ1.2⟩⟩

end Go.Proofs.YtlhhpbpoioaagaaDoor
