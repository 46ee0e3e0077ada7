import Derived.Test.YtlhhpbpoioaagaaDoorJn
import Derived.Test.YtlhhpbpoioaagaaDoorTy
namespace Go.Proofs.YtlhhpbpoioaagaaDoor
set_option linter.unusedVariables false
set_option linter.unusedSimpArgs false
open Go.RowKit Go.Proofs.YtlhhpbpoioaagaaDoorW.PrintWords Go.Proofs.YtlhhpbpoioaagaaDoorW.PrintLast Go.Proofs.YtlhhpbpoioaagaaDoorW.PrintMore

theorem one32 : (⟨#[32]⟩ : ByteArray).size = 1 := rfl
theorem all_next {l : List Tok} {i : Nat} {t : Tok} (h : ∀ j u, j < i → l[j]? = some u → u.text.size ≤ 100) (ht : l[i]? = some t) (hs : t.text.size ≤ 100) : ∀ j u, j < i + 1 → l[j]? = some u → u.text.size ≤ 100 := fun j u hj hu => by
  rcases Nat.lt_or_ge j i with h1 | h1
  · exact h j u h1 hu
  · obtain rfl : j = i := by omega
    rw [ht] at hu; cases hu; exact hs
/-- What is collected: nothing wrong so far, and the rest; or what is wrong. -/
def Coll (l : List Tok) (J : ByteArray × Int) (i : Nat) (o : ByteArray) (b : Int) : Prop := (b = 0 → joinTo (l.drop i) (prevOf l i) o = J) ∧ (b ≠ 0 → J = (⟨#[]⟩, b))
theorem joinTo_cons (t : Tok) (r : List Tok) (p : Option Int) (o : ByteArray) : joinTo (t :: r) p o = if (textT t.kind t.text t.n).2 ≠ 0 then (⟨#[]⟩, (textT t.kind t.text t.n).2)
      else joinTo r (some t.kind) ((if p ≠ none ∧ t.kind ≠ 4 ∧ p ≠ some 4 then o ++ ⟨#[32]⟩ else o) ++ (textT t.kind t.text t.n).1) := by rw [joinTo]

set_option maxHeartbeats 8000000 in
set_option maxRecDepth 100000 in
theorem Texts_calls (A : Option Addr) (c : Nat) (l : List Tok) (w : World) (hrow : TokRow A l w) (m : Int) (hm : w.cell? ⟨0, 0, none⟩ = some (.int .i64 m)) :
    Calls Tryd.prog 6 #[.slice A l.length c] w fun e w' => e = .returned (.bool true) ∧ Below w.heap.size w w' := by
  have hm0 := Lib.hid hm
  have hm' := World.block_lt_of_cell? w _ hm
  have ha0 := Lib.hid (awake_calls m w hm)
  clear hm
  obtain ⟨N, hN⟩ : ∃ N, Hid (l.length = N) := ⟨_, Lib.hid rfl⟩
  rw [hN.out]
  have hrow' := Lib.hid hrow; clear hrow
  by_cases h0 : 30 < N
  · have h0' : (30 : Int) < (N : Int) := by omega
    go_enter Tryd.func6, Tryd.ntmps6
    go_wp2_with fail
    refine ha0.out.mono ?_
    rintro e w1 ⟨rfl, hb⟩
    go_wp2
    go_ret
    exact ⟨rfl, hb⟩
  · have h0' : ¬ (30 : Int) < (N : Int) := by omega
    clear ha0
    obtain ⟨J, hJ⟩ : ∃ J, Hid (joinTo l none ⟨#[]⟩ = J) := ⟨_, Lib.hid rfl⟩
    go_enter Tryd.func6, Tryd.ntmps6
    go_wp2_with fail
    go_loopg [3, 4, 5] N (fun kq v3 v4 v5 w' => ∃ (i : Nat) (o : ByteArray) (b : Int), v5 = .int .i64 (i : Int) ∧ v3 = .string o ∧ v4 = .int .i64 b ∧ Hid (N - i = kq) ∧ Hid (i ≤ N) ∧ Hid (o.size ≤ 106 * i) ∧ Hid (Coll l J i o b) ∧ Hid (∀ j u, j < i → l[j]? = some u → u.text.size ≤ 100) ∧ Hid (Below w.heap.size w w'))
    case atStart => exact ⟨0, ⟨#[]⟩, 0, rfl, rfl, rfl, Lib.hid rfl, Lib.hid (Nat.zero_le _), Lib.hid (Nat.zero_le _), Lib.hid ⟨fun _ => hJ.out, fun h => absurd rfl h⟩, Lib.hid (fun j u h => absurd h (Nat.not_lt_zero _)), Lib.hid (Below.refl _ _)⟩
    case round =>
      obtain ⟨i, o, b, rfl, rfl, rfl, hk, hi, ho, hj, hall, hB⟩ := hrel
      have hos : o.size ≤ 106 * 30 := by have := ho.out; have := hi.out; omega
      have hz := hB.out.size
      by_cases c1 : i < N
      · have c1' : (i : Int) < (N : Int) := by omega
        obtain ⟨k1, rfl⟩ : ∃ k1, gk = k1 + 1 := ⟨gk - 1, by have := hk.out; omega⟩
        obtain ⟨t, ht⟩ : ∃ t, l[i]? = some t := ⟨_, List.getElem?_eq_getElem (by rw [hN.out]; exact c1)⟩
        obtain ⟨g, q, rfl, hcell⟩ := (hrow'.out.later hB.out) i t ht
        have hp : prevOf l (i + 1) = some t.kind := by simp [prevOf, ht]
        have hdr : l.drop i = t :: l.drop (i + 1) := by rw [List.drop_eq_getElem_cons (by rw [hN.out]; exact c1)]; congr 1; rw [List.getElem?_eq_getElem (by rw [hN.out]; exact c1)] at ht; exact Option.some.inj ht
        have hjo : b = 0 → (if (textT t.kind t.text t.n).2 ≠ 0 then (⟨#[]⟩, (textT t.kind t.text t.n).2) else joinTo (l.drop (i + 1)) (prevOf l (i + 1)) ((if prevOf l i ≠ none ∧ t.kind ≠ 4 ∧ prevOf l i ≠ some 4 then o ++ ⟨#[32]⟩ else o) ++ (textT t.kind t.text t.n).1)) = J := fun h => by
          have := hj.out.1 h
          rw [hdr, joinTo_cons, ← hp] at this; exact this
        have hsz := textT_size t.kind t.text t.n
        have ht' := Lib.hid ht; clear ht
        obtain ⟨tk, tx, tn, tl, tc⟩ := t
        dsimp only at hsz hjo hp
        have x0 := hcell 0 _ rfl
        have x1 := hcell 1 _ rfl
        have x2 := hcell 2 _ rfl
        have x3 := hcell 3 _ rfl
        have x4 := hcell 4 _ rfl
        dsimp only [Tok.cells] at x0 x1 x2 x3 x4
        rw [Nat.add_zero] at x0
        rw [← Nat.add_assoc] at x1 x2 x3 x4
        have hp' := Lib.hid hp; clear hp
        have hdr' := Lib.hid hdr; clear hdr
        have hjo' := Lib.hid hjo; clear hjo hcell
        by_cases c2 : 100 < tx.size
        · have c2' : (100 : Int) < (tx.size : Int) := by omega
          have ha := Lib.hid (awake_calls m wr (by rw [Below.cell hB.out hm']; exact hm0.out))
          go_wp2_with fail
          (refine ha.out.mono ?_; rintro e w5 ⟨rfl, hb5⟩; go_wp2; go_ret; exact ⟨rfl, hB.out.trans (hb5.mono hB.out.size)⟩)
        · have c2' : ¬ (100 : Int) < (tx.size : Int) := by omega
          have htt : tx.size ≤ 100 := by omega
          have hT := Lib.hid (fun W => text_calls tk tx tn tl tc W)
          have hT2 := Lib.hid (fun W => refText_calls tk tx (by omega) tn tl tc W)
          have hpl := Lib.hid (fun W => plainTok_calls tk tx tn tl tc W)
          generalize textT tk tx tn = T at *
          obtain ⟨T1, T2⟩ := T
          dsimp only at hsz hjo' hT hT2
          go_wp2_with fail
          refine (hT.out _).mono ?_
          rintro e w1 ⟨rfl, hb1⟩
          have hB1 := Lib.hid (hB.out.trans (hb1.mono hz))
          obtain ⟨g', q', hA', hcell⟩ := (hrow'.out.later hB1.out) i _ ht'.out
          cases hA'
          have x0 := hcell 0 _ rfl
          have x1 := hcell 1 _ rfl
          have x2 := hcell 2 _ rfl
          have x3 := hcell 3 _ rfl
          have x4 := hcell 4 _ rfl
          dsimp only [Tok.cells] at x0 x1 x2 x3 x4
          rw [Nat.add_zero] at x0
          rw [← Nat.add_assoc] at x1 x2 x3 x4
          have hz1 := hB1.out.size
          clear hb1 hcell
          go_wp2_with fail
          refine (hpl.out _).mono ?_
          rintro e w2 ⟨rfl, hb2⟩
          have hB2 := Lib.hid (hB1.out.trans (hb2.mono hz1))
          have hz2 := hB2.out.size
          clear hb2 x0 x1 x2 x3 x4
          go_wp2_with fail
          refine (hT2.out _).mono ?_
          rintro e w3 ⟨rfl, hb3⟩
          have hB4 := Lib.hid (hB2.out.trans (hb3.mono hz2))
          obtain ⟨g', q', hA', hcell⟩ := (hrow'.out.later hB4.out) i _ ht'.out
          cases hA'
          have x0 := hcell 0 _ rfl
          dsimp only [Tok.cells] at x0
          rw [Nat.add_zero] at x0
          clear hb3 hcell
          by_cases d0 : b = 0
          · subst d0
            have hjo2 := hjo'.out rfl
            by_cases d1 : i = 0
            · subst d1
              rw [if_neg (show ¬ (prevOf l 0 ≠ none ∧ tk ≠ 4 ∧ prevOf l 0 ≠ some 4) by simp [prevOf])] at hjo2
              have hjo3 := Lib.hid (show Coll l J (0 + 1) (o ++ T1) T2 from ⟨fun h => by rwa [if_neg (not_not_intro h)] at hjo2, fun h => by rw [if_pos h] at hjo2; exact hjo2.symm⟩)
              clear hjo2
              have n1 : ¬ 9223372036854775807 < o.size + T1.size := by omega
              go_wp2_with fail
              go_roundg k1; (case measure => omega); (case rel => exact ⟨0 + 1, o ++ T1, T2, by simp, by rfl, rfl, Lib.hid (by have := hk.out; omega), Lib.hid (by omega), Lib.hid (by have := ho.out; simp only [ByteArray.size_append, one32]; omega), hjo3, Lib.hid (all_next hall.out ht'.out htt), hB4⟩)
            · obtain ⟨i', rfl⟩ : ∃ i', i = i' + 1 := ⟨i - 1, by omega⟩
              have e1 : (0 : Int) < ((i' + 1 : Nat) : Int) := by omega
              obtain ⟨u, hu⟩ : ∃ u, l[i']? = some u := ⟨_, List.getElem?_eq_getElem (by rw [hN.out]; omega)⟩
              have hpu : prevOf l (i' + 1) = some u.kind := by simp [prevOf, hu]
              rw [hpu] at hjo2
              obtain ⟨g2, q2, hA2, hc2⟩ := (hrow'.out.later hB4.out) i' u hu
              cases hA2
              have y0 := hc2 0 _ rfl
              rw [Nat.add_zero] at y0
              obtain ⟨uk, ux, un, ul, uc⟩ := u
              dsimp only [Tok.cells] at y0 hjo2
              clear hc2
              have hu' := Lib.hid hu; clear hu
              have hpu' := Lib.hid hpu; clear hpu
              by_cases d2 : tk = 4
              · subst d2
                rw [if_neg (show ¬ (some uk ≠ none ∧ (4 : Int) ≠ 4 ∧ some uk ≠ some 4) by simp)] at hjo2
                have hjo3 := Lib.hid (show Coll l J (i' + 1 + 1) (o ++ T1) T2 from ⟨fun h => by rwa [if_neg (not_not_intro h)] at hjo2, fun h => by rw [if_pos h] at hjo2; exact hjo2.symm⟩)
                clear hjo2
                have n1 : ¬ 9223372036854775807 < o.size + T1.size := by omega
                go_wp2_with fail
                go_roundg k1; (case measure => omega); (case rel => exact ⟨i' + 1 + 1, o ++ T1, T2, by simp, by rfl, rfl, Lib.hid (by have := hk.out; omega), Lib.hid (by omega), Lib.hid (by have := ho.out; simp only [ByteArray.size_append, one32]; omega), hjo3, Lib.hid (all_next hall.out ht'.out htt), hB4⟩)
              · have d2' : (tk == 4) = false := by simp [d2]
                have d2'' : (tk != 4) = true := by simp [d2]
                by_cases d3 : uk = 4
                · subst d3
                  rw [if_neg (show ¬ (some (4 : Int) ≠ none ∧ tk ≠ 4 ∧ some (4 : Int) ≠ some 4) by simp)] at hjo2
                  have hjo3 := Lib.hid (show Coll l J (i' + 1 + 1) (o ++ T1) T2 from ⟨fun h => by rwa [if_neg (not_not_intro h)] at hjo2, fun h => by rw [if_pos h] at hjo2; exact hjo2.symm⟩)
                  clear hjo2
                  have n1 : ¬ 9223372036854775807 < o.size + T1.size := by omega
                  go_wp2_with fail
                  go_roundg k1; (case measure => omega); (case rel => exact ⟨i' + 1 + 1, o ++ T1, T2, by simp, by rfl, rfl, Lib.hid (by have := hk.out; omega), Lib.hid (by omega), Lib.hid (by have := ho.out; simp only [ByteArray.size_append, one32]; omega), hjo3, Lib.hid (all_next hall.out ht'.out htt), hB4⟩)
                · have d3' : (uk == 4) = false := by simp [d3]
                  have d3'' : (uk != 4) = true := by simp [d3]
                  rw [if_pos (show (some uk ≠ none ∧ tk ≠ 4 ∧ some uk ≠ some 4) by simp [d2, d3])] at hjo2
                  have hjo3 := Lib.hid (show Coll l J (i' + 1 + 1) (o ++ ⟨#[32]⟩ ++ T1) T2 from ⟨fun h => by rwa [if_neg (not_not_intro h)] at hjo2, fun h => by rw [if_pos h] at hjo2; exact hjo2.symm⟩)
                  clear hjo2
                  have n1 : ¬ 9223372036854775807 < o.size + 1 := by omega
                  have n2 : ¬ 9223372036854775807 < o.size + 1 + T1.size := by omega
                  go_wp2_with fail
                  go_roundg k1; (case measure => omega); (case rel => exact ⟨i' + 1 + 1, o ++ ⟨#[32]⟩ ++ T1, T2, by simp, by rfl, rfl, Lib.hid (by have := hk.out; omega), Lib.hid (by omega), Lib.hid (by have := ho.out; simp only [ByteArray.size_append, one32]; omega), hjo3, Lib.hid (all_next hall.out ht'.out htt), hB4⟩)
          · have d0' : (b == 0) = false := by simp [d0]
            have d0'' : (b != 0) = true := by simp [d0]
            have hjo3 := Lib.hid (show Coll l J (i + 1) o b from ⟨fun h => absurd h d0, fun h => hj.out.2 d0⟩)
            go_wp2_with fail
            go_roundg k1
            case measure => omega
            case rel => exact ⟨i + 1, o, b, by simp, rfl, rfl, Lib.hid (by have := hk.out; omega), Lib.hid (by omega), Lib.hid (by have := ho.out; omega), hjo3, Lib.hid (all_next hall.out ht'.out htt), hB4⟩
      · have c1' : ¬ (i : Int) < (N : Int) := by omega
        obtain rfl : i = N := by have := hi.out; omega
        have hjoin := Lib.hid (fun W hW => join_calls A c l (by rw [hN.out]; omega) (fun t ht => by
          obtain ⟨j, hj, rfl⟩ := List.getElem_of_mem ht
          have := hall.out j l[j] (by rw [← hN.out]; exact hj) (List.getElem?_eq_getElem hj)
          omega) W hW)
        rw [hN.out, hJ.out] at hjoin
        have hco := hj.out
        go_wp2_with fail
        refine (hjoin.out _ (hrow'.out.later hB.out)).mono ?_
        rintro e w1 ⟨rfl, hb1⟩
        have hB1 := Lib.hid (hB.out.trans (hb1.mono hz))
        have ha := Lib.hid (awake_calls m w1 (by rw [Below.cell hB1.out hm']; exact hm0.out))
        clear hb1
        by_cases d0 : b = 0
        · subst d0
          have e := hco.1 rfl
          rw [List.drop_of_length_le (by rw [hN.out]; exact Nat.le_refl _), joinTo] at e
          subst e
          clear hco
          go_wp2_with fail
          refine ha.out.mono ?_
          rintro e w5 ⟨rfl, hb5⟩
          go_wp2
          go_ret
          exact ⟨rfl, hB1.out.trans (hb5.mono hB1.out.size)⟩
        · have e := hco.2 d0
          subst e
          have d0' : (b == 0) = false := by simp [d0]
          have d0'' : (b != 0) = true := by simp [d0]
          clear hco
          go_wp2_with fail
          refine ha.out.mono ?_
          rintro e w5 ⟨rfl, hb5⟩
          go_wp2
          go_ret
          exact ⟨rfl, hB1.out.trans (hb5.mono hB1.out.size)⟩
end Go.Proofs.YtlhhpbpoioaagaaDoor
