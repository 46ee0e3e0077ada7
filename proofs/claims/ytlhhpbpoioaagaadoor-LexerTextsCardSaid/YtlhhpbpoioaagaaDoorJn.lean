import Derived.Test.YtlhhpbpoioaagaaDoorTx
namespace Go.Proofs.YtlhhpbpoioaagaaDoor
set_option linter.unusedVariables false
set_option linter.unusedSimpArgs false
open Go.RowKit Go.Proofs.YtlhhpbpoioaagaaDoorW.PrintWords Go.Proofs.YtlhhpbpoioaagaaDoorW.PrintLast Go.Proofs.YtlhhpbpoioaagaaDoorW.PrintMore

/-- A slice of tokens that reads as a list. -/
def TokRow (A : Option Addr) (l : List Tok) (w : World) : Prop := ∀ i t, l[i]? = some t → ∃ g o, A = some ⟨g, o, none⟩ ∧ ∀ j u, t.cells[j]? = some u → w.cell? ⟨g, o + (i * 5 + j), none⟩ = some u
theorem TokRow.later {A : Option Addr} {l : List Tok} {w w' : World} (h : TokRow A l w) (hb : Below w.heap.size w w') : TokRow A l w' := fun i t ht => by
  obtain ⟨g, o, hA, hc⟩ := h i t ht
  exact ⟨g, o, hA, fun j u hu => (hb.cell (p := ⟨g, o + (i * 5 + j), none⟩) (World.block_lt_of_cell? w _ (hc j u hu))).trans (hc j u hu)⟩
theorem tokRow_own {w : World} {base n : Nat} {l : List Tok} {A : Option Addr} {c : Nat} (h : w.ownsRow base 37 5 (.slice A n c) n (toks l)) : TokRow A l w := fun i t ht => by
  obtain ⟨g, hA, hc⟩ := own_cell h rfl ht
  exact ⟨g, 0, hA, fun j u hu => by rw [Nat.zero_add]; exact hc j u hu⟩

/-- The text of tokens: (text, error). -/
def joinTo : List Tok → Option Int → ByteArray → ByteArray × Int
  | [], _, o => (o, 0)
  | t :: r, p, o => if (textT t.kind t.text t.n).2 ≠ 0 then (⟨#[]⟩, (textT t.kind t.text t.n).2)
      else joinTo r (some t.kind) ((if p ≠ none ∧ t.kind ≠ 4 ∧ p ≠ some 4 then o ++ ⟨#[32]⟩ else o) ++ (textT t.kind t.text t.n).1)
def prevOf (l : List Tok) : Nat → Option Int
  | 0 => none
  | i + 1 => l[i]?.map (·.kind)
theorem textT_size (k : Int) (tx : ByteArray) (n : Int) : (textT k tx n).1.size ≤ tx.size + 5 := by
  unfold textT
  have h2 := hexTo_size 2 n.toNat ⟨#[]⟩
  have h4 := hexTo_size 4 n.toNat ⟨#[]⟩
  have e0 : (⟨#[]⟩ : ByteArray).size = 0 := rfl
  have e1 : (⟨#[36]⟩ : ByteArray).size = 1 := rfl
  have e2 : (⟨#[46, 46]⟩ : ByteArray).size = 2 := rfl
  have e3 : (⟨#[10]⟩ : ByteArray).size = 1 := rfl
  rw [e0] at h2 h4
  repeat' split
  all_goals (simp only [ByteArray.size_append]; omega)
theorem isB_later {B b : Nat} {bs : List Value} {w w' : World} (h : Lib.IsBuilder 82 5 B b bs w) (hb : Below w.heap.size w w') : Lib.IsBuilder 82 5 B b bs w' := by
  rcases h with ⟨h1, v, h2, h3, h4⟩ | ⟨h1, v, h2, h3, h4⟩
  · exact .inl ⟨h1, v, blk_below h2 hb, own_later h3 hb, h4⟩
  · exact .inr ⟨h1, v, blk_below h2 hb, own_later h3 hb, h4⟩
def JoinPost (R : ByteArray × Int) (w : World) (e : Ending) (w' : World) : Prop := e = .returned (.tuple #[.string R.1, .int .i64 R.2]) ∧ Below w.heap.size w w'
theorem bytes_app (o s : ByteArray) : Lib.byteCells o.data.toList ++ Lib.strCells s = Lib.byteCells (o ++ s).data.toList := by
  simp [Lib.byteCells, Lib.strCells, ByteArray.data_append]
theorem bytes_one (o : ByteArray) : Lib.byteCells o.data.toList ++ [.int .u8 32] = Lib.byteCells (o ++ ⟨#[32]⟩).data.toList := by
  simp [Lib.byteCells, ByteArray.data_append]

set_option maxHeartbeats 4000000 in
set_option maxRecDepth 100000 in
theorem join_calls (A : Option Addr) (c : Nat) (l : List Tok) (hl : l.length ≤ 100000) (htx : ∀ t ∈ l, t.text.size ≤ 1000) (w : World) (hrow : TokRow A l w) :
    Calls Tryd.prog 18 #[.slice A l.length c] w (JoinPost (joinTo l none ⟨#[]⟩) w) := by
  obtain ⟨R, hR⟩ : ∃ R, Hid (joinTo l none ⟨#[]⟩ = R) := ⟨_, Lib.hid rfl⟩
  rw [hR.out]
  have hrow' := Lib.hid hrow; clear hrow
  obtain ⟨N, hN⟩ : ∃ N, Hid (l.length = N) := ⟨_, Lib.hid rfl⟩
  rw [hN.out] at hl ⊢
  have htx' := Lib.hid htx; clear htx
  have hbl := Lib.hid (Lib.fresh_isBuilder 82 5 w)
  have hB0 := Lib.hid ((Below.refl w.heap.size w).alloc (Nat.le_refl _) (.cells #[.pointer none, .slice none 0 0] 82))
  go_enter Tryd.func18, Tryd.ntmps18
  go_wp2_with fail
  go_loopg [11] N (fun kq v11 w' => ∃ (i : Nat) (o : ByteArray), v11 = .int .i64 (i : Int) ∧ Hid (N - i = kq) ∧ Hid (i ≤ N) ∧ Hid (o.size ≤ 1006 * i) ∧ Hid (joinTo (l.drop i) (prevOf l i) o = R) ∧ Hid (Lib.IsBuilder 82 5 w.heap.size w.heap.size (Lib.byteCells o.data.toList) w') ∧ Hid (Below w.heap.size w w'))
  case atStart => exact ⟨0, ⟨#[]⟩, rfl, Lib.hid rfl, Lib.hid (Nat.zero_le _), Lib.hid (Nat.zero_le _), hR, hbl, hB0⟩
  case round =>
    obtain ⟨i, o, rfl, hk, hi, ho, hj, hb, hB⟩ := hrel
    have hos : o.size ≤ 1006 * 100000 := by have := ho.out; have := hi.out; omega
    have hlen : (Lib.byteCells o.data.toList).length = o.size := by rw [Lib.byteCells_length, size_list]
    have hz := hB.out.size
    clear hbl hB0
    by_cases c1 : i < N
    · have c1' : (i : Int) < (N : Int) := by omega
      obtain ⟨k1, rfl⟩ : ∃ k1, gk = k1 + 1 := ⟨gk - 1, by have := hk.out; omega⟩
      obtain ⟨t, ht⟩ : ∃ t, l[i]? = some t := ⟨_, List.getElem?_eq_getElem (by rw [hN.out]; exact c1)⟩
      have htt := htx'.out t (List.mem_of_getElem? ht)
      have hsz := textT_size t.kind t.text t.n
      obtain ⟨g, q, rfl, hcell⟩ := (hrow'.out.later hB.out) i t ht
      have hjo := hj.out
      rw [show l.drop i = t :: l.drop (i + 1) by rw [List.drop_eq_getElem_cons (by rw [hN.out]; exact c1)]; congr 1; rw [List.getElem?_eq_getElem (by rw [hN.out]; exact c1)] at ht; exact Option.some.inj ht, joinTo] at hjo
      have hp : prevOf l (i + 1) = some t.kind := by simp [prevOf, ht]
      rw [← hp] at hjo
      obtain ⟨tk, tx, tn, tl, tc⟩ := t
      dsimp only at htt hsz hjo hp
      have x0 := hcell 0 _ rfl
      have x1 := hcell 1 _ rfl
      have x2 := hcell 2 _ rfl
      have x3 := hcell 3 _ rfl
      have x4 := hcell 4 _ rfl
      dsimp only [Tok.cells] at x0 x1 x2 x3 x4
      rw [Nat.add_zero] at x0
      rw [← Nat.add_assoc] at x1 x2 x3 x4
      have hgl := World.block_lt_of_cell? wr _ x0
      have hne : g ≠ wr.heap.size := by dsimp only at hgl; omega
      have hT := Lib.hid (fun W => text_calls tk tx tn tl tc W)
      generalize textT tk tx tn = T at *
      obtain ⟨T1, T2⟩ := T
      dsimp only at hsz hjo hT
      have hjo' := Lib.hid hjo; clear hjo
      have hp' := Lib.hid hp; clear hp
      have hcell' := Lib.hid hcell; clear hcell
      have ht' := Lib.hid ht; clear ht
      have hlen' := Lib.hid hlen; clear hlen
      have hbk := Lib.hid (blk_new wr (.cells #[.int .i64 tk, .string tx, .int .i64 tn, .int .i64 tl, .int .i64 tc] 37))
      have hBd := Lib.hid ((hB.out.alloc hz (.cells #[.int .i64 tk, .string tx, .int .i64 tn, .int .i64 tl, .int .i64 tc] 37)))
      go_wp2_with fail
      refine (hT.out _).mono ?_
      rintro e w1 ⟨rfl, hb1⟩
      have hz1 := hb1.size
      have hb3 := Lib.hid (isB_later (isB_later hb.out ((Below.refl _ wr).alloc (Nat.le_refl _) (.cells #[.int .i64 tk, .string tx, .int .i64 tn, .int .i64 tl, .int .i64 tc] 37))) hb1)
      have hB3 := Lib.hid (hBd.out.trans (hb1.mono (by simp; omega)))
      have hr3 := Lib.hid (hrow'.out.later hB3.out)
      have k0 : w1.cell? ⟨wr.heap.size, 0, none⟩ = some (.int .i64 tk) := (blk_cell (blk_below hbk.out hb1) 0).trans rfl
      have hz3 : w.heap.size ≤ w1.heap.size := hB3.out.size
      clear x0 x1 x2 x3 x4 hb1 hBd hz1
      by_cases d0 : T2 = 0
      · subst d0
        have hjo2 := hjo'.out
        rw [if_neg (by simp)] at hjo2
        by_cases d1 : i = 0
        · subst d1
          rw [if_neg (by simp [prevOf])] at hjo2
          have hjo3 := Lib.hid hjo2; clear hjo2
          (go_wp2_with fail; refine (WriteString_calls w.heap.size w.heap.size _ T1 _ hb3.out (by rw [hlen'.out]; omega) (by omega) hz3).mono ?_; rintro e w2 ⟨rfl, hbW, hBW⟩; have hB4 := Lib.hid (hB3.out.trans hBW); have hbW' := Lib.hid hbW; clear hbW hBW k0; go_wp2_with fail; go_roundg k1; (case measure => omega); (case rel => exact ⟨0 + 1, o ++ T1, by simp, Lib.hid (by have := hk.out; omega), Lib.hid (by omega), Lib.hid (by have := ho.out; rw [ByteArray.size_append]; omega), hjo3, Lib.hid (by rw [← bytes_app]; exact hbW'.out), hB4⟩))
        · obtain ⟨i', rfl⟩ : ∃ i', i = i' + 1 := ⟨i - 1, by omega⟩
          have e1 : (0 : Int) < ((i' + 1 : Nat) : Int) := by omega
          obtain ⟨u, hu⟩ : ∃ u, l[i']? = some u := ⟨_, List.getElem?_eq_getElem (by rw [hN.out]; omega)⟩
          have hpu : prevOf l (i' + 1) = some u.kind := by simp [prevOf, hu]
          rw [hpu] at hjo2
          obtain ⟨g2, q2, hA2, hc2⟩ := hr3.out i' u hu
          cases hA2
          have y0 := hc2 0 _ rfl
          rw [Nat.add_zero] at y0
          obtain ⟨uk, ux, un, ul, uc⟩ := u
          dsimp only [Tok.cells] at y0 hjo2
          clear hc2
          have hu' := Lib.hid hu; clear hu
          have hpu' := Lib.hid hpu; clear hpu
          by_cases d2 : tk = 4
          · subst d2
            rw [if_neg (by simp)] at hjo2
            have hjo3 := Lib.hid hjo2; clear hjo2
            (go_wp2_with fail; refine (WriteString_calls w.heap.size w.heap.size _ T1 _ hb3.out (by rw [hlen'.out]; omega) (by omega) hz3).mono ?_; rintro e w2 ⟨rfl, hbW, hBW⟩; have hB4 := Lib.hid (hB3.out.trans hBW); have hbW' := Lib.hid hbW; clear hbW hBW k0; go_wp2_with fail; go_roundg k1; (case measure => omega); (case rel => exact ⟨i' + 1 + 1, o ++ T1, by simp, Lib.hid (by have := hk.out; omega), Lib.hid (by omega), Lib.hid (by have := ho.out; rw [ByteArray.size_append]; omega), hjo3, Lib.hid (by rw [← bytes_app]; exact hbW'.out), hB4⟩))
          · have d2' : (tk == 4) = false := by simp [d2]
            by_cases d3 : uk = 4
            · subst d3
              rw [if_neg (by simp)] at hjo2
              have hjo3 := Lib.hid hjo2; clear hjo2
              (go_wp2_with fail; refine (WriteString_calls w.heap.size w.heap.size _ T1 _ hb3.out (by rw [hlen'.out]; omega) (by omega) hz3).mono ?_; rintro e w2 ⟨rfl, hbW, hBW⟩; have hB4 := Lib.hid (hB3.out.trans hBW); have hbW' := Lib.hid hbW; clear hbW hBW k0; go_wp2_with fail; go_roundg k1; (case measure => omega); (case rel => exact ⟨i' + 1 + 1, o ++ T1, by simp, Lib.hid (by have := hk.out; omega), Lib.hid (by omega), Lib.hid (by have := ho.out; rw [ByteArray.size_append]; omega), hjo3, Lib.hid (by rw [← bytes_app]; exact hbW'.out), hB4⟩))
            · have d3' : (uk == 4) = false := by simp [d3]
              rw [if_pos (by simp [d2, d3])] at hjo2
              have hjo3 := Lib.hid hjo2; clear hjo2
              have n2 : (tk != 4) = true := by simp [d2]
              have n3 : (uk != 4) = true := by simp [d3]
              go_wp2_with fail
              refine (WriteByte_calls w.heap.size w.heap.size _ 32 _ hb3.out (by rw [hlen'.out]; omega) hz3).mono ?_
              rintro e w2 ⟨rfl, hbW, hBW⟩
              have hB4 := Lib.hid (hB3.out.trans hBW)
              have hbW' := Lib.hid (show Lib.IsBuilder 82 5 w.heap.size w.heap.size (Lib.byteCells (o ++ ⟨#[32]⟩).data.toList) w2 by rw [← bytes_one]; exact hbW)
              have hlen2 := Lib.hid (show (Lib.byteCells (o ++ ⟨#[32]⟩).data.toList).length = o.size + 1 by rw [Lib.byteCells_length, size_list, ByteArray.size_append]; rfl)
              have hz4 : w.heap.size ≤ w2.heap.size := hB4.out.size
              clear hbW hBW k0 y0
              go_wp2_with fail
              refine (WriteString_calls w.heap.size w.heap.size _ T1 _ hbW'.out (by rw [hlen2.out]; omega) (by omega) hz4).mono ?_
              rintro e w3 ⟨rfl, hbW2, hBW2⟩
              have hB5 := Lib.hid (hB4.out.trans hBW2)
              have hbW2' := Lib.hid hbW2
              clear hbW2 hBW2
              go_wp2_with fail
              go_roundg k1
              case measure => omega
              case rel => exact ⟨i' + 1 + 1, o ++ ⟨#[32]⟩ ++ T1, by simp, Lib.hid (by have := hk.out; omega), Lib.hid (by omega), Lib.hid (by have := ho.out; rw [ByteArray.size_append, ByteArray.size_append]; have : (⟨#[32]⟩ : ByteArray).size = 1 := rfl; omega), hjo3, Lib.hid (by rw [← bytes_app]; exact hbW2'.out), hB5⟩
      · have hjo2 := hjo'.out
        rw [if_pos (by simpa using d0)] at hjo2
        subst hjo2
        have d0' : (T2 == 0) = false := by simp [d0]
        go_wp2_with fail
        go_ret2
        exact ⟨rfl, hB3.out⟩
    · have c1' : ¬ (i : Int) < (N : Int) := by omega
      have hjo := hj.out
      rw [List.drop_of_length_le (by rw [hN.out]; omega), joinTo] at hjo
      subst hjo
      have hst := Lib.hid (Tryd.Builder_String_any w.heap.size w.heap.size o.data.toList wr hb.out hz)
      go_wp2_with fail
      refine hst.out.mono ?_
      rintro e w1 ⟨rfl, hb1⟩
      go_wp2_with fail
      go_ret2
      exact ⟨rfl, hB.out.trans hb1⟩
end Go.Proofs.YtlhhpbpoioaagaaDoor
