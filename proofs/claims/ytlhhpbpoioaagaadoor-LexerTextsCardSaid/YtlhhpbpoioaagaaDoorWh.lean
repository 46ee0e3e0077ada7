import Derived.Test.YtlhhpbpoioaagaaDoorWg
import Derived.Test.YtlhhpbpoioaagaaDoorLines
namespace Go.Proofs.YtlhhpbpoioaagaaDoor
set_option linter.unusedVariables false
set_option linter.unusedSimpArgs false
open Go.RowKit Go.Proofs.YtlhhpbpoioaagaaDoorW.PrintWords Go.Proofs.YtlhhpbpoioaagaaDoorW.PrintLast Go.Proofs.YtlhhpbpoioaagaaDoorW.PrintMore

theorem append_row {P : Program} {ops : Array Oper} {rest : List Oper} {o : Oper} {ac : Act} {W : World} {Q : Exit → Act → World → Prop} (hgd : o.guard = none) (s x : Operand) (t : TypeId)
    (ho : o.op = .call { callee := .builtin .append, args := #[s, x], argTypes := #[t, t] })
    (base : Nat) (e : TypeId) (z : Value) (size bytes : Nat) (ht : P.underlying t = some (.slice e)) (hinfo : (P.info? e).map (fun i => (i.zero, i.size, i.bytes)) = some (some z, size, bytes)) (hz : z.cells.size = size) (hs0 : 0 < size)
    (v : Value) (n : Nat) (xs : List Value) (hs : ac.eval s = v) (hown : W.ownsRow base e size v n xs)
    (v2 : Value) (base2 m : Nat) (ys : List Value) (hx : ac.eval x = v2) (hown2 : W.ownsRow base2 e size v2 m ys) (h1 : ∀ u ∈ ys, u.oneCell' = true)
    (hb : (n + m) * bytes ≤ 140737488355328) (hb0 : 0 < bytes) (hbase : base ≤ W.heap.size)
    (h : ∀ v1 w', w'.ownsRow base e size v1 (n + m) (xs ++ ys) → W.grownBy w' v.ownBlock → wpList P ops Q rest (ac.put o.dst v1) w') :
    wpList P ops Q (o :: rest) ac W := by
  obtain ⟨i0, hi, hzz⟩ := Option.map_eq_some_iff.1 hinfo
  simp only [Prod.mk.injEq] at hzz
  obtain ⟨hz0, hz1, hz2⟩ := hzz
  have hnm : n + m ≤ 140737488355328 := Nat.le_trans (Nat.le_mul_of_pos_right _ hb0) hb
  have hrun : ∃ v1 w1, (Builtin.append_ #[t, t] o.type #[v, v2]).run P W = .ok v1 w1 ∧ w1.ownsRow base e size v1 (n + m) (xs ++ ys) ∧ W.grownBy w1 v.ownBlock := by
    have hl2 := hown2.1
    rcases hown2.2 with ⟨rfl, rfl⟩ | ⟨g2, cap2, cur2, rfl, _, hg2, hle2, _, hsz2, htk⟩
    · have hy : ys = [] := List.eq_nil_of_length_eq_zero (by rw [hl2]; simp)
      subst hy
      refine ⟨v, W, ?_, by simpa using hown, World.grownBy.refl W _⟩
      rcases hown.2 with ⟨rfl, hn⟩ | ⟨g, cap, cur, rfl, _, _, hnc, _⟩
      · simp [Builtin.append_, run_underlying ht, sizeOf, typeInfo, hi, Builtin.lenOf, Builtin.firstCells]
      · simp [Builtin.append_, run_underlying ht, sizeOf, typeInfo, hi, Builtin.lenOf, Builtin.firstCells, hnc, storeCells]
    · obtain ⟨v1, w1, hrun, h2, hg, _, _⟩ := run_append_own_at (P := P) W base t o.type e i0 z size bytes ht hi hz0 hz1 hz2 hz hs0 v n xs hown ⟨g2, 0, none⟩ m cap2 ys hl2 (fun j u hj => by
        have hj2 : j < m * size := by rw [← hl2]; exact (List.getElem?_eq_some_iff.1 hj).1
        rw [show (⟨g2, 0, none⟩ : Addr).add j = ⟨g2, j, none⟩ by unfold Addr.add; split <;> simp_all]
        rw [blk_cell hg2 j, ← Array.getElem?_toList, ← hj, ← htk, List.getElem?_take_of_lt hj2]) h1 (by simp only [maxLen]; omega) hb hbase
      exact ⟨v1, w1, hrun, h2, hg⟩
  obtain ⟨v1, w1, hr, h2, hg⟩ := hrun
  refine wpList_plain hgd fun K hK => ?_
  unfold Oper.wp execOp
  simp only [ho, resolve, invoke, builtin, Sem.run_bind, Sem.run_pure, Result.andThen_ok, List.map_toArray, List.map_cons, List.map_nil, hs, hx, hr]
  exact hK _ _ (h v1 w1 h2 hg)

theorem toks_cell (l : List Tok) : ∀ u ∈ toks l, u.oneCell' = true := by
  intro u hu
  simp only [toks, List.mem_flatMap] at hu
  obtain ⟨t, _, ht⟩ := hu
  simp only [Tok.cells, List.mem_cons, List.not_mem_nil, or_false] at ht
  rcases ht with rfl | rfl | rfl | rfl | rfl <;> rfl
theorem lineT_len (s : ByteArray) (n : Int) : ∀ k i last l, i ≤ s.size → (lineT s n k i last l).2.2.length ≤ l.length + (s.size - i) + 1
  | 0, i, last, l, hi => by simp [lineT]; omega
  | k + 1, i, last, l, hi => by
    rw [lineT_succ]
    split
    · dsimp only
      split
      · simp
      · simp
    · rename_i h1
      simp only [not_or] at h1
      split
      · have := lineT_len s n k (i + 1) last l (by omega); omega
      · split
        · simp
        · rename_i h3
          have h4 := oneT_to s i (by omega) (by simpa using h3)
          have := lineT_len s n k (oneT s i).fin (oneT s i).fin (l ++ [⟨(oneT s i).kind, (oneT s i).text, (oneT s i).n, n, i + 1⟩]) h4.2
          simp only [List.length_append, List.length_singleton] at this
          omega
theorem lineR_len (s : ByteArray) (n : Int) : (lineR s n 0 0 []).2.2.length ≤ s.size + 1 := by
  have := lineT_len s n (s.size + 1 - 0) 0 0 [] (Nat.zero_le _); simpa [lineR] using this

def ScanAll (R : Int × Int × Int × List Tok) (w : World) (e : Ending) (w' : World) : Prop :=
  ∃ v, e = .returned (.tuple #[v, .agg #[.int .i64 R.1, .int .i64 R.2.1], .int .i64 R.2.2.1]) ∧ w'.ownsRow w.heap.size 37 5 v R.2.2.2.length (toks R.2.2.2) ∧ Below w.heap.size w w'

set_option maxHeartbeats 1000000 in
set_option maxRecDepth 100000 in
theorem Scan_long (s : ByteArray) (hs : 65536 < s.size) (w : World) : Calls Tryd.prog 12 #[.string s] w (ScanAll (0, 0, 12, []) w) := by
  have hs' : (65536 : Int) < (s.size : Int) := by omega
  go_enter Tryd.func12, Tryd.ntmps12
  go_wp2
  refine bodyPost_ret (v := .tuple #[.slice none 0 0, .agg #[.int .i64 0, .int .i64 0], .int .i64 12]) (by simp [results, Tryd.results12, go_sem]) rfl ⟨_, rfl, World.ownsRow_nil _ _ _ _, ?_⟩
  repeat (first | exact Below.refl _ _ | refine Below.drew ?_ | refine Below.alloc ?_ (by simp <;> omega) _ | refine Below.setCell ?_ (by simp <;> omega) _)

set_option maxHeartbeats 1000000 in
set_option maxRecDepth 100000 in
theorem Scan_lines (s : ByteArray) (hs : s.size ≤ 65536) (m : Int) (w : World) (hm : w.cell? ⟨0, 0, none⟩ = some (.int .i64 m)) : Calls Tryd.prog 12 #[.string s] w (ScanAll (linesT (linesOf s) 1 []) w) := by
  have hs' : ¬ (65536 : Int) < (s.size : Int) := by omega
  obtain ⟨R, hR⟩ : ∃ R, linesT (linesOf s) 1 [] = R := ⟨_, rfl⟩
  rw [hR]
  have hR' := Lib.hid hR; clear hR
  go_enter Tryd.func12, Tryd.ntmps12
  go_wp2_with fail
  refine (Tryd.strings_Split s lf m _ (by omega) (by rw [Below.cell ((Below.refl w.heap.size w).alloc (Nat.le_refl _) _) (World.block_lt_of_cell? w _ hm)]; exact hm) (by decide)).mono ?_
  rintro e w1 ⟨rfl, hw1⟩
  have hb1 : w1.heap[w.heap.size + 1]? = some (.cells ((linesOf s).map Value.string).toArray 9 (0, 0)) := by
    rw [hw1]; have h := blk_new (w.alloc (.cells #[.int .i64 0, .int .i64 0] 25)) (.cells ((linesOf s).map Value.string).toArray 9); rw [World.size_alloc] at h; exact h
  have hr1 : w1.heap[w.heap.size]? = some (.cells #[.int .i64 0, .int .i64 0] 25 (0, 0)) := by
    rw [hw1]; exact blk_alloc (blk_new w _) _
  have hB1 : Below w.heap.size w w1 := by rw [hw1]; exact ((Below.refl w.heap.size w).alloc (Nat.le_refl _) _).alloc (by simp) _
  have hz1 : w.heap.size + 2 ≤ w1.heap.size := by rw [hw1]; simp
  have hN := linesOf_len s
  have hNs := linesOf_le s
  have e1 : (w.alloc (.cells #[.int .i64 0, .int .i64 0] 25)).heap.size = w.heap.size + 1 := by simp
  rw [e1, ← hN]
  clear hw1 e1 hN hm
  generalize hb : w.heap.size + 1 = b at hb1 ⊢
  generalize hr : w.heap.size = r at hr1 hB1 hz1 hb ⊢
  generalize linesOf s = L at hR' hb1 hNs ⊢
  have hr' := Lib.hid hr; clear hr
  have hb' := Lib.hid hb; clear hb
  go_wp2_with fail
  go_loopg [5, 18] L.length (fun kq v5 v18 w' => ∃ (j : Nat) (l : List Tok), v18 = .int .i64 (j : Int) ∧ Hid (L.length - j = kq) ∧ Hid (j ≤ L.length) ∧ Hid (l.length ≤ 1001 * j) ∧ Hid (linesT (L.drop j) ((j : Int) + 1) l = R) ∧ Hid (w'.ownsRow r 37 5 v5 l.length (toks l)) ∧ Hid (w'.heap[b]? = some (.cells (L.map Value.string).toArray 9 (0, 0))) ∧ Hid (w'.heap[r]? = some (.cells #[.int .i64 0, .int .i64 0] 25 (0, 0))) ∧ Hid (Below r w w') ∧ Hid (r + 2 ≤ w'.heap.size))
  case atStart => exact ⟨0, [], rfl, Lib.hid rfl, Lib.hid (Nat.zero_le _), Lib.hid (Nat.le_refl _), hR', Lib.hid (World.ownsRow_nil _ _ _ _), Lib.hid hb1, Lib.hid hr1, Lib.hid hB1, Lib.hid hz1⟩
  case round =>
    obtain ⟨j, l, rfl, hk, hj, hl, hRj, hv, hbb, hrr', hB, hz⟩ := hrel
    have hrr := hrr'.out
    clear hb1 hr1 hB1 hz1
    by_cases c1 : j < L.length
    · obtain ⟨x, hx⟩ : ∃ x, L[j]? = some x := ⟨_, List.getElem?_eq_getElem c1⟩
      have hcell : wr.cell? ⟨b, j, none⟩ = some (.string x) := by rw [blk_cell hbb.out]; simp [hx]
      have hRj2 := hRj.out
      rw [show L.drop j = x :: L.drop (j + 1) by rw [List.drop_eq_getElem_cons c1]; congr 1; rw [List.getElem?_eq_getElem c1] at hx; exact Option.some.inj hx, linesT_cons] at hRj2
      have c1' : (j : Int) < (L.length : Int) := by omega
      have hcw : IntKind.i64.wrap ((j : Int) + 1) = (j : Int) + 1 := IntWalk.i64_in _ (by omega)
      have hf0 := blk_frozen hrr 0
      have hf1 := blk_frozen hrr 1
      have hx0 := (blk_cell hrr 0).trans rfl
      have hx1 := (blk_cell hrr 1).trans rfl
      clear hx hRj
      by_cases c2 : 1000 < x.size
      · rw [if_pos c2] at hRj2
        have c2' : (1000 : Int) < (x.size : Int) := by omega
        have hRj3 := Lib.hid hRj2; clear hRj2
        go_wp2_with fail
        refine bodyPost_ret (results_list rfl (by simp) (.tmp (.cell r 25 #[.int .i64 ((j : Int) + 1), .int .i64 1001] (0, 0) _ rfl (blk_put (blk_put hrr 0 _ rfl) 1 _ rfl) Tryd.underlying25 rfl (by kernel_rfl) (.tmp .nil)))) rfl ?_
        rw [← hRj3.out]
        refine ⟨_, rfl, World.ownsRow_nil _ _ _ _, ?_⟩
        rw [hr'.out]
        exact (hB.out.setCell (p := ⟨r, 0, none⟩) (Nat.le_refl _) _).setCell (p := ⟨r, 1, none⟩) (Nat.le_refl _) _
      · rw [if_neg c2] at hRj2
        have c2' : ¬ (1000 : Int) < (x.size : Int) := by omega
        have hlen := lineR_len x ((j : Int) + 1)
        have hsc := scan_calls wr.heap.size x ((j : Int) + 1) wr.heap.size (by omega) (wr.alloc (.cells #[.string x, .int .i64 ((j : Int) + 1), .int .i64 0, .slice none 0 0] 69)) (blk_new _ _) (Nat.le_refl _)
        obtain ⟨k1, rfl⟩ : ∃ k1, gk = k1 + 1 := ⟨gk - 1, by have := hk.out; omega⟩
        obtain ⟨E, hE⟩ : ∃ E, lineR x ((j : Int) + 1) 0 0 [] = E := ⟨_, rfl⟩
        rw [hE] at hRj2 hsc hlen
        have hsc' := Lib.hid hsc; clear hsc hE
        by_cases c3 : E.1 = 0
        · rw [if_neg (by simpa using c3)] at hRj2
          have hRj3 := Lib.hid hRj2; clear hRj2
          go_wp2_with fail
          refine hsc'.out.mono ?_
          rintro e w4 ⟨rfl, hok, hB4⟩
          have hB5 : Below wr.heap.size wr w4 := ((Below.refl _ wr).alloc (Nat.le_refl _) _).trans hB4
          obtain ⟨i2, v2, hl2, hv2⟩ := hok c3
          rw [if_pos c3, if_pos c3]
          have hrr4 := blk_below hrr hB5
          have hbb4 := blk_below hbb.out hB5
          have hv4 := own_later hv.out hB5
          have hB6 : Below r w w4 := hB.out.trans (hB5.mono (by have := hz.out; omega))
          have hz4 : r + 2 ≤ w4.heap.size := Nat.le_trans hz.out hB5.size
          have h3 := hl2.c3
          have hlt4 := hl2.lt
          have hz5 : r ≤ wr.heap.size := by have := hz.out; omega
          clear hok hB4 hB5 hf0 hf1 hx0 hx1 hcell
          have hadd : (l.length + E.2.2.length) * 48 ≤ 140737488355328 := by have := hl.out; omega
          have hadd' := Lib.hid hadd; clear hadd
          go_wp2_with (at_builtin; refine append_row (by rfl) _ _ _ (by rfl) r 37 _ 5 48 Tryd.underlying23 info37 rfl (by decide) u5 l.length (toks l) (by rfl) (by exact hv4.alloc _) v2 wr.heap.size E.2.2.length (toks E.2.2) (by rfl) (by exact hv2.alloc _) (toks_cell E.2.2) hadd'.out (by decide) (by simp; omega) ?_; intro v6 w6 hv6 hg6)
          have hrr5 := blk_alloc hrr4 (.cells #[.int .i64 0, .int .i64 0] 25)
          have hbb5 := blk_alloc hbb4 (.cells #[.int .i64 0, .int .i64 0] 25)
          have hv5 := hv4.alloc (.cells #[.int .i64 0, .int .i64 0] 25)
          have hrr6 := blk_grown hrr5 hg6 (own_ne hv5 hrr5 (by decide))
          have hbb6 := blk_grown hbb5 hg6 (own_ne hv5 hbb5 (by decide))
          have hB7 := (hB6.alloc (by omega) (.cells #[.int .i64 0, .int .i64 0] 25)).grown hg6 (by simp; omega) (own_below hv5)
          have hz7 : r + 2 ≤ w6.heap.size := by have := hg6.size; simp at this; omega
          go_roundg k1
          case measure => omega
          case rel => exact ⟨j + 1, l ++ E.2.2, by simp, Lib.hid (by have := hk.out; omega), Lib.hid (by omega), Lib.hid (by have := hl.out; simp; omega), Lib.hid (by have := hRj3.out; simpa using this), Lib.hid (by simpa using hv6), Lib.hid hbb6, Lib.hid hrr6, Lib.hid hB7, Lib.hid hz7⟩
        · rw [if_pos c3] at hRj2
          have hRj3 := Lib.hid hRj2; clear hRj2
          have b6 : (E.1 == 0) = false := by simp [c3]
          go_wp2_with fail
          refine hsc'.out.mono ?_
          rintro e w4 ⟨rfl, hok, hB4⟩
          have hB5 : Below wr.heap.size wr w4 := ((Below.refl _ wr).alloc (Nat.le_refl _) _).trans hB4
          rw [if_neg c3, if_neg c3]
          have hrr4 := blk_below hrr hB5
          have hB6 : Below r w w4 := hB.out.trans (hB5.mono (by have := hz.out; omega))
          have hz4 : r + 2 ≤ w4.heap.size := Nat.le_trans hz.out hB5.size
          clear hok hB4 hB5 hf0 hf1 hx0 hx1 hcell
          have hf0 := blk_frozen hrr4 0
          have hf1 := blk_frozen hrr4 1
          have hx0 := (blk_cell hrr4 0).trans rfl
          have hx1 := (blk_cell hrr4 1).trans rfl
          have hlt := blk_lt hrr4
          go_wp2_with fail
          go_region
          go_wp2
          refine bodyPost_ret (results_list rfl (by simp) (.tmp (.cell r 25 #[.int .i64 ((j : Int) + 1), .int .i64 ((E.2.1 : Int) + 1)] (0, 0) _ rfl (blk_alloc (blk_put (blk_put hrr4 0 _ rfl) 1 _ rfl) _) Tryd.underlying25 rfl (by kernel_rfl) (.tmp .nil)))) rfl ?_
          rw [← hRj3.out]
          refine ⟨_, rfl, World.ownsRow_nil _ _ _ _, ?_⟩
          rw [hr'.out]
          exact (((hB6.setCell (p := ⟨r, 0, none⟩) (Nat.le_refl _) (.int .i64 ((j : Int) + 1))).setCell (p := ⟨r, 1, none⟩) (Nat.le_refl _) (.int .i64 ((E.2.1 : Int) + 1))).alloc (by simp [World.setCell]; omega) _).drew

    · have c1' : ¬ (j : Int) < (L.length : Int) := by omega
      have hfin : R = (0, 0, 0, l) := by rw [← hRj.out, List.drop_of_length_le (by omega)]; rfl
      have hfin' := Lib.hid hfin; clear hfin
      have hf0 := blk_frozen hrr 0
      have hf1 := blk_frozen hrr 1
      have hx0 := (blk_cell hrr 0).trans rfl
      have hx1 := (blk_cell hrr 1).trans rfl
      go_wp2_with fail
      refine bodyPost_ret (results_list rfl (by simp) (.tmp (.cell r 25 #[.int .i64 0, .int .i64 0] (0, 0) _ rfl (blk_put (blk_put hrr 0 _ rfl) 1 _ rfl) Tryd.underlying25 rfl (by kernel_rfl) (.tmp .nil)))) rfl ?_
      rw [hfin'.out]
      refine ⟨_, rfl, ?_, ?_⟩
      · rw [hr'.out]
        exact own_far (own_far hv.out (p := ⟨r, 0, none⟩) (own_ne hv.out hrr (by decide)) _) (p := ⟨r, 1, none⟩) (own_ne hv.out hrr (by decide)) _
      · rw [hr'.out]
        exact (hB.out.setCell (p := ⟨r, 0, none⟩) (Nat.le_refl _) _).setCell (p := ⟨r, 1, none⟩) (Nat.le_refl _) _

/-- lexer.Scan: what it answers. -/
theorem Scan_calls (s : ByteArray) (m : Int) (w : World) (hm : w.cell? ⟨0, 0, none⟩ = some (.int .i64 m)) : Calls Tryd.prog 12 #[.string s] w (ScanAll (scanT s) w) := by
  unfold scanT
  split
  · exact Scan_long s (by assumption) w
  · exact Scan_lines s (by omega) m w hm
end Go.Proofs.YtlhhpbpoioaagaaDoor
