import Derived.Test.YtlhhpbpoioaagaaDoorWa
import Derived.Test.YtlhhpbpoioaagaaDoorMix
import Derived.Deep.AppendLies
namespace Go.Proofs.YtlhhpbpoioaagaaDoor
set_option linter.unusedVariables false
set_option linter.unusedSimpArgs false
open Go.RowKit Go.Proofs.YtlhhpbpoioaagaaDoorW.PrintWords Go.Proofs.YtlhhpbpoioaagaaDoorW.PrintLast Go.Proofs.YtlhhpbpoioaagaaDoorW.PrintMore

theorem own_far {w : World} {base n : Nat} {e : TypeId} {size : Nat} {v : Value} {xs : List Value} (h : w.ownsRow base e size v n xs) {p : Addr} (hne : some p.block ≠ v.ownBlock) (u : Value) : (w.setCell p u).ownsRow base e size v n xs := by
  refine ⟨h.1, ?_⟩
  rcases h.2 with h1 | ⟨g, cap, cur, rfl, hb, hg, rest⟩
  · exact .inl h1
  · exact .inr ⟨g, cap, cur, rfl, hb, blk_far hg (by simp [Value.ownBlock] at hne; omega) u, rest⟩
theorem own_ne {w : World} {base n : Nat} {e t : TypeId} {size : Nat} {v : Value} {xs : List Value} (h : w.ownsRow base e size v n xs) {g : Nat} {cs : Array Value} (hg : w.heap[g]? = some (.cells cs t (0, 0))) (hne : e ≠ t) : some g ≠ v.ownBlock := by
  rcases h.2 with ⟨rfl, _⟩ | ⟨g', cap, cur, rfl, hb, hg', rest⟩
  · simp [Value.ownBlock]
  · simp only [Value.ownBlock, ne_eq, Option.some.injEq]
    rintro rfl
    rw [hg'] at hg
    cases hg
    exact hne rfl
theorem own_new {w : World} {base n : Nat} {e : TypeId} {size : Nat} {v : Value} {xs : List Value} (h : w.ownsRow base e size v n xs) : some w.heap.size ≠ v.ownBlock := by
  rcases h.2 with ⟨rfl, _⟩ | ⟨g', cap, cur, rfl, hb, hg', rest⟩
  · simp [Value.ownBlock]
  · have := blk_lt hg'
    simp only [Value.ownBlock, ne_eq, Option.some.injEq]
    omega
theorem own_slice {w : World} {base n : Nat} {e : TypeId} {size : Nat} {v : Value} {xs : List Value} (h : w.ownsRow base e size v n xs) : ∃ A c, v = .slice A n c := by
  rcases h.2 with ⟨rfl, rfl⟩ | ⟨g', cap, cur, rfl, hb, hg', rest⟩
  · exact ⟨_, _, rfl⟩
  · exact ⟨_, _, rfl⟩
theorem own_below {w : World} {base n : Nat} {e : TypeId} {size : Nat} {v : Value} {xs : List Value} (h : w.ownsRow base e size v n xs) : ∀ k, v.ownBlock = some k → base ≤ k := by
  rcases h.2 with ⟨rfl, _⟩ | ⟨g', cap, cur, rfl, hb, hg', rest⟩
  · simp [Value.ownBlock]
  · intro k hk; simp [Value.ownBlock] at hk; omega

set_option maxRecDepth 100000 in
theorem tell_calls (c g : Nat) (s : ByteArray) (n : Int) (i : Nat) (v : Value) (x : Int) (hi : i ≤ 70000) (w : World) (hc : w.heap[c]? = some (.cells #[.pointer (some ⟨g, 0, none⟩)] 67 (0, 0))) (hl : LineAt g s n i v w) :
    Calls Tryd.prog 57 #[.int .i64 x, .pointer (some ⟨c, 0, none⟩)] w fun e w' => e = .returned (.tuple #[.agg #[.int .i64 n, .int .i64 ((i : Int) + 1)], .int .i64 x]) ∧ Below w.heap.size w w' := by
  have hc' := Lib.hid hc; clear hc
  have hl' := Lib.hid hl; clear hl
  go_enter Tryd.func57, Tryd.ntmps57
  go_wp2_with fail
  have hc1 := blk_alloc hc'.out (.cells #[.int .i64 0, .int .i64 0] 25)
  have hl1 : LineAt g s n i v _ := blk_alloc hl'.out (.cells #[.int .i64 0, .int .i64 0] 25)
  have hr1 := blk_new w (.cells #[.int .i64 0, .int .i64 0] 25)
  have hB1 := (Below.refl w.heap.size w).alloc (Nat.le_refl _) (.cells #[.int .i64 0, .int .i64 0] 25)
  generalize w.alloc (.cells #[.int .i64 0, .int .i64 0] 25) = W at hc1 hl1 hr1 hB1 ⊢
  have hS : ∀ (p : Mix2.Keeps (fun W => W.cell? ⟨c, 0, none⟩ = some (.pointer (some ⟨g, 0, none⟩)) ∧ W.cell? ⟨g, 2, none⟩ = some (.int .i64 i))), p.w.cell? ⟨c, 0, none⟩ = some (.pointer (some ⟨g, 0, none⟩)) := fun p => p.h.1
  have hS2 : ∀ (p : Mix2.Keeps (fun W => W.cell? ⟨c, 0, none⟩ = some (.pointer (some ⟨g, 0, none⟩)) ∧ W.cell? ⟨g, 2, none⟩ = some (.int .i64 i))), p.w.cell? ⟨g, 2, none⟩ = some (.int .i64 i) := fun p => p.h.2
  have hNE : Nonempty (Mix2.Keeps (fun W => W.cell? ⟨c, 0, none⟩ = some (.pointer (some ⟨g, 0, none⟩)) ∧ W.cell? ⟨g, 2, none⟩ = some (.int .i64 i))) := ⟨⟨W, (blk_cell hc1 0).trans rfl, hl1.c2⟩⟩
  refine Mix2.wp_region (fun W => W.cell? ⟨c, 0, none⟩ = some (.pointer (some ⟨g, 0, none⟩)) ∧ W.cell? ⟨g, 2, none⟩ = some (.int .i64 i)) (fun k => k == 0 || k == 1 || k == 4) (fun k => k == 5 || k == 7) (by kernel_rfl) (by kernel_rfl) (by kernel_rfl) ⟨(blk_cell hc1 0).trans rfl, hl1.c2⟩ ?_
  repeat (first | (refine Mix2.walk_read rfl rfl (fun K hK => ?_); go_simp; refine hK _ ?_; clear hK K) | (refine Mix2.walk_pure rfl (fun K hK => ?_); go_simp; refine hK _ ?_; clear hK K))
  refine Mix2.walk_last 5 rfl (by intro j hj; simp; omega) (by kernel_rfl) (fun K hK => ?_)
  go_simp
  refine (place_calls g s n i v i hi W.drew hl1).mono ?_
  rintro e w1 ⟨rfl, hb⟩
  replace hb := below_of_drew hb
  refine hK _ _ ?_
  clear hK K hS hS2 hNE
  refine Mix2.walk_pure rfl (fun K hK => ?_); go_simp; refine hK _ ?_; clear hK K
  have hr2 := blk_below hr1 hb
  have hf := blk_frozen hr2 0
  have hf1 := blk_frozen hr2 1
  have hx0 := (blk_cell hr2 0).trans rfl
  have hx1 := (blk_cell hr2 1).trans rfl
  refine Mix2.walk_last 5 rfl (by intro j hj; simp; omega) (by kernel_rfl) (fun K hK => ?_)
  go_simp
  refine hK _ _ ?_
  clear hK K
  refine Mix2.walk_pure rfl (fun K hK => ?_); go_simp; refine hK _ ?_; clear hK K
  refine Mix2.walk_nil ?_
  go_wp2
  refine bodyPost_ret (results_ct rfl _ _ w.heap.size 25 #[.int .i64 n, .int .i64 ((i : Int) + 1)] (0, 0) _ rfl (blk_put (blk_put hr2 0 _ rfl) 1 _ rfl) Tryd.underlying25 rfl (by kernel_rfl)) rfl ⟨rfl, ?_⟩
  exact (((hB1.trans (hb.mono hB1.size))).setCell (Nat.le_refl _) _).setCell (Nat.le_refl _) _

theorem info37 : (Tryd.prog.info? 37).map (fun i => (i.zero, i.size, i.bytes)) = some (some (.agg #[.int .i64 0, .string ⟨#[]⟩, .int .i64 0, .int .i64 0, .int .i64 0]), 5, 48) := by kernel_rfl

theorem append_cells {P : Program} {ops : Array Oper} {o : Oper} {ac : Act} {W : World} {K : Act → World → Prop} {Q : Exit → Act → World → Prop} {E : Prop} (hgd : o.guard = none) (s x : Operand) (t : TypeId)
    (ho : o.op = .call { callee := .builtin .append, args := #[s, x], argTypes := #[t, t] })
    (base : Nat) (e : TypeId) (z : Value) (size bytes : Nat) (ht : P.underlying t = some (.slice e)) (hinfo : (P.info? e).map (fun i => (i.zero, i.size, i.bytes)) = some (some z, size, bytes)) (hz : z.cells.size = size) (hs0 : 0 < size)
    (v : Value) (n : Nat) (xs : List Value) (hs : ac.eval s = v) (hown : W.ownsRow base e size v n xs)
    (m : Nat) (news : List Value) (H : Nat) (hx : ac.eval x = .slice (some ⟨H, 0, none⟩) m m) (hl : news.length = m * size) (hH : W.heap[H]? = some (.cells news.toArray e)) (h1 : ∀ u ∈ news, u.oneCell' = true)
    (hm : 0 < m) (hb : (n + m) * bytes ≤ 140737488355328) (hb0 : 0 < bytes) (hbase : base ≤ W.heap.size)
    (h : ∀ v1 w', w'.ownsRow base e size v1 (n + m) (xs ++ news) → W.grownBy w' v.ownBlock → K (ac.put o.dst v1) w') :
    if Region.wanted o (yielded ops ac.tmps) = true then Oper.wp P o ac W K Q else E := by
  obtain ⟨i0, hi, hzz⟩ := Option.map_eq_some_iff.1 hinfo
  simp only [Prod.mk.injEq] at hzz
  obtain ⟨hz0, hz1, hz2⟩ := hzz
  have hnm : n + m ≤ 140737488355328 := Nat.le_trans (Nat.le_mul_of_pos_right _ hb0) hb
  refine step_append_lies W hgd s x t ho base e i0 z size bytes ht hi hz0 hz1 hz2 hz hs0 v n xs hs hown ⟨H, 0, none⟩ m m news hx hl (World.news_of_block (cs := news.toArray) (t := e) (fr := (0, 0)) hH) h1 hm (by simp only [maxLen]; omega) hb hbase _ rfl ?_
  intro g cap w' h2 h3 h4 h5
  exact h _ w' h2 h3

set_option maxRecDepth 100000 in
theorem add_calls (g : Nat) (s : ByteArray) (n : Int) (i t2 : Nat) (v : Value) (base : Nat) (l : List Tok) (k : Int) (tx : ByteArray) (m : Int) (hi : i ≤ 70000) (hl0 : l.length ≤ 70000) (w : World)
    (hl : LineAt g s n i v w) (hv : w.ownsRow base 37 5 v l.length (toks l)) (hbg : base ≤ g) :
    Calls Tryd.prog 80 #[.pointer (some ⟨g, 0, none⟩), .agg #[.int .i64 k, .string tx, .int .i64 m, .int .i64 0, .int .i64 0], .int .i64 t2] w fun e w' => e = .returned (.tuple #[]) ∧
      ∃ v', LineAt g s n t2 v' w' ∧ w'.ownsRow base 37 5 v' (l ++ [(⟨k, tx, m, n, i + 1⟩ : Tok)]).length (toks (l ++ [(⟨k, tx, m, n, i + 1⟩ : Tok)])) ∧ Below base w w' ∧ KeepBut w w' g v.ownBlock := by
  have h2 := hl.c2
  have hgl := hl.lt
  have hne0 : some w.heap.size ≠ v.ownBlock := own_new hv
  have hng : some g ≠ v.ownBlock := own_ne hv hl (by decide)
  have hl' := Lib.hid hl; clear hl
  have hv' := Lib.hid hv; clear hv
  go_enter Tryd.func80, Tryd.ntmps80
  go_wp2_with fail
  have hl1 : LineAt g s n i v _ := blk_alloc hl'.out (.cells #[.int .i64 k, .string tx, .int .i64 m, .int .i64 0, .int .i64 0] 37)
  have hv1 := hv'.out.alloc (.cells #[.int .i64 k, .string tx, .int .i64 m, .int .i64 0, .int .i64 0] 37)
  have hr1 := blk_new w (.cells #[.int .i64 k, .string tx, .int .i64 m, .int .i64 0, .int .i64 0] 37)
  have hB1 : Below base w _ := (Below.refl base w).alloc (by omega) (.cells #[.int .i64 k, .string tx, .int .i64 m, .int .i64 0, .int .i64 0] 37)
  have hQ1 : KeepBut w _ g v.ownBlock := (KeepBut.refl w g _).trans (KeepBut.of_grown (World.grownBy_alloc w (.cells #[.int .i64 k, .string tx, .int .i64 m, .int .i64 0, .int .i64 0] 37) v.ownBlock) g) (.inl rfl)
  have hz1 : w.heap.size < (w.alloc (.cells #[.int .i64 k, .string tx, .int .i64 m, .int .i64 0, .int .i64 0] 37)).heap.size := by simp
  generalize w.alloc (.cells #[.int .i64 k, .string tx, .int .i64 m, .int .i64 0, .int .i64 0] 37) = W at hl1 hv1 hr1 hB1 hQ1 hz1 ⊢
  clear h2
  refine (place_calls g s n i v i hi W hl1).mono ?_
  rintro e w1 ⟨rfl, hb⟩
  have hl2 : LineAt g s n i v w1 := blk_below hl1 hb
  have hv2 := own_later hv1 hb
  have hr2 := blk_below hr1 hb
  have hB2 := hB1.trans (hb.mono (by omega))
  have hQ2 := hQ1.trans (KeepBut.of_below hb g _) (.inl rfl)
  have hz2 : w.heap.size < w1.heap.size := Nat.lt_of_lt_of_le hz1 hb.size
  clear hl1 hv1 hr1 hB1 hQ1 hz1 hb
  have hf3 := blk_frozen hr2 3
  have hf4 := blk_frozen hr2 4
  have hx3 := (blk_cell hr2 3).trans rfl
  have hx4 := (blk_cell hr2 4).trans rfl
  have hnb : some w.heap.size ≠ v.ownBlock := hne0
  go_wp2_with fail
  have hr3 := blk_put (blk_put hr2 3 (.int .i64 n) rfl) 4 (.int .i64 ((i : Int) + 1)) rfl
  have hl3 : LineAt g s n i v _ := blk_far (blk_far hl2 (p := ⟨w.heap.size, 3, none⟩) (by simp; omega) (.int .i64 n)) (p := ⟨w.heap.size, 4, none⟩) (by simp; omega) (.int .i64 ((i : Int) + 1))
  have hv3 := own_far (own_far hv2 (p := ⟨w.heap.size, 3, none⟩) hnb (.int .i64 n)) (p := ⟨w.heap.size, 4, none⟩) hnb (.int .i64 ((i : Int) + 1))
  have hB3 := (hB2.setCell (p := ⟨w.heap.size, 3, none⟩) (by simp; omega) (.int .i64 n)).setCell (p := ⟨w.heap.size, 4, none⟩) (by simp; omega) (.int .i64 ((i : Int) + 1))
  have hQ3 := keep_far (keep_far hQ2 (p := ⟨w.heap.size, 3, none⟩) (Nat.le_refl _) (.int .i64 n)) (p := ⟨w.heap.size, 4, none⟩) (Nat.le_refl _) (.int .i64 ((i : Int) + 1))
  have hz3 : w.heap.size < ((w1.setCell ⟨w.heap.size, 3, none⟩ (.int .i64 n)).setCell ⟨w.heap.size, 4, none⟩ (.int .i64 ((i : Int) + 1))).heap.size := by simpa [World.setCell] using hz2
  clear hf3 hf4 hx3 hx4
  generalize (w1.setCell ⟨w.heap.size, 3, none⟩ (.int .i64 n)).setCell ⟨w.heap.size, 4, none⟩ (.int .i64 ((i : Int) + 1)) = W at hl3 hv3 hr3 hB3 hQ3 hz3 ⊢
  clear hl2 hv2 hr2 hB2 hQ2 hz2
  generalize hb0 : w.heap.size = b at *
  have hS : ∀ (p : Mix2.Keeps (fun W => W.cell? ⟨g, 3, none⟩ = some v ∧ ∀ q, W.cell? ⟨b, q, none⟩ = (#[.int .i64 k, .string tx, .int .i64 m, .int .i64 n, .int .i64 ((i : Int) + 1)] : Array Value)[q]?)), p.w.cell? ⟨g, 3, none⟩ = some v := fun p => p.h.1
  have hS2 : ∀ (p : Mix2.Keeps (fun W => W.cell? ⟨g, 3, none⟩ = some v ∧ ∀ q, W.cell? ⟨b, q, none⟩ = (#[.int .i64 k, .string tx, .int .i64 m, .int .i64 n, .int .i64 ((i : Int) + 1)] : Array Value)[q]?)) q, p.w.cell? ⟨b, q, none⟩ = (#[.int .i64 k, .string tx, .int .i64 m, .int .i64 n, .int .i64 ((i : Int) + 1)] : Array Value)[q]? := fun p => p.h.2
  have hS0 : W.cell? ⟨g, 3, none⟩ = some v ∧ ∀ q, W.cell? ⟨b, q, none⟩ = (#[.int .i64 k, .string tx, .int .i64 m, .int .i64 n, .int .i64 ((i : Int) + 1)] : Array Value)[q]? := ⟨hl3.c3, fun j => blk_cell hr3 j⟩
  have hNE : Nonempty (Mix2.Keeps (fun W => W.cell? ⟨g, 3, none⟩ = some v ∧ ∀ q, W.cell? ⟨b, q, none⟩ = (#[.int .i64 k, .string tx, .int .i64 m, .int .i64 n, .int .i64 ((i : Int) + 1)] : Array Value)[q]?)) := ⟨⟨W, hS0⟩⟩
  refine Mix2.wp_region (fun W => W.cell? ⟨g, 3, none⟩ = some v ∧ ∀ q, W.cell? ⟨b, q, none⟩ = (#[.int .i64 k, .string tx, .int .i64 m, .int .i64 n, .int .i64 ((i : Int) + 1)] : Array Value)[q]?) (fun k => k == 5 || k == 6) (fun k => k == 7 || k == 8 || k == 12 || k == 15) (by kernel_rfl) (by kernel_rfl) (by kernel_rfl) hS0 ?_
  repeat (first | (refine Mix2.walk_read rfl rfl (fun K hK => ?_); go_simp; refine hK _ ?_; clear hK K) | (refine Mix2.walk_pure rfl (fun K hK => ?_); go_simp; refine hK _ ?_; clear hK K))
  replace hB3 := hB3.drew
  replace hQ3 := keep_drew hQ3
  change LineAt g s n i v W.drew at hl3
  change W.drew.ownsRow base 37 5 v l.length (toks l) at hv3
  change W.drew.heap[b]? = _ at hr3
  change b < W.drew.heap.size at hz3
  clear hS0 hNE
  generalize W.drew = W2 at hl3 hv3 hr3 hz3 hB3 hQ3 ⊢
  clear W
  obtain ⟨W, rfl⟩ : ∃ W, W = W2 := ⟨_, rfl⟩
  refine Mix2.walk_eff rfl (fun K hK => ?_)
  go_simp
  have hl4 : LineAt g s n i v _ := blk_alloc hl3 (.cells (#[.int .i64 k, .string tx, .int .i64 m, .int .i64 n, .int .i64 ((i : Int) + 1)] : Array Value) 37)
  have hv4 := hv3.alloc (.cells (#[.int .i64 k, .string tx, .int .i64 m, .int .i64 n, .int .i64 ((i : Int) + 1)] : Array Value) 37)
  have hr4 := blk_new W (.cells (#[.int .i64 k, .string tx, .int .i64 m, .int .i64 n, .int .i64 ((i : Int) + 1)] : Array Value) 37)
  have hr5 := blk_alloc hr3 (.cells (#[.int .i64 k, .string tx, .int .i64 m, .int .i64 n, .int .i64 ((i : Int) + 1)] : Array Value) 37)
  have hB4 := hB3.alloc (by omega) (.cells (#[.int .i64 k, .string tx, .int .i64 m, .int .i64 n, .int .i64 ((i : Int) + 1)] : Array Value) 37)
  have hQ4 := hQ3.trans (KeepBut.of_grown (World.grownBy_alloc W (.cells (#[.int .i64 k, .string tx, .int .i64 m, .int .i64 n, .int .i64 ((i : Int) + 1)] : Array Value) 37) v.ownBlock) g) (.inl rfl)
  have hz4 : base ≤ (W.alloc (.cells (#[.int .i64 k, .string tx, .int .i64 m, .int .i64 n, .int .i64 ((i : Int) + 1)] : Array Value) 37)).heap.size := by simp; omega
  refine hK _ _ ⟨by simpa using hl4.c3, fun j => by simpa using blk_cell hr5 j⟩ ?_
  clear hK K hl3 hv3 hr3 hB3 hQ3
  refine Mix2.walk_last 7 rfl (by intro j hj; simp; omega) (by kernel_rfl) (fun K hK => ?_)
  refine append_cells (by rfl) _ _ _ (by rfl) base 37 _ 5 48 Tryd.underlying23 info37 rfl (by decide) v l.length (toks l) (by rfl) hv4 1 (#[.int .i64 k, .string tx, .int .i64 m, .int .i64 n, .int .i64 ((i : Int) + 1)] : Array Value).toList W.heap.size (by rfl) (by simp) hr4 (by simp [Value.oneCell']) (by decide) (by omega) (by decide) hz4 ?_
  intro v1 w2 hv5 hg5
  obtain ⟨A1, c1, rfl⟩ := own_slice hv5
  have hl5 : LineAt g s n i v _ := blk_grown hl4 hg5 hng
  have hB5 := hB4.grown hg5 hz4 (own_below hv4)
  have hQ5 := hQ4.trans (KeepBut.of_grown hg5 g) (.inl rfl)
  refine hK _ _ ?_
  clear hK K hl4 hv4 hr4 hB4 hQ4 hg5 hS hS2
  repeat (refine Mix2.walk_pure rfl (fun K hK => ?_); go_simp; refine hK _ ?_; clear hK K)
  have hf := blk_frozen hl5 3
  have hx := hl5.c3
  refine Mix2.walk_last 7 rfl (by intro j hj; simp; omega) (by kernel_rfl) (fun K hK => ?_)
  go_simp
  refine hK _ _ ?_
  clear hK K hf hx
  have hl6 : LineAt g s n i (.slice A1 (l.length + 1) c1) _ := blk_put hl5 3 (.slice A1 (l.length + 1) c1) rfl
  have hv6 := own_far hv5 (p := ⟨g, 3, none⟩) (own_ne hv5 hl5 (by decide)) (.slice A1 (l.length + 1) c1)
  have hB6 := hB5.setCell (p := ⟨g, 3, none⟩) hbg (.slice A1 (l.length + 1) c1)
  have hQ6 := hQ5.set_ 3 (.slice A1 (l.length + 1) c1)
  generalize w2.setCell ⟨g, 3, none⟩ (.slice A1 (l.length + 1) c1) = W3 at hl6 hv6 hB6 hQ6 ⊢
  clear hl5 hv5 hB5 hQ5
  repeat (refine Mix2.walk_pure rfl (fun K hK => ?_); go_simp; refine hK _ ?_; clear hK K)
  have hf := blk_frozen hl6 2
  have hx := hl6.c2
  refine Mix2.walk_last 7 rfl (by intro j hj; simp; omega) (by kernel_rfl) (fun K hK => ?_)
  go_simp
  refine hK _ _ ?_
  clear hK K hf hx
  have hl7 : LineAt g s n t2 (.slice A1 (l.length + 1) c1) _ := blk_put hl6 2 (.int .i64 t2) rfl
  have hv7 := own_far hv6 (p := ⟨g, 2, none⟩) (own_ne hv6 hl6 (by decide)) (.int .i64 t2)
  have hB7 := hB6.setCell (p := ⟨g, 2, none⟩) hbg (.int .i64 t2)
  refine Mix2.walk_nil ?_
  go_wp2
  go_end0
  exact ⟨rfl, _, hl7, by simpa [Tok.cells] using hv7, hB7, hQ6.set_ 2 (.int .i64 t2)⟩
end Go.Proofs.YtlhhpbpoioaagaaDoor
