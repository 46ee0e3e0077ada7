import Derived.Test.YtlhhpbpoioaagaaDoorWi
namespace Go.Proofs.YtlhhpbpoioaagaaDoor
open Go.RowKit Go.Proofs.YtlhhpbpoioaagaaDoorW.PrintWords Go.Proofs.YtlhhpbpoioaagaaDoorW.PrintLast Go.Proofs.YtlhhpbpoioaagaaDoorW.PrintMore

theorem linesT_err : ∀ (ss : List ByteArray) (n : Int) (l : List Tok), (linesT ss n l).2.2.1 ≠ 0 → (linesT ss n l).2.2.2 = []
  | [], n, l => by simp [linesT]
  | s :: ss, n, l => by
    rw [linesT_cons]
    split
    · simp
    · split
      · simp
      · exact linesT_err ss _ _
theorem scanT_err (s : ByteArray) (h : (scanT s).2.2.1 ≠ 0) : (scanT s).2.2.2 = [] := by
  unfold scanT at *
  split
  · rfl
  · rename_i h1; rw [if_neg h1] at h; exact linesT_err _ _ _ h
theorem linesT_cap : ∀ (ss : List ByteArray) (n : Int) (l : List Tok), (linesT ss n l).2.2.2.length ≤ l.length + 1001 * ss.length
  | [], n, l => by simp [linesT]
  | s :: ss, n, l => by
    rw [linesT_cons]
    split
    · simp
    · split
      · simp
      · have h1 := linesT_cap ss (n + 1) (l ++ (lineR s n 0 0 []).2.2)
        have h2 := lineR_len s n
        rename_i h3 h4
        rw [List.length_append] at h1
        simp only [List.length_cons]
        omega
theorem scanT_cap (s : ByteArray) : (scanT s).2.2.2.length ≤ 1001 * 65537 := by
  unfold scanT
  split
  · simp
  · have h1 := linesT_cap (linesOf s) 1 []
    have h2 := linesOf_le s
    rename_i h3
    simp only [List.length_nil] at h1
    have : 1001 * (linesOf s).length ≤ 1001 * 65537 := Nat.mul_le_mul_left _ (by omega)
    omega
theorem own_apart {w : World} {b b' e e' size size' n n' : Nat} {v v' : Value} {xs xs' : List Value} (h : w.ownsRow b e size v n xs) (h' : w.ownsRow b' e' size' v' n' xs') (hne : e ≠ e') : v.ownBlock = none ∨ v.ownBlock ≠ v'.ownBlock := by
  rcases h.2 with ⟨rfl, _⟩ | ⟨g, cap, cur, rfl, hb, hg, rest⟩
  · exact .inl rfl
  · exact .inr (own_ne h' hg (Ne.symm hne))
theorem own_built {w : World} (x : Value) (e : TypeId) (base : Nat) (hb : base ≤ w.heap.size) : (w.alloc (.cells #[x] e)).ownsRow base e 1 (.slice (some ⟨w.heap.size, 0, none⟩) 1 1) 1 [x] :=
  ⟨rfl, .inr ⟨w.heap.size, 1, #[x], rfl, hb, blk_new _ _, Nat.le_refl _, by decide, rfl, rfl⟩⟩
theorem info3 : (Tryd.prog.info? 3).map (fun i => (i.zero, i.size, i.bytes)) = some (some (.int .i64 0), 1, 8) := by kernel_rfl
def natsV (l : List Nat) : List Value := l.map fun (b : Nat) => Value.int .i64 (b : Int)
theorem natsV_cell (l : List Nat) : ∀ u ∈ natsV l, u.oneCell' = true := by
  intro u hu
  simp only [natsV, List.mem_map] at hu
  obtain ⟨_, _, rfl⟩ := hu
  rfl

theorem lastOf_take (p : Int × Int) (l : List Tok) : ∀ (i : Nat) (t : Tok), l[i]? = some t → lastOf p (l.take (i + 1)) = (t.line, t.col) := by
  induction l generalizing p with
  | nil => intro i t h; simp at h
  | cons u l ih =>
    intro i t h
    cases i with
    | zero => simp at h; subst h; rfl
    | succ i => simp at h; exact ih _ i t h
theorem natsV_own {w : World} {base : Nat} {v : Value} {l : List Nat} (h : w.ownsRow base 3 1 v l.length (natsV l)) {i b : Nat} (hb : l[i]? = some b) : ∃ g c, v = .slice (some ⟨g, 0, none⟩) l.length c ∧ w.cell? ⟨g, i, none⟩ = some (.int .i64 (b : Int)) := by
  have hi := (List.getElem?_eq_some_iff.1 hb).1
  rcases h.2 with ⟨_, h2⟩ | ⟨g, cap, cur, rfl, _, hg, _, _, _, htk⟩
  · omega
  · refine ⟨g, cap, rfl, ?_⟩
    have h3 : (natsV l)[i]? = some (.int .i64 (b : Int)) := by simp [natsV, hb]
    rw [← htk, List.getElem?_take_of_lt (by omega)] at h3
    rw [blk_cell hg, ← Array.getElem?_toList]; exact h3

theorem places_next {r p : Nat} {w wr : World} {v6 vL : Value} {n6 nL : Nat} {x6 xL : List Value} {a0 a1 : Value} (tl tc : Int) (h6 : wr.ownsRow r 3 1 v6 n6 x6) (hL : wr.ownsRow r 37 5 vL nL xL) (hB : Below r w wr)
    (hb : wr.heap[p]? = some (.cells #[a0, a1] 25 (0, 0))) (hr : r ≤ p) :
    Hid ((((wr.setCell ⟨p, 0, none⟩ (.int .i64 tl)).setCell ⟨p, 1, none⟩ (.int .i64 tc)).alloc (.cells #[.int .i64 tl, .int .i64 tc] 25)).drew.ownsRow r 3 1 v6 n6 x6) ∧
    Hid ((((wr.setCell ⟨p, 0, none⟩ (.int .i64 tl)).setCell ⟨p, 1, none⟩ (.int .i64 tc)).alloc (.cells #[.int .i64 tl, .int .i64 tc] 25)).drew.ownsRow r 37 5 vL nL xL) ∧
    Hid (Below r w (((wr.setCell ⟨p, 0, none⟩ (.int .i64 tl)).setCell ⟨p, 1, none⟩ (.int .i64 tc)).alloc (.cells #[.int .i64 tl, .int .i64 tc] 25)).drew) ∧
    Hid ((((wr.setCell ⟨p, 0, none⟩ (.int .i64 tl)).setCell ⟨p, 1, none⟩ (.int .i64 tc)).alloc (.cells #[.int .i64 tl, .int .i64 tc] 25)).drew.heap[p]? = some (.cells #[.int .i64 tl, .int .i64 tc] 25 (0, 0))) := by
  have hlt := blk_lt hb
  have g6 := own_far (own_far h6 (p := ⟨p, 0, none⟩) (own_ne h6 hb (by decide)) (.int .i64 tl)) (p := ⟨p, 1, none⟩) (own_ne h6 hb (by decide)) (.int .i64 tc)
  have gL := own_far (own_far hL (p := ⟨p, 0, none⟩) (own_ne hL hb (by decide)) (.int .i64 tl)) (p := ⟨p, 1, none⟩) (own_ne hL hb (by decide)) (.int .i64 tc)
  have gb := blk_put (blk_put hb 0 (.int .i64 tl) rfl) 1 (.int .i64 tc) rfl
  refine ⟨Lib.hid (g6.alloc _), Lib.hid (gL.alloc _), Lib.hid ?_, Lib.hid (blk_alloc gb _)⟩
  exact (((hB.setCell (p := ⟨p, 0, none⟩) hr _).setCell (p := ⟨p, 1, none⟩) hr _).alloc (by simp; omega) _).drew
theorem dots_at (s : ByteArray) (q : Nat) (h : q + 2 ≤ s.size) (h0 : bx s q = 46) (h1 : bx s (q + 1) = 46) : s.extract q (q + 2) = ⟨#[46, 46]⟩ := by
  have key : ∀ i, i < s.size → bx s i = 46 → s.data.toList[i]? = some 46 := by
    intro i hi hb
    rw [bx_list, if_pos hi, hb]; rfl
  have a0 := key q (by omega) h0
  have a1 := key (q + 1) (by omega) h1
  have e : (s.extract q (q + 2)).data.toList = [46, 46] := by
    rw [ByteArray.data_extract]
    apply List.ext_getElem?
    intro i
    simp only [Array.toList_extract, List.extract_eq_take_drop]
    match i with
    | 0 => simpa using a0
    | 1 => simpa using a1
    | i + 2 => simp; omega
  exact ByteArray.ext (Array.ext' e)

set_option maxHeartbeats 8000000 in
set_option maxRecDepth 100000 in
theorem Places_calls (s : ByteArray) (m : Int) (w : World) (hm : w.cell? ⟨0, 0, none⟩ = some (.int .i64 m)) : Calls Tryd.prog 5 #[.string s] w fun e w' => e = .returned (.bool true) ∧ Below w.heap.size w w' := by
  by_cases h0 : 1500 < s.size
  · have h0' : (1500 : Int) < (s.size : Int) := by omega
    have ha := Lib.hid (awake_calls m w hm)
    clear hm
    go_enter Tryd.func5, Tryd.ntmps5
    go_wp2_with fail
    refine ha.out.mono ?_
    rintro e w1 ⟨rfl, hb⟩
    go_wp2
    go_ret
    exact ⟨rfl, hb⟩
  · have h0' : ¬ (1500 : Int) < (s.size : Int) := by omega
    obtain ⟨hst, hri⟩ := scan_stands s
    have hcap := scanT_cap s
    have herr := scanT_err s
    have hs := Scan_calls s m w hm
    generalize scanT s = R at hs hst hri herr hcap
    have hs' := Lib.hid hs; clear hs
    have hm0 := Lib.hid hm
    have hm' := World.block_lt_of_cell? w _ hm
    clear hm
    by_cases h1 : R.2.2.1 = 0
    · clear herr
      have hst' := Lib.hid hst; clear hst
      have hri' := Lib.hid hri; clear hri
      obtain ⟨r, hr⟩ : ∃ r, Hid (r = w.heap.size) := ⟨_, Lib.hid rfl⟩
      obtain ⟨L, hL⟩ : ∃ L, Hid (R.2.2.2 = L) := ⟨_, Lib.hid rfl⟩
      rw [hL.out] at hcap
      go_enter Tryd.func5, Tryd.ntmps5
      go_wp2_with fail
      refine hs'.out.mono ?_
      rintro e w1 ⟨v, rfl, hv, hb⟩
      rw [hL.out, ← hr.out] at hv
      have hz := hb.size
      rw [← hr.out] at hb hz
      rw [h1]
      obtain ⟨A, c, rfl⟩ := own_slice hv
      have hv1 := Lib.hid (hv.alloc (.cells #[.int .i64 R.1, .int .i64 R.2.1] 25))
      have hv2 := Lib.hid (hv1.out.alloc (.cells #[.int .i64 0] 3))
      have hB := Lib.hid ((hb.alloc hz (.cells #[.int .i64 R.1, .int .i64 R.2.1] 25)).alloc (by simp; omega) (.cells #[.int .i64 0] 3))
      have hg := Lib.hid (own_built (w := w1.alloc (.cells #[.int .i64 R.1, .int .i64 R.2.1] 25)) (.int .i64 0) 3 r (by simp; omega))
      clear hv hb hs'
      go_wp2_with fail
      rw [show (w1.alloc (.cells #[.int .i64 R.1, .int .i64 R.2.1] 25)).heap.size = w1.heap.size + 1 by simp] at hg
      go_loopg [6, 7] s.size (fun kq v6 v7 w' => ∃ i : Nat, v7 = .int .i64 (i : Int) ∧ Hid (s.size - i = kq) ∧ Hid (i ≤ s.size) ∧ Hid (w'.ownsRow r 3 1 v6 (begs s i).length (natsV (begs s i))) ∧ Hid (w'.ownsRow r 37 5 (.slice A L.length c) L.length (toks L)) ∧ Hid (Below r w w'))
      case atStart => exact ⟨0, rfl, Lib.hid rfl, Lib.hid (Nat.zero_le _), hg, hv2, hB⟩
      case round =>
        obtain ⟨i, rfl, hk, hi, hw6, hwL, hwB⟩ := hrel
        clear hg hv2 hB hv1
        have hzr : r ≤ wr.heap.size := by have := hwB.out.size; have := hr.out; omega
        by_cases c1 : i < s.size
        · have hx := bx_read (s := s) (i := i)
          have c1' : (i : Int) < (s.size : Int) := by omega
          have c2 : IntKind.i64.wrap ((i : Int) + 1) = (i : Int) + 1 := IntWalk.i64_in _ (by omega)
          have hbl := begs_len s i
          obtain ⟨k1, rfl⟩ : ∃ k1, gk = k1 + 1 := ⟨gk - 1, by have := hk.out; omega⟩
          by_cases c3 : bx s i = 10
          · have hb1 : begs s (i + 1) = begs s i ++ [i + 1] := by show (if bx s i = 10 then _ else _) = _; rw [if_pos c3]
            have hb1' := Lib.hid hb1; clear hb1
            have c3' := Lib.hid c3
            go_wp2_with (at_builtin; refine append_row (by rfl) _ _ _ (by rfl) r 3 _ 1 8 Tryd.underlying41 info3 rfl (by decide) u6 (begs s i).length (natsV (begs s i)) (by rfl) (by exact hw6.out.alloc _) _ 0 1 [.int .i64 ((i : Int) + 1)] (by rfl) (by exact own_built _ 3 0 (Nat.zero_le _)) (by simp [Value.oneCell']) (by omega) (by decide) (by simp; omega) ?_; intro v7 w7 hv7 hg7)
            have hv7' : w7.ownsRow r 3 1 v7 (begs s (i + 1)).length (natsV (begs s (i + 1))) := by rw [hb1'.out]; simpa [natsV] using hv7
            have hL7 := (hwL.out.alloc (.cells #[.int .i64 ((i : Int) + 1)] 3)).kept hg7 (own_apart hwL.out hw6.out (by decide))
            have hB7 := (hwB.out.alloc hzr (.cells #[.int .i64 ((i : Int) + 1)] 3)).grown hg7 (by simp; omega) (own_below hw6.out)
            go_roundg k1
            case measure => omega
            case rel => exact ⟨i + 1, by simp, Lib.hid (by have := hk.out; omega), Lib.hid (by omega), Lib.hid hv7', Lib.hid hL7, Lib.hid hB7⟩
          · have hb1 : begs s (i + 1) = begs s i := by show (if bx s i = 10 then _ else _) = _; rw [if_neg c3]
            have hb1' := Lib.hid hb1; clear hb1
            go_wp2_with fail
            go_roundg k1
            case measure => omega
            case rel => exact ⟨i + 1, by simp, Lib.hid (by have := hk.out; omega), Lib.hid (by omega), Lib.hid (by rw [hb1'.out]; exact hw6.out), hwL, hwB⟩
        · have c1' : ¬ (i : Int) < (s.size : Int) := by omega
          obtain rfl : i = s.size := by have := hi.out; omega
          have hbl := begs_len s s.size
          clear hk hi
          obtain ⟨wo, rfl⟩ : ∃ wo : World, wo = wr := ⟨_, rfl⟩
          obtain ⟨b8, hb8⟩ : ∃ b, Hid (wo.heap.size = b) := ⟨_, Lib.hid rfl⟩
          have hbx := Lib.hid (blk_new wo (.cells #[.int .i64 0, .int .i64 0] 25))
          have hw6' := Lib.hid (hw6.out.alloc (.cells #[.int .i64 0, .int .i64 0] 25))
          have hwL' := Lib.hid (hwL.out.alloc (.cells #[.int .i64 0, .int .i64 0] 25))
          have hwB' := Lib.hid (hwB.out.alloc hzr (.cells #[.int .i64 0, .int .i64 0] 25))
          clear hw6 hwL hwB
          go_wp2_with fail
          rw [hb8.out] at hbx
          go_loopg [9] L.length (fun kq v9 w' => ∃ i : Nat, v9 = .int .i64 (i : Int) ∧ Hid (L.length - i = kq) ∧ Hid (i ≤ L.length) ∧ Hid (w'.ownsRow r 3 1 u6 (begs s s.size).length (natsV (begs s s.size))) ∧ Hid (w'.ownsRow r 37 5 (.slice A L.length c) L.length (toks L)) ∧ Hid (Below r w w') ∧ Hid (w'.heap[b8]? = some (.cells #[.int .i64 (lastOf (0, 0) (L.take i)).1, .int .i64 (lastOf (0, 0) (L.take i)).2] 25 (0, 0))))
          case atStart => exact ⟨0, rfl, Lib.hid rfl, Lib.hid (Nat.zero_le _), hw6', hwL', hwB', hbx⟩
          case round =>
            obtain ⟨i, rfl, hk, hi, hw6, hwL, hwB, hb⟩ := hrel
            have hlb := blk_lt hb.out
            have hzr2 : r ≤ wr.heap.size := by have := hwB.out.size; have := hr.out; omega
            clear hbx hw6' hwL' hwB' c1 c1'
            by_cases c2 : i < L.length
            · have c2' : (i : Int) < (L.length : Int) := by omega
              obtain ⟨k1, rfl⟩ : ∃ k1, gk = k1 + 1 := ⟨gk - 1, by have := hk.out; omega⟩
              obtain ⟨t, ht⟩ : ∃ t, L[i]? = some t := ⟨_, List.getElem?_eq_getElem c2⟩
              have hnext := Lib.hid (lastOf_take (0, 0) L i t ht)
              obtain ⟨hq1, hq2, b, hb1, hb2, hb3, hbw, hbd⟩ := hst'.out t (by rw [hL.out]; exact List.mem_of_getElem? ht)
              have hrr := rises_get (show Rises (0, 0) L by have := hri'.out; rwa [hL.out] at this) i t ht
              obtain ⟨g, rfl, hcell⟩ := own_cell hwL.out rfl ht
              obtain ⟨gb, cb, rfl, hbc⟩ := natsV_own hw6.out hb1
              obtain ⟨tk, tx, tn, tl, tc⟩ := t
              dsimp only at hq1 hq2 hb1 hb2 hb3 hbw hbd hrr hbc hnext
              rw [show (tl - 1).toNat = tl.toNat - 1 by omega] at hbc
              have x0 := hcell 0 _ rfl
              have x1 := hcell 1 _ rfl
              have x3 := hcell 3 _ rfl
              have x4 := hcell 4 _ rfl
              dsimp only [Tok.cells] at x0 x1 x3 x4
              rw [Nat.add_zero] at x0
              have hgl := own_lt hwL.out
              have hgbl := own_lt hw6.out
              generalize lastOf (0, 0) (L.take i) = pp at hrr hb
              obtain ⟨pl, pc⟩ := pp
              dsimp only at hb
              have y0 : wr.cell? ⟨wo.heap.size, 0, none⟩ = some (.int .i64 pl) := by rw [hb8.out]; exact (blk_cell hb.out 0).trans rfl
              have y1 : wr.cell? ⟨wo.heap.size, 1, none⟩ = some (.int .i64 pc) := by rw [hb8.out]; exact (blk_cell hb.out 1).trans rfl
              have n1 : wo.heap.size ≠ wr.heap.size := by rw [hb8.out]; omega
              have n1' : wo.heap.size < wr.heap.size := by rw [hb8.out]; omega
              have n2 : g ≠ wr.heap.size := by omega
              have n3 : gb ≠ wr.heap.size := by omega
              have hN := Lib.hid (places_next tl tc hw6.out hwL.out hwB.out (show wr.heap[wo.heap.size]? = some (.cells #[.int .i64 pl, .int .i64 pc] 25 (0, 0)) by rw [hb8.out]; exact hb.out) hzr)
              have z0 := blk_frozen (show wr.heap[wo.heap.size]? = some (.cells #[.int .i64 pl, .int .i64 pc] 25 (0, 0)) by rw [hb8.out]; exact hb.out) 0
              have z1 := blk_frozen (show wr.heap[wo.heap.size]? = some (.cells #[.int .i64 pl, .int .i64 pc] 25 (0, 0)) by rw [hb8.out]; exact hb.out) 1
              have hbw' := Lib.hid hbw; clear hbw
              have hbd' := Lib.hid hbd; clear hbd
              have hb1' := Lib.hid hb1; clear hb1
              have ht' := Lib.hid ht; clear ht
              clear hcell
              have w1' : IntKind.i64.wrap (tl - 1) = tl - 1 := IntWalk.i64_in _ (by omega)
              have w2 : IntKind.i64.wrap ((b : Int) + tc) = (b : Int) + tc := IntWalk.i64_in _ (by omega)
              obtain ⟨q, hq⟩ : ∃ q : Nat, (b : Int) + tc - 1 = (q : Int) := ⟨((b : Int) + tc - 1).toNat, by omega⟩
              have w3 : IntKind.i64.wrap ((b : Int) + tc - 1) = (q : Int) := by rw [hq]; exact IntWalk.i64_in _ (by omega)
              have hqs : (q : Int) ≤ (s.size : Int) := by omega
              have hq' := Lib.hid hq; clear hq hb3
              have i1 : 0 ≤ tl - 1 := by omega
              have i2 : tl - 1 < ((begs s s.size).length : Int) := by omega
              have hrr' := Lib.hid hrr
              by_cases hk1 : tk = 1
              · subst hk1
                obtain ⟨f1, f2⟩ := hbw'.out rfl
                rw [hq'.out] at f1 f2
                rw [show ((q : Int)).toNat = q by simp] at f2
                have w4 : IntKind.i64.wrap ((q : Int) + (tx.size : Int)) = (q : Int) + (tx.size : Int) := IntWalk.i64_in _ (by omega)
                rcases hrr with hlt | ⟨heq, hlt⟩
                · dsimp only at hlt
                  have e1 : (tl == pl) = false := by simp; omega
                  go_wp2_with fail; go_region; go_wp2_with fail; go_roundg k1; (case measure => omega); (case rel => exact ⟨i + 1, by simp, Lib.hid (by have := hk.out; omega), Lib.hid (by omega), hN.out.1, hN.out.2.1, hN.out.2.2.1, Lib.hid (by rw [hnext.out, ← hb8.out]; exact hN.out.2.2.2.out)⟩)
                · dsimp only at hlt heq
                  subst heq
                  go_wp2_with fail; go_region; go_wp2_with fail; go_roundg k1; (case measure => omega); (case rel => exact ⟨i + 1, by simp, Lib.hid (by have := hk.out; omega), Lib.hid (by omega), hN.out.1, hN.out.2.1, hN.out.2.2.1, Lib.hid (by rw [hnext.out, ← hb8.out]; exact hN.out.2.2.2.out)⟩)
              · by_cases hk3 : tk = 3
                · subst hk3
                  obtain ⟨f1, f2, f3⟩ := hbd'.out rfl
                  have hqo := hq'.out
                  have f4 : s.extract q (q + 2) = ⟨#[46, 46]⟩ := dots_at s q (by omega) (by rw [← f2]; congr 1; omega) (by rw [← f3]; congr 1; omega)
                  have f5 : (q : Int) + 2 ≤ (s.size : Int) := by omega
                  clear f1 f2 f3 hqo
                  have w4 : IntKind.i64.wrap ((q : Int) + 2) = (q : Int) + 2 := IntWalk.i64_in _ (by omega)
                  rcases hrr with hlt | ⟨heq, hlt⟩
                  · dsimp only at hlt
                    have e1 : (tl == pl) = false := by simp; omega
                    go_wp2_with fail; go_region; go_wp2_with fail; go_roundg k1; (case measure => omega); (case rel => exact ⟨i + 1, by simp, Lib.hid (by have := hk.out; omega), Lib.hid (by omega), hN.out.1, hN.out.2.1, hN.out.2.2.1, Lib.hid (by rw [hnext.out, ← hb8.out]; exact hN.out.2.2.2.out)⟩)
                  · dsimp only at hlt heq
                    subst heq
                    go_wp2_with fail; go_region; go_wp2_with fail; go_roundg k1; (case measure => omega); (case rel => exact ⟨i + 1, by simp, Lib.hid (by have := hk.out; omega), Lib.hid (by omega), hN.out.1, hN.out.2.1, hN.out.2.2.1, Lib.hid (by rw [hnext.out, ← hb8.out]; exact hN.out.2.2.2.out)⟩)
                · have k1' : (tk == 1) = false := by simp [hk1]
                  have k3' : (tk == 3) = false := by simp [hk3]
                  rcases hrr with hlt | ⟨heq, hlt⟩
                  · dsimp only at hlt
                    have e1 : (tl == pl) = false := by simp; omega
                    go_wp2_with fail; go_region; go_wp2_with fail; go_roundg k1; (case measure => omega); (case rel => exact ⟨i + 1, by simp, Lib.hid (by have := hk.out; omega), Lib.hid (by omega), hN.out.1, hN.out.2.1, hN.out.2.2.1, Lib.hid (by rw [hnext.out, ← hb8.out]; exact hN.out.2.2.2.out)⟩)
                  · dsimp only at hlt heq
                    subst heq
                    go_wp2_with fail; go_region; go_wp2_with fail; go_roundg k1; (case measure => omega); (case rel => exact ⟨i + 1, by simp, Lib.hid (by have := hk.out; omega), Lib.hid (by omega), hN.out.1, hN.out.2.1, hN.out.2.2.1, Lib.hid (by rw [hnext.out, ← hb8.out]; exact hN.out.2.2.2.out)⟩)
            · have c2' : ¬ (i : Int) < (L.length : Int) := by omega
              have ha := Lib.hid (awake_calls m wr (by rw [Below.cell hwB.out (by rw [hr.out]; exact hm')]; exact hm0.out))
              go_wp2_with fail
              refine ha.out.mono ?_
              rintro e w2 ⟨rfl, hb2⟩
              go_wp2
              go_ret
              exact ⟨rfl, by rw [← hr.out]; exact hwB.out.trans (hb2.mono hzr2)⟩
    · have h1' : (R.2.2.1 == 0) = false := by simp [h1]
      have h2 := Lib.hid (herr h1)
      clear herr
      go_enter Tryd.func5, Tryd.ntmps5
      go_wp2_with fail
      refine hs'.out.mono ?_
      rintro e w1 ⟨v, rfl, hv, hb⟩
      rw [h2.out] at hv
      obtain ⟨A, c, rfl⟩ := own_slice hv
      have ha := Lib.hid (awake_calls m (w1.alloc (.cells #[.int .i64 R.1, .int .i64 R.2.1] 25)) (by rw [Below.cell ((hb.alloc hb.size _)) hm']; exact hm0.out))
      have hb' := Lib.hid hb
      clear hb hv
      go_wp2_with fail
      refine ha.out.mono ?_
      rintro e w2 ⟨rfl, hb2⟩
      go_wp2
      go_ret
      exact ⟨rfl, (hb'.out.alloc hb'.out.size _).trans (hb2.mono (by have := hb'.out.size; simp; omega))⟩
end Go.Proofs.YtlhhpbpoioaagaaDoor
