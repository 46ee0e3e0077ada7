import Derived.Test.YtefhjioeceadlaaDoorWc
import Derived.Test.YtefhjioeceadlaaDoorMix
namespace Go.Proofs.YtefhjioeceadlaaDoor
open Go.RowKit

theorem info9 : (Tryd.prog.info? 9).map (fun i => (i.zero, i.size, i.bytes)) = some (some (.string ⟨#[]⟩), 1, 16) := by kernel_rfl

theorem word_index (c : Int) (h0 : 0 ≤ c) (h3 : c ≤ 3) (w : World) : (Instr.index 35 (.agg #[.string ⟨#[100, 111, 110, 101]⟩, .string ⟨#[104, 97, 108, 116]⟩, .string ⟨#[97, 108, 97, 114, 109]⟩, .string ⟨#[102, 117, 108, 108]⟩]) (.int .i64 c)).run Tryd.prog w = .ok (.string (str (wordL c))) w := by
  have : c = 0 ∨ c = 1 ∨ c = 2 ∨ c = 3 := by omega
  rcases this with rfl | rfl | rfl | rfl <;> rfl

def TextPost (l : Bool) (c0 c1 y0 y1 a o g n : Int) (w : World) (e : Ending) (w' : World) : Prop :=
  e = .returned (.tuple #[.string (if fitsB c0 c1 y0 y1 a o g n then str (textL l c0 c1 y0 y1 a o g n) else ⟨#[]⟩), .int .i64 (if fitsB c0 c1 y0 y1 a o g n then 0 else 10)]) ∧ Below w.heap.size w w'

theorem tab_later {w W : World} (h : Lib.TabIs Tryd.prog w "internal/strconv.uint64pow10" .u64 Lib.pow10Tab) (hB : Below w.heap.size w W) : Lib.TabIs Tryd.prog W "internal/strconv.uint64pow10" .u64 Lib.pow10Tab := by
  have hg : Tryd.prog.globalNamed "internal/strconv.uint64pow10" = some 0 := by kernel_rfl
  have h' := h
  unfold Lib.TabIs World.var? at h'
  rw [hg] at h'
  simp only [Option.bind_some] at h'
  have hlt : 0 < w.heap.size := by
    rcases Nat.eq_zero_or_pos w.heap.size with h0 | h0
    · rw [Array.getElem?_eq_none (by omega)] at h'; cases h'
    · exact h0
  exact var?_below hB hg hlt h
theorem itoa_b (n : Int) (h0 : -9223372036854775808 ≤ n) (hm : n ≤ 9223372036854775807) (w : World) (htab : Lib.TabIs Tryd.prog w "internal/strconv.uint64pow10" .u64 Lib.pow10Tab) : Calls Tryd.prog 15 #[.int .i64 n] w (StrBelow (Lib.itoa n) w) :=
  (Tryd.strconv_Itoa n h0 hm _ htab).mono fun _ _ ⟨he, k, os, hw⟩ => ⟨he, by rw [hw]; exact grow_below _ _⟩
def strs (l : List (List UInt8)) : List Value := l.map fun x => .string (str x)

theorem num_place (n : Int) (h : -1 ≤ n) : placeL n = 32 :: numL n := by
  unfold placeL numL
  by_cases h1 : n = -1
  · subst h1; simp
  · rw [if_neg (by omega), if_neg h1, Lib.itoa, if_neg (by omega)]
theorem itoa_nat (k : Int) (h : 0 ≤ k) : Lib.itoa k = Lib.decDigits k.toNat := by rw [Lib.itoa, if_neg (by omega)]

theorem append_one {P : Program} {ops : Array Oper} {o : Oper} {ac : Act} {W : World} {K : Act → World → Prop} {Q : Exit → Act → World → Prop} {E : Prop} (hgd : o.guard = none) (s x : Operand) (t : TypeId)
    (ho : o.op = .call { callee := .builtin .append, args := #[s, x], argTypes := #[t, t] })
    (base : Nat) (e : TypeId) (z : Value) (bytes : Nat) (ht : P.underlying t = some (.slice e)) (hinfo : (P.info? e).map (fun i => (i.zero, i.size, i.bytes)) = some (some z, 1, bytes)) (hz : z.cells.size = 1)
    (v : Value) (n : Nat) (xs : List Value) (hs : ac.eval s = v) (hown : W.ownsRow base e 1 v n xs)
    (m : Nat) (news : List Value) (H : Nat) (hx : ac.eval x = .slice (some ⟨H, 0, none⟩) m m) (hl : news.length = m) (hH : W.heap[H]? = some (.cells news.toArray e)) (h1 : ∀ u ∈ news, u.oneCell' = true)
    (hm : 0 < m) (hb : (n + m) * bytes ≤ 140737488355328) (hb0 : 0 < bytes) (hbase : base ≤ W.heap.size)
    (h : ∀ g cap w', w'.ownsRow base e 1 (.slice (some ⟨g, 0, none⟩) (n + m) cap) (n + m) (xs ++ news) → W.grownBy w' v.ownBlock → base ≤ g → (v.ownBlock = some g ∨ g = W.heap.size) → K (ac.put o.dst (.slice (some ⟨g, 0, none⟩) (n + m) cap)) w') :
    if Region.wanted o (yielded ops ac.tmps) = true then Oper.wp P o ac W K Q else E := by
  obtain ⟨i0, hi, hz0, hz1, hz2⟩ := info_parts hinfo
  have hnm : n + m ≤ 140737488355328 := Nat.le_trans (Nat.le_mul_of_pos_right _ hb0) hb
  refine step_append_lies W hgd s x t ho base e i0 z 1 bytes ht hi hz0 hz1 hz2 hz (by omega) v n xs hs hown ⟨H, 0, none⟩ m m news hx (by omega) (World.news_of_block (cs := news.toArray) (t := e) (fr := (0, 0)) hH) h1 hm (by simp only [maxLen]; omega) hb hbase _ rfl ?_
  intro g cap w' h2 h3 h4 h5
  refine h g cap w' h2 h3 ?_ h4
  rcases h2.2 with ⟨h6, _⟩ | ⟨g', c', cur, h6, hb', _⟩
  · cases h6
  · injection h6 with h7; injection h7 with h8; injection h8 with h9; omega

theorem append_list {P : Program} {ops : Array Oper} {o : Oper} {rest : List Oper} {ac : Act} {W : World} {Q : Exit → Act → World → Prop} (hgd : o.guard = none) (s x : Operand) (t : TypeId)
    (ho : o.op = .call { callee := .builtin .append, args := #[s, x], argTypes := #[t, t] })
    (base : Nat) (e : TypeId) (z : Value) (bytes : Nat) (ht : P.underlying t = some (.slice e)) (hinfo : (P.info? e).map (fun i => (i.zero, i.size, i.bytes)) = some (some z, 1, bytes)) (hz : z.cells.size = 1)
    (v : Value) (n : Nat) (xs : List Value) (hs : ac.eval s = v) (hown : W.ownsRow base e 1 v n xs)
    (m : Nat) (news : List Value) (H : Nat) (hx : ac.eval x = .slice (some ⟨H, 0, none⟩) m m) (hl : news.length = m) (hH : W.heap[H]? = some (.cells news.toArray e)) (h1 : ∀ u ∈ news, u.oneCell' = true)
    (hm : 0 < m) (hb : (n + m) * bytes ≤ 140737488355328) (hb0 : 0 < bytes) (hbase : base ≤ W.heap.size)
    (h : ∀ g cap w', w'.ownsRow base e 1 (.slice (some ⟨g, 0, none⟩) (n + m) cap) (n + m) (xs ++ news) → W.grownBy w' v.ownBlock → base ≤ g → (v.ownBlock = some g ∨ g = W.heap.size) → wpList P ops Q rest (ac.put o.dst (.slice (some ⟨g, 0, none⟩) (n + m) cap)) w') :
    wpList P ops Q (o :: rest) ac W := by
  obtain ⟨i0, hi, hz0, hz1, hz2⟩ := info_parts hinfo
  have hnm : n + m ≤ 140737488355328 := Nat.le_trans (Nat.le_mul_of_pos_right _ hb0) hb
  refine wpList_append_lies W hgd s x t ho base e i0 z 1 bytes ht hi hz0 hz1 hz2 hz (by omega) v n xs hs hown ⟨H, 0, none⟩ m m news hx (by omega) (World.news_of_block (cs := news.toArray) (t := e) (fr := (0, 0)) hH) h1 hm (by simp only [maxLen]; omega) hb hbase _ rfl ?_
  intro g cap w' h2 h3 h4 h5
  refine h g cap w' h2 h3 ?_ h4
  rcases h2.2 with ⟨h6, _⟩ | ⟨g', c', cur, h6, hb', _⟩
  · cases h6
  · injection h6 with h7; injection h7 with h8; injection h8 with h9; omega

theorem join_text (l : Bool) (c0 c1 y0 y1 a o g n : Int) (h5 : 0 ≤ y0) (h6 : 0 ≤ y1) (ka : -1 ≤ a) (ko : -1 ≤ o) (kg : -1 ≤ g) (kn : -1 ≤ n) :
    Lib.join [headL l, wordL c0, Lib.itoa y0, wordL c1, Lib.itoa y1, numL a, numL o, numL g, numL n] [32] = textL l c0 c1 y0 y1 a o g n := by
  simp only [textL, num_place a ka, num_place o ko, num_place g kg, num_place n kn, itoa_nat y0 h5, itoa_nat y1 h6, Lib.join_cons, Lib.joinTail]
  simp
theorem text_len (l : Bool) (c0 c1 y0 y1 a o g n : Int) (m0 : y0 ≤ 9223372036854775807) (m1 : y1 ≤ 9223372036854775807)
    (ma : a ≤ 9223372036854775807) (mo : o ≤ 9223372036854775807) (mg : g ≤ 9223372036854775807) (mn : n ≤ 9223372036854775807) : (textL l c0 c1 y0 y1 a o g n).length ≤ 200 := by
  have z0 := word_len c0
  have z1 := word_len c1
  have z2 := dec_len y0.toNat (by omega)
  have z3 := dec_len y1.toNat (by omega)
  have z4 := place_len a ma
  have z5 := place_len o mo
  have z6 := place_len g mg
  have z7 := place_len n mn
  have z8 : (headL l).length ≤ 4 := by cases l <;> simp [headL]
  rw [size_str] at z0 z1 z2 z3 z4 z5 z6 z7
  simp only [textL, List.length_append, List.length_cons, List.length_nil]
  omega
theorem own_strs {W : World} {base g cap n : Nat} {L : List (List UInt8)} (h : W.ownsRow base 9 1 (.slice (some ⟨g, 0, none⟩) n cap) n (strs L)) : ∀ (j : Nat) x, (L.map str)[j]? = some x → W.cell? ⟨g, 0 + j, none⟩ = some (.string x) := by
  intro j x hx
  have hl := h.1
  have hj : j < L.length := by
    rcases Nat.lt_or_ge j L.length with h1 | h1
    · exact h1
    · rw [List.getElem?_eq_none (by simpa using h1)] at hx; cases hx
  rw [Nat.zero_add, h.cellAt j (by simp [strs] at hl; omega)]
  simp only [strs, List.getElem?_map] at hx ⊢
  obtain ⟨y, hy, rfl⟩ := Option.map_eq_some_iff.1 hx
  rw [hy]; rfl
theorem own_cap {W : World} {base g cap n : Nat} {e : TypeId} {size : Nat} {xs : List Value} (h : W.ownsRow base e size (.slice (some ⟨g, 0, none⟩) n cap) n xs) : n ≤ cap := by
  rcases h.2 with ⟨h6, _⟩ | ⟨g', c', cur, h6, _, _, h1, _⟩
  · cases h6
  · injection h6 with _ _ h8; omega

end Go.Proofs.YtefhjioeceadlaaDoor
