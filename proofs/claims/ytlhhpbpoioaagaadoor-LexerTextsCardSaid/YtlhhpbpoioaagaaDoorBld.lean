/- Own text: strings.Builder's writing methods over this program (whose copyCheck bears a stop where the address differs: the library's laid contracts speak of another body). -/
import Derived.Test.YtlhhpbpoioaagaaDoorWh
import Derived.Lib.Builder
import Derived.Lib.AppendStr
namespace Go.Proofs.YtlhhpbpoioaagaaDoor
set_option linter.unusedVariables false
set_option linter.unusedSimpArgs false
open Go.RowKit Go.Proofs.YtlhhpbpoioaagaaDoorW.PrintWords Go.Proofs.YtlhhpbpoioaagaaDoorW.PrintLast Go.Proofs.YtlhhpbpoioaagaaDoorW.PrintMore

theorem info5 : (Tryd.prog.info? 5).map (fun i => (i.zero, i.size, i.bytes)) = some (some (.int .u8 0), 1, 1) := by kernel_rfl
theorem size82 : (Tryd.prog.info? 82).map (·.size) = some 2 := by kernel_rfl
theorem lies82 : liesAt Tryd.prog Tryd.prog.depth 82 (2 / Tryd.prog.cellsOf 82) 0 82 1 = true := by kernel_rfl

set_option maxRecDepth 100000 in
theorem copyCheck_used (b : Nat) (w : World) (h0 : w.cell? ⟨b, 0, none⟩ = some (.pointer (some ⟨b, 0, none⟩))) : Calls Tryd.prog 62 #[.pointer (some ⟨b, 0, none⟩)] w fun e w' => e = .returned (.tuple #[]) ∧ w' = w := by
  obtain ⟨j, hj, _⟩ := Option.map_eq_some_iff.1 size82
  go_enter Tryd.func62, Tryd.ntmps62
  go_wp2
  rw [Lib.run_neq_ptr_same w _ Tryd.underlying79 hj]
  go_wp2
  go_end0
  exact ⟨rfl, rfl⟩
set_option maxRecDepth 100000 in
theorem copyCheck_fresh (b : Nat) (w : World) (h0 : w.cell? ⟨b, 0, none⟩ = some (.pointer none)) (hsh : w.shape? b = some (82, 2)) (hfz : w.frozen? ⟨b, 0, none⟩ = false) :
    Calls Tryd.prog 62 #[.pointer (some ⟨b, 0, none⟩)] w fun e w' => e = .returned (.tuple #[]) ∧ w' = w.setCell ⟨b, 0, none⟩ (.pointer (some ⟨b, 0, none⟩)) := by
  obtain ⟨j, hj, hjs⟩ := Option.map_eq_some_iff.1 size82
  go_enter Tryd.func62, Tryd.ntmps62
  go_wp2
  rw [Lib.run_to_unsafe w ⟨b, 0, none⟩ Tryd.underlying79 Tryd.underlying147 hj (by rw [hjs]; decide) hsh (Nat.zero_lt_succ 1)]
  simp only [Result.andThen]
  rw [Oper.upon_value]
  go_wp2
  rw [run_callFunc_extern Tryd.func87 (by kernel_rfl) (by kernel_rfl) (by kernel_rfl) (e := Extern.AbiNoEscape.same) (by kernel_rfl)]
  rw [Lib.run_noEscape]
  simp only [Result.andThen]
  rw [Oper.upon_value]
  go_wp2
  rw [Lib.run_from_unsafe w ⟨b, 0, none⟩ Tryd.underlying147 Tryd.underlying79 hj hsh lies82]
  simp only [Result.andThen]
  rw [Oper.upon_value]
  go_wp2
  go_end0
  exact ⟨rfl, rfl⟩
theorem copyCheck_calls (B b : Nat) (bs : List Value) (w : World) (h : Lib.IsBuilder 82 5 B b bs w) : Calls Tryd.prog 62 #[.pointer (some ⟨b, 0, none⟩)] w fun e w' => e = .returned (.tuple #[]) ∧ Lib.BuilderAt 82 5 B b (.pointer (some ⟨b, 0, none⟩)) bs w' ∧ Below B w w' := by
  rcases h with h | h
  · refine (copyCheck_fresh b w h.cell0 h.shape h.frozen0).mono ?_
    rintro e w' ⟨rfl, rfl⟩
    exact ⟨rfl, h.used _, (Below.refl B w).setCell (p := ⟨b, 0, none⟩) h.1 _⟩
  · refine (copyCheck_used b w h.cell0).mono ?_
    rintro e w' ⟨rfl, rfl⟩
    exact ⟨rfl, h, Below.refl B _⟩
theorem own_byte {w : World} (c : Int) (base : Nat) (hb : base ≤ w.heap.size) : (w.alloc (.cells #[.int .u8 c] 5)).ownsRow base 5 1 (.slice (some ⟨w.heap.size, 0, none⟩) 1 1) 1 [.int .u8 c] :=
  ⟨rfl, .inr ⟨w.heap.size, 1, #[.int .u8 c], rfl, hb, blk_new _ _, Nat.le_refl _, by decide, rfl, rfl⟩⟩
/-- What a writing method leaves: the bytes behind the elder ones. -/
def Wrote (B b : Nat) (bs : List Value) (r : Value) (w : World) (e : Ending) (w' : World) : Prop := e = .returned r ∧ Lib.IsBuilder 82 5 B b bs w' ∧ Below B w w'

set_option maxHeartbeats 1000000 in
set_option maxRecDepth 100000 in
theorem WriteByte_calls (B b : Nat) (bs : List Value) (c : Int) (w : World) (h : Lib.IsBuilder 82 5 B b bs w) (hlen : bs.length ≤ 1000000000) (hBw : B ≤ w.heap.size) :
    Calls Tryd.prog 37 #[.pointer (some ⟨b, 0, none⟩), .int .u8 c] w (Wrote B b (bs ++ [.int .u8 c]) .nilIface w) := by
  have hc := Lib.hid (copyCheck_calls B b bs w h)
  clear h
  go_enter Tryd.func37, Tryd.ntmps37
  go_wp2_with fail
  refine hc.out.mono ?_
  rintro e w1 ⟨rfl, ⟨hB, v, hbk, hown, hne⟩, hb1⟩
  have hz := hb1.size
  have c0 : w1.cell? ⟨b, 0, none⟩ = some (.pointer (some ⟨b, 0, none⟩)) := (blk_cell hbk 0).trans rfl
  have c1 : w1.cell? ⟨b, 1, none⟩ = some v := (blk_cell hbk 1).trans rfl
  have hbk' := Lib.hid hbk; clear hbk
  have hown' := Lib.hid hown; clear hown
  have hne' := Lib.hid hne; clear hne
  have hb1' := Lib.hid hb1; clear hb1
  have hlt := blk_lt hbk'.out
  go_wp2_with (at_builtin; refine append_row (by rfl) _ _ _ (by rfl) B 5 _ 1 1 Tryd.underlying80 info5 rfl (by decide) v bs.length bs (by rfl) (by exact hown'.out.alloc _) _ 0 1 [.int .u8 c] (by rfl) (by exact own_byte c 0 (Nat.zero_le _)) (by simp [Value.oneCell']) (by omega) (by decide) (by simp; omega) ?_; intro v2 w2 hv2 hg2; have hg2' := Lib.hid hg2; have hbk2 := Lib.hid (blk_grown (blk_alloc hbk'.out (.cells #[.int .u8 c] 5)) hg2 (fun e => hne'.out e.symm)); have hv2' := Lib.hid hv2; obtain ⟨A2, c2, rfl⟩ := own_slice hv2; clear hv2 hg2 c0 c1; have d0 : w2.cell? ⟨b, 0, none⟩ = some (.pointer (some ⟨b, 0, none⟩)) := (blk_cell hbk2.out 0).trans rfl; have d1 : w2.cell? ⟨b, 1, none⟩ = some v := (blk_cell hbk2.out 1).trans rfl; have f1 := blk_frozen hbk2.out 1)
  go_ret
  refine ⟨rfl, .inr (Lib.BuilderAt.put hB hbk2.out (by simpa using hv2'.out) (by decide)), ?_⟩
  exact ((hb1'.out.alloc (by omega) _).grown hg2'.out (by simp; omega) (own_below hown'.out)).setCell (p := ⟨b, 1, none⟩) hB _

set_option maxHeartbeats 1000000 in
set_option maxRecDepth 100000 in
theorem WriteString_calls (B b : Nat) (bs : List Value) (s : ByteArray) (w : World) (h : Lib.IsBuilder 82 5 B b bs w) (hlen : bs.length ≤ 1000000000) (hs : s.size ≤ 1000000000) (hBw : B ≤ w.heap.size) :
    Calls Tryd.prog 38 #[.pointer (some ⟨b, 0, none⟩), .string s] w (Wrote B b (bs ++ Lib.strCells s) (.tuple #[.int .i64 s.size, .nilIface]) w) := by
  have hc := Lib.hid (copyCheck_calls B b bs w h)
  obtain ⟨i0, hi, hzz⟩ := Option.map_eq_some_iff.1 info5
  simp only [Prod.mk.injEq] at hzz
  obtain ⟨hz0, hz1, hz2⟩ := hzz
  have hi' := Lib.hid hi; clear hi
  have hz0' := Lib.hid hz0; clear hz0
  have hz1' := Lib.hid hz1; clear hz1
  have hz2' := Lib.hid hz2; clear hz2
  clear h
  go_enter Tryd.func38, Tryd.ntmps38
  go_wp2_with fail
  refine hc.out.mono ?_
  rintro e w1 ⟨rfl, ⟨hB, v, hbk, hown, hne⟩, hb1⟩
  have hz := hb1.size
  have c0 : w1.cell? ⟨b, 0, none⟩ = some (.pointer (some ⟨b, 0, none⟩)) := (blk_cell hbk 0).trans rfl
  have c1 : w1.cell? ⟨b, 1, none⟩ = some v := (blk_cell hbk 1).trans rfl
  have hbk' := Lib.hid hbk; clear hbk
  have hown' := Lib.hid hown; clear hown
  have hne' := Lib.hid hne; clear hne
  have hb1' := Lib.hid hb1; clear hb1
  go_wp2_with (at_builtin; refine Lib.wpList_append_own_string _ rfl _ _ 80 9 rfl B 5 i0 Tryd.underlying80 Tryd.underlying9 hi'.out hz0'.out hz1'.out hz2'.out _ _ _ rfl hown'.out s rfl ?c3 ?c4 ?c5 ?_)
  case c3 => unfold maxLen; omega
  case c4 => omega
  case c5 => omega
  intro v2 w2 hv2 hg2 _
  have hg2' := Lib.hid hg2
  have hbk2 := Lib.hid (blk_grown hbk'.out hg2 (fun e => hne'.out e.symm))
  have hv2' := Lib.hid hv2
  obtain ⟨A2, c2, rfl⟩ := own_slice hv2
  clear hv2 hg2 c0 c1
  have d0 : w2.cell? ⟨b, 0, none⟩ = some (.pointer (some ⟨b, 0, none⟩)) := (blk_cell hbk2.out 0).trans rfl
  have d1 : w2.cell? ⟨b, 1, none⟩ = some v := (blk_cell hbk2.out 1).trans rfl
  have f1 := blk_frozen hbk2.out 1
  go_wp2_with fail
  go_ret2
  refine ⟨rfl, .inr (Lib.BuilderAt.put hB hbk2.out (by simpa [Lib.strCells_length] using hv2'.out) (by decide)), ?_⟩
  exact (hb1'.out.grown hg2'.out (by omega) (own_below hown'.out)).setCell (p := ⟨b, 1, none⟩) hB _
end Go.Proofs.YtlhhpbpoioaagaaDoor
