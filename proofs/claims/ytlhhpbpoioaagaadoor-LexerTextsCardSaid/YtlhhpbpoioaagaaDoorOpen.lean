/- Own text: an argument that is a slice of tokens, opened. -/
import Derived.Test.YtlhhpbpoioaagaaDoorLift
import Derived.Test.YtlhhpbpoioaagaaDoorJn
import Derived.Deep.Slices
import Derived.DataOpen
namespace Go.Proofs.YtlhhpbpoioaagaaDoor
set_option linter.unusedVariables false
set_option linter.unusedSimpArgs false
open Go.ChangeShapes Go.WideShapes Go.ChangeAt Go.RowKit Go.Deep

instance : Inhabited Tok := ⟨⟨0, ⟨#[]⟩, 0, 0, 0⟩⟩
theorem len2 {l : List Value} (h : l.length = 2) : ∃ a b, l = [a, b] := by
  match l, h with
  | [a, b], _ => exact ⟨a, b, rfl⟩
theorem len5 {l : List Value} (h : l.length = 5) : ∃ a b c d e, l = [a, b, c, d, e] := by
  match l, h with
  | [a, b, c, d, e], _ => exact ⟨a, b, c, d, e, rfl⟩
theorem addr_plain (b o k : Nat) : (⟨b, o, none⟩ : Addr).add k = ⟨b, o + k, none⟩ := by
  unfold Addr.add
  by_cases h : k = 0 <;> simp [h]
theorem cells_two {cs : List Value} {k : Nat} {a b : Value} (h : (cs.drop k).take 2 = [a, b]) : cs[k]? = some a ∧ cs[k + 1]? = some b := by
  have h0 := congrArg (fun l => l[0]?) h
  have h1 := congrArg (fun l => l[1]?) h
  simp only [List.getElem?_take, List.getElem?_drop] at h0 h1
  simpa using ⟨h0, h1⟩
theorem cells_one {cs : List Value} {k : Nat} {a : Value} (h : (cs.drop k).take 1 = [a]) : cs[k]? = some a := by
  have h0 := congrArg (fun l => l[0]?) h
  simp only [List.getElem?_take, List.getElem?_drop] at h0
  simpa using h0
variable {H : Type} {enc : TypeId × Value → H} {W : World} {base : Nat} {spare : Nat → Bool} {held : Bool}
theorem trod_place {m : Nat} {cs : List Value} {x : DataW H × List MemPlace} (h : DataW.trod enc Tryd.prog W base spare held m 25 cs = some x) : ∃ a b : Int, cs = [.int .i64 a, .int .i64 b] := by
  have hu : Tryd.prog.underlying 25 = some (.struct (Tryd.prog.fieldsOf 25)) := by kernel_rfl
  obtain ⟨xs, n, _, _, hlen, hxl, hel⟩ := DataW.trod_struct hu h
  have hC : Tryd.prog.cellsOf 25 = 2 := by kernel_rfl
  have hx2 : xs.length = 2 := hxl.trans (by kernel_rfl)
  have c3 : Tryd.prog.cellsOf 3 = 1 := by kernel_rfl
  have h0 := hel 0 ((Tryd.prog.fieldsOf 25)[0]!) (by kernel_rfl)
  have h1 := hel 1 ((Tryd.prog.fieldsOf 25)[1]!) (by kernel_rfl)
  rw [show ((Tryd.prog.fieldsOf 25)[0]!).type = 3 by kernel_rfl, show ((Tryd.prog.fieldsOf 25)[0]!).offset = 0 by kernel_rfl, c3, List.getElem?_eq_getElem (by omega)] at h0
  rw [show ((Tryd.prog.fieldsOf 25)[1]!).type = 3 by kernel_rfl, show ((Tryd.prog.fieldsOf 25)[1]!).offset = 1 by kernel_rfl, c3, List.getElem?_eq_getElem (by omega)] at h1
  obtain ⟨a, ha, _, _⟩ := DataW.trod_int Tryd.underlying3 h0
  obtain ⟨b, hb, _, _⟩ := DataW.trod_int Tryd.underlying3 h1
  have g0 := cells_one ha
  have g1 := cells_one hb
  rw [hC] at hlen
  obtain ⟨u, v, rfl⟩ := len2 hlen
  simp at g0 g1
  exact ⟨a, b, by rw [g0, g1]⟩
theorem trod_tok {m : Nat} {cs : List Value} {x : DataW H × List MemPlace} (h : DataW.trod enc Tryd.prog W base spare held m 37 cs = some x) : ∃ t : Tok, cs = t.cells := by
  have hu : Tryd.prog.underlying 37 = some (.struct (Tryd.prog.fieldsOf 37)) := by kernel_rfl
  obtain ⟨xs, n, _, _, hlen, hxl, hel⟩ := DataW.trod_struct hu h
  have hC : Tryd.prog.cellsOf 37 = 5 := by kernel_rfl
  have hx4 : xs.length = 4 := hxl.trans (by kernel_rfl)
  have c3 : Tryd.prog.cellsOf 3 = 1 := by kernel_rfl
  have c9 : Tryd.prog.cellsOf 9 = 1 := by kernel_rfl
  have c25 : Tryd.prog.cellsOf 25 = 2 := by kernel_rfl
  have h0 := hel 0 ((Tryd.prog.fieldsOf 37)[0]!) (by kernel_rfl)
  have h1 := hel 1 ((Tryd.prog.fieldsOf 37)[1]!) (by kernel_rfl)
  have h2 := hel 2 ((Tryd.prog.fieldsOf 37)[2]!) (by kernel_rfl)
  have h3 := hel 3 ((Tryd.prog.fieldsOf 37)[3]!) (by kernel_rfl)
  rw [show ((Tryd.prog.fieldsOf 37)[0]!).type = 3 by kernel_rfl, show ((Tryd.prog.fieldsOf 37)[0]!).offset = 0 by kernel_rfl, c3, List.getElem?_eq_getElem (by omega)] at h0
  rw [show ((Tryd.prog.fieldsOf 37)[1]!).type = 9 by kernel_rfl, show ((Tryd.prog.fieldsOf 37)[1]!).offset = 1 by kernel_rfl, c9, List.getElem?_eq_getElem (by omega)] at h1
  rw [show ((Tryd.prog.fieldsOf 37)[2]!).type = 3 by kernel_rfl, show ((Tryd.prog.fieldsOf 37)[2]!).offset = 2 by kernel_rfl, c3, List.getElem?_eq_getElem (by omega)] at h2
  rw [show ((Tryd.prog.fieldsOf 37)[3]!).type = 25 by kernel_rfl, show ((Tryd.prog.fieldsOf 37)[3]!).offset = 3 by kernel_rfl, c25, List.getElem?_eq_getElem (by omega)] at h3
  obtain ⟨k, ha, _, _⟩ := DataW.trod_int Tryd.underlying3 h0
  obtain ⟨s, hb, _, _⟩ := DataW.trod_string Tryd.underlying9 h1
  obtain ⟨n', hc, _, _⟩ := DataW.trod_int Tryd.underlying3 h2
  obtain ⟨p, q, hd⟩ := trod_place h3
  have g0 := cells_one ha
  have g1 := cells_one hb
  have g2 := cells_one hc
  obtain ⟨g3, g4⟩ := cells_two hd
  rw [hC] at hlen
  obtain ⟨u0, u1, u2, u3, u4, rfl⟩ := len5 hlen
  simp at g0 g1 g2 g3 g4
  exact ⟨⟨k, s, n', p, q⟩, by simp [Tok.cells, g0, g1, g2, g3, g4]⟩
theorem open_toks {fuel : Nat} {cs : List Value} {x : DataW H × List MemPlace} (h : DataW.trod enc Tryd.prog W base spare held fuel 23 cs = some x) :
    ∃ (A : Option Addr) (c : Nat) (l : List Tok), cs = [.slice A l.length c] ∧ TokRow A l W := by
  rcases open_slice Tryd.underlying23 h with ⟨rfl, _⟩ | ⟨a, len, cap, m, n, D, Pl, rfl, _, hl, _, hm, _, hi⟩
  · exact ⟨none, 0, [], rfl, fun i t h => by simp at h⟩
  · have hlm : len ≤ m := by rw [hm]; split <;> omega
    have hC : Tryd.prog.cellsOf 37 = 5 := by kernel_rfl
    obtain ⟨T, hT⟩ := choose_lt (α := Tok) (n := len) (p := fun i t => ∀ j u, t.cells[j]? = some u → W.cell? ((a.add (i * 5)).add j) = some u) (fun i hil => by
      obtain ⟨cs', h1, h2⟩ := hi i (by omega)
      obtain ⟨_, h3, h4⟩ := World.cells?_some h1
      obtain ⟨t, rfl⟩ := trod_tok h2
      refine ⟨t, fun j u hu => ?_⟩
      have hj : j < 5 := by have := (List.getElem?_eq_some_iff.1 hu).1; simpa [Tok.cells] using this
      rw [hC] at h4
      rw [h4 j hj, hu])
    refine ⟨some a, cap, (List.range len).map T, by simp, ?_⟩
    intro i t ht
    have hil : i < len := by have := (List.getElem?_eq_some_iff.1 ht).1; simpa using this
    rw [List.getElem?_map, List.getElem?_range hil] at ht
    simp only [Option.map_some, Option.some.injEq] at ht
    subst ht
    obtain ⟨b, off, spot⟩ := a
    have hspot : spot = none := by
      have h0 := World.cell?_spot (hT 0 (by omega) 0 _ rfl)
      simpa [Addr.add] using h0
    subst hspot
    refine ⟨b, off, rfl, fun j u hu => ?_⟩
    have := hT i hil j u hu
    rw [Go.Deep.add_add] at this
    rw [addr_plain] at this
    exact this
end Go.Proofs.YtlhhpbpoioaagaaDoor
