/- What is proved: for every verdict, the law CompareTexts answers true: compare's Text, Quiet, Same and Holds say what the document's answer says, and the verdict reads behind the call as it read before. Conditions: the three listed tables of the library hold what the program's text lays in them (the card ties that to the text). -/
import Derived.Test.YtefhjioeceadlaaDoorTie
import Derived.Test.YtefhjioeceadlaaDoorCards
import Derived.Test.YtefhjioeceadlaaDoorWg
import Derived.ProofKit
import Derived.LaidMore
import Derived.OpenShut
import Derived.Stop.Joined
import Derived.SevenTiedAt
import Derived.SizedLaws
import Derived.Lib.LaidTab
namespace Go.Proofs.YtefhjioeceadlaaDoor
open Go.ChangeShapes Go.WideShapes Go.ChangeAt Go.RowKit

theorem own : ownKnob Tryd.prog.godebug = none := by kernel_rfl
theorem laidOut : laidOutB Tryd.prog = true := by kernel_rfl

theorem door_met (os : Os) (args : Array Value) : laidMetH Tryd.prog [("math/bits.deBruijn32tab", Rows.laid_math_bits_deBruijn32tab), ("math/bits.deBruijn64tab", Rows.laid_math_bits_deBruijn64tab), ("internal/strconv.uint64pow10", Rows.laid_internal_strconv_uint64pow10)] ((World.doorLaid Tryd.prog 400 os).forCall (fun _ _ => 0) ⟨#[], args, []⟩).memory :=
  laidMetH_of_parts3 (fuel := 8) (laidMet_of_run' 8 (by kernel_rfl) (by kernel_rfl)) (by kernel_rfl) (by kernel_rfl)

theorem of_laid {W : World} (h : laidMetH Tryd.prog [("math/bits.deBruijn32tab", Rows.laid_math_bits_deBruijn32tab), ("math/bits.deBruijn64tab", Rows.laid_math_bits_deBruijn64tab), ("internal/strconv.uint64pow10", Rows.laid_internal_strconv_uint64pow10)] W) : Lib.TabIs Tryd.prog W "internal/strconv.uint64pow10" .u64 Lib.pow10Tab := by
  rw [MakeChecks.laidMetH_plain _ _ _ (by kernel_rfl)] at h
  obtain ⟨ps, ⟨g0, t0, cs0, f0, p0, q0, hg0, ht0, hv0, hd0, ⟨g1, t1, cs1, f1, p1, q1, hg1, ht1, hv1, hd1, ⟨g2, t2, cs2, f2, p2, q2, hg2, ht2, hv2, hd2, _, _⟩, _⟩, _⟩, _, _⟩ := h
  have gn : Tryd.prog.globalNamed "internal/strconv.uint64pow10" = some 0 := by kernel_rfl
  obtain rfl := Option.some.inj (gn.symm.trans hg2)
  have tt : (Tryd.prog.globals[0]?).map (·.type) = some t2 := ht2
  obtain ⟨tn, en, nn, h1, h2, h3, h4, h5⟩ : ∃ tn en nn, (Tryd.prog.globals[0]?).map (·.type) = some tn ∧ Tryd.prog.underlying tn = some (.array nn en) ∧ Tryd.prog.underlying en = some (.int .u64) ∧ Tryd.prog.cellsOf en = 1 ∧ Tryd.prog.cellsOf tn = nn := ⟨63, 53, 20, by kernel_rfl, by kernel_rfl, by kernel_rfl, by kernel_rfl, by kernel_rfl⟩
  obtain rfl := Option.some.inj (h1.symm.trans tt)
  unfold Lib.TabIs
  rw [hv2]
  have e : (Rows.laid_internal_strconv_uint64pow10 : DataW Unit) = Lib.tabData .u64 Lib.pow10Tab := by rfl
  rw [e] at hd2
  rw [← Lib.cells_of_tab h2 h3 h4 h5 hd2]

theorem cell_int {W : World} {base : Nat} {v : Value} (h : Cell.okWide Tryd.prog W .any base 3 v) : ∃ n : Int, v = .int .i64 n := by
  have h' : Value.okWide Tryd.prog W .any base 3 v := by
    unfold Value.okWide; rw [Tryd.underlying3]; exact h
  obtain ⟨n, rfl⟩ := okWide_int Tryd.underlying3 h'
  exact ⟨n, rfl⟩
/-- A number that reads as data has its bound. -/
theorem trod_bound {H : Type} {enc : TypeId × Value → H} {W : World} {base : Nat} {spare : Nat → Bool} {held : Bool} {m : Nat} {n : Int} {x : Option (DataW H × List MemPlace)} (h : DataW.trod enc Tryd.prog W base spare held m 3 [.int .i64 n] = x) (hx : x ≠ Option.none) : n ≤ 9223372036854775807 := by
  obtain ⟨y, rfl⟩ := Option.ne_none_iff_exists'.1 hx
  obtain ⟨k, e1, _, hw⟩ := DataW.trod_int Tryd.underlying3 h
  simp only [List.cons.injEq, Value.int.injEq, and_true, true_and] at e1
  subst e1
  simp only [Lit.wf, Bool.and_eq_true, decide_eq_true_eq] at hw
  exact hw.2
theorem cell_bool {W : World} {base : Nat} {v : Value} (h : Cell.okWide Tryd.prog W .any base 4 v) : ∃ b : Bool, v = .bool b := by
  have h' : Value.okWide Tryd.prog W .any base 4 v := by
    unfold Value.okWide; rw [Tryd.underlying4]; exact h
  obtain ⟨b, rfl⟩ := okWide_bool Tryd.underlying4 h'
  exact ⟨b, rfl⟩

/-- A verdict by value: nine cells. -/
theorem open_verdict {H : Type} {enc : TypeId × Value → H} {W : World} {v : Value} {d : DataW H} {p : List MemPlace} {base : Nat} (hv : Value.okWide Tryd.prog W .any base 24 v) (ht : DataW.Trod enc Tryd.prog W 0 (fun _ => true) true 24 v d p) :
    ∃ (l : Bool) (c0 c1 y0 y1 a o g n : Int), v = .agg #[.bool l, .int .i64 c0, .int .i64 c1, .int .i64 y0, .int .i64 y1, .int .i64 a, .int .i64 o, .int .i64 g, .int .i64 n] ∧
      y0 ≤ 9223372036854775807 ∧ y1 ≤ 9223372036854775807 ∧ a ≤ 9223372036854775807 ∧ o ≤ 9223372036854775807 ∧ g ≤ 9223372036854775807 ∧ n ≤ 9223372036854775807 := by
  have hu : Tryd.prog.underlying 24 = some (.struct (Tryd.prog.fieldsOf 24)) := by kernel_rfl
  have hC : Tryd.prog.cellsOf 24 = 9 := by kernel_rfl
  have hT : Tryd.prog.cellTypes Tryd.prog.depth 24 = some [4, 3, 3, 3, 3, 3, 3, 3, 3] := by kernel_rfl
  simp only [Value.okWide, hu] at hv
  obtain ⟨cs, rfl, hsz, ts, hts, _, hc⟩ := hv
  obtain rfl := Option.some.inj (hT.symm.trans hts)
  rw [hC] at hsz
  obtain ⟨l⟩ := cs
  match l, hsz with
  | [k0, k1, k2, k3, k4, k5, k6, k7, k8], _ =>
    have at_ : ∀ (i : Nat) v u, (#[k0, k1, k2, k3, k4, k5, k6, k7, k8] : Array Value)[i]? = some v → ([4, 3, 3, 3, 3, 3, 3, 3, 3] : List TypeId)[i % 9]? = some u → Cell.okWide Tryd.prog W .any base u v := fun i v u h1 h2 => by
      obtain ⟨u', h3, h4⟩ := hc i v h1
      obtain rfl := Option.some.inj (h2.symm.trans h3)
      exact h4
    obtain ⟨l, rfl⟩ := cell_bool (at_ 0 k0 4 rfl rfl)
    obtain ⟨n1, rfl⟩ := cell_int (at_ 1 k1 3 rfl rfl)
    obtain ⟨n2, rfl⟩ := cell_int (at_ 2 k2 3 rfl rfl)
    obtain ⟨n3, rfl⟩ := cell_int (at_ 3 k3 3 rfl rfl)
    obtain ⟨n4, rfl⟩ := cell_int (at_ 4 k4 3 rfl rfl)
    obtain ⟨n5, rfl⟩ := cell_int (at_ 5 k5 3 rfl rfl)
    obtain ⟨n6, rfl⟩ := cell_int (at_ 6 k6 3 rfl rfl)
    obtain ⟨n7, rfl⟩ := cell_int (at_ 7 k7 3 rfl rfl)
    obtain ⟨n8, rfl⟩ := cell_int (at_ 8 k8 3 rfl rfl)
    obtain ⟨fuel, hf⟩ := ht
    obtain ⟨xs, m, rfl, _, _, hxl, hel⟩ := DataW.trod_struct hu hf
    have hx7 : xs.length = 7 := hxl.trans (by kernel_rfl)
    have leaf : ∀ (i off : Nat) (n : Int), i < 7 → (∃ f, (Tryd.prog.fieldsOf 24)[i]? = some f ∧ f.type = 3 ∧ f.offset = off) → ((Value.agg #[.bool l, .int .i64 n1, .int .i64 n2, .int .i64 n3, .int .i64 n4, .int .i64 n5, .int .i64 n6, .int .i64 n7, .int .i64 n8]).cells.toList.drop off).take 1 = [.int .i64 n] → n ≤ 9223372036854775807 := by
      rintro i off n hi ⟨f, e1, e2, e3⟩ hc
      have h1 := hel i f e1
      rw [e2, e3, show Tryd.prog.cellsOf 3 = 1 by kernel_rfl, hc] at h1
      exact trod_bound h1 (by rw [List.getElem?_eq_getElem (by omega)]; exact fun h => by cases h)
    have b5 := leaf 3 5 n5 (by decide) ⟨(Tryd.prog.fieldsOf 24)[3]!, by kernel_rfl, by kernel_rfl, by kernel_rfl⟩ rfl
    have b6 := leaf 4 6 n6 (by decide) ⟨(Tryd.prog.fieldsOf 24)[4]!, by kernel_rfl, by kernel_rfl, by kernel_rfl⟩ rfl
    have b7 := leaf 5 7 n7 (by decide) ⟨(Tryd.prog.fieldsOf 24)[5]!, by kernel_rfl, by kernel_rfl, by kernel_rfl⟩ rfl
    have b8 := leaf 6 8 n8 (by decide) ⟨(Tryd.prog.fieldsOf 24)[6]!, by kernel_rfl, by kernel_rfl, by kernel_rfl⟩ rfl
    have harr := hel 2 ((Tryd.prog.fieldsOf 24)[2]!) (by kernel_rfl)
    rw [show ((Tryd.prog.fieldsOf 24)[2]!).type = 22 by kernel_rfl, show ((Tryd.prog.fieldsOf 24)[2]!).offset = 3 by kernel_rfl, show Tryd.prog.cellsOf 22 = 2 by kernel_rfl, List.getElem?_eq_getElem (show 2 < xs.length by omega)] at harr
    obtain ⟨zs, m2, _, _, _, hzl, hze⟩ := DataW.trod_array (show Tryd.prog.underlying 22 = some (.array 2 3) by kernel_rfl) harr
    have a0 := hze 0 (by decide)
    have a1 := hze 1 (by decide)
    rw [show Tryd.prog.cellsOf 3 = 1 by kernel_rfl] at a0 a1
    have b3 : n3 ≤ 9223372036854775807 := trod_bound (n := n3) a0 (by rw [List.getElem?_eq_getElem (by omega)]; exact fun h => by cases h)
    have b4 : n4 ≤ 9223372036854775807 := trod_bound (n := n4) a1 (by rw [List.getElem?_eq_getElem (by omega)]; exact fun h => by cases h)
    exact ⟨l, n1, n2, n3, n4, n5, n6, n7, n8, rfl, b3, b4, b5, b6, b7, b8⟩

set_option maxRecDepth 100000 in
theorem lifted (os : Os) (started : os.Started) (H : Type) (enc : TypeId × Value → H) :
    ReturnsInHanded {} Tryd.checked os 3 .any (fun w args => (Rows.compareTextsSpec.pre enc Tryd.prog Tryd.f3 [] false w args ∧ laidMetH Tryd.prog [("math/bits.deBruijn32tab", Rows.laid_math_bits_deBruijn32tab), ("math/bits.deBruijn64tab", Rows.laid_math_bits_deBruijn64tab), ("internal/strconv.uint64pow10", Rows.laid_internal_strconv_uint64pow10)] w) ∧ sizedMet enc Tryd.prog Tryd.f3 (OpenSpec.ofChange Rows.compareTextsSpec) false w args)
      (Rows.compareTextsSpec.post enc Tryd.prog Tryd.f3 false true false false) := by
  refine returnsInHanded_of_change_and (C := Tryd.checked) (X := fun w _ => laidMetH Tryd.prog [("math/bits.deBruijn32tab", Rows.laid_math_bits_deBruijn32tab), ("math/bits.deBruijn64tab", Rows.laid_math_bits_deBruijn64tab), ("internal/strconv.uint64pow10", Rows.laid_internal_strconv_uint64pow10)] w) (fun _ _ _ hh h => h.of_heap hh) own started (by kernel_rfl) Tryd.func3
    (ChangeSpec.witness_shaped (enc := enc) (C := Tryd.checked) (os := os) (X := fun w _ => laidMetH Tryd.prog [("math/bits.deBruijn32tab", Rows.laid_math_bits_deBruijn32tab), ("math/bits.deBruijn64tab", Rows.laid_math_bits_deBruijn64tab), ("internal/strconv.uint64pow10", Rows.laid_internal_strconv_uint64pow10)] w) false (World.doorLaid Tryd.prog 400 os) #[.agg #[.bool false, .int .i64 0, .int .i64 0, .int .i64 0, .int .i64 0, .int .i64 0, .int .i64 0, .int .i64 0, .int .i64 0]] 8 rfl (World.shaped_of_RefB (by kernel_rfl) (by kernel_rfl)) (by kernel_rfl) (by kernel_rfl) (by kernel_rfl) (door_met os _)) ?_
  intro W base args ds gs before hval0 hW _ _ hL _
  have hval : ∀ (j : Nat) t v, Tryd.f3.params[j]? = some t → args[j]? = some v → Value.okWide Tryd.prog W .any base t v := hval0
  have hW' := hW
  obtain ⟨p, q, hA0, hV, rfl, hfz, hnd⟩ := hW
  have hA : DataW.TrodAll enc Tryd.prog W 0 (fun _ => true) true Tryd.f3.params.toList args.toList ds p := hA0
  rw [Tryd.params3] at hA hval
  obtain ⟨v0, d0, rfl, rfl, h0⟩ := trodAll_one hA
  obtain ⟨rfl, rfl⟩ := trodVars_none hV
  obtain ⟨l, c0, c1, y0, y1, a, o, g, n, rfl, b3, b4, b5, b6, b7, b8⟩ := open_verdict (hval 0 24 v0 rfl rfl) h0
  have lt0 : ∀ x ∈ p, x.block < W.heap.size := by obtain ⟨m, hm⟩ := h0; exact DataW.trod_lt m _ _ _ hm
  clear hA0 hval0
  refine (law_c l c0 c1 y0 y1 a o g n W b3 b4 b5 b6 b7 b8 (of_laid hL)).mono fun e W' ⟨he, bel⟩ => ?_
  subst he
  exact ⟨_, rfl, _, _, _, [], _, [], hW', trodAll_mk1 (shut_bool Tryd.underlying4 _), trodAll_mk1 (Below.trod laidOut (by kernel_rfl) (of_decide_eq_true (by kernel_rfl)) h0 bel lt0), rfl, bel.frame _, fun h => by cases h⟩

theorem compareTexts_holds : Rows.CompareTextsSaid :=
  OpenClaim.holds_of_wide 3 Tryd.f3 rfl rfl rfl rfl rfl rfl rfl ⟨rfl, rfl, rfl, rfl, rfl⟩ rfl rfl rfl rfl rfl (by kernel_rfl) Tryd.func3 (by kernel_rfl)
    (of_decide_eq_true (by kernel_rfl)) (by unfold Func.isWrapper; first | (rw [if_pos (by decide +kernel)]; kernel_rfl) | (rw [if_neg (by decide +kernel)]; exact ⟨rfl, rfl⟩))
    (fun os started H enc _ => lifted os started H enc)

theorem compareTexts_card : Rows.CompareTextsCardSaid :=
  Claim7.holds_tied_plain_at .later [] [.data, .data, .data] true (true, "edf947a3c08c727568946910e6928debe2641ce03061d04f42188b578f8f6695") false
    compareTexts_holds (fun _ h => by cases h) (by kernel_rfl) (fun _ h => by cases h) compareTexts_row_tie rfl ⟨rfl, rfl⟩ (by kernel_rfl) rfl
    (fun f fn hf hfn => by
      obtain rfl : f = 3 := Option.some.inj ((show Tryd.prog.funcNamed "cochineal/cochineallaw20.CompareTexts" = some 3 by kernel_rfl).symm.trans hf) |>.symm
      obtain rfl : fn = Tryd.f3 := (Option.some.inj (Tryd.func3.symm.trans hfn)).symm
      exact ⟨by kernel_rfl, fun j t ht => by
        rw [Tryd.params3] at ht
        have hm : t ∈ [24] := by simpa using Array.mem_of_getElem? ht
        have hall : ([24].all fun u => !Tryd.prog.wantsStandIn u) = true := by kernel_rfl
        exact (show Tryd.prog.wantsStandIn t = false by simpa using List.all_eq_true.1 hall t hm)⟩)
    (by kernel_rfl)
#print axioms compareTexts_card
end Go.Proofs.YtefhjioeceadlaaDoor
