/- Own helper text: a region that draws its order, whose operations read, and whose callees may lay blocks of their own: walked once, in the class of the worlds that are later than the one at its begin ('Later'). -/
import Derived.WalkKit
import Derived.Below
import Derived.Deep.QuietTactic
import Derived.BigQuiet
import Derived.WalkSmall
namespace Go
set_option linter.unusedVariables false
set_option linter.unusedSimpArgs false
open Go.RowKit

/-- A world in which all that lay in W lies as it lay. -/
structure Later (W : World) where
  w : World
  h : Below W.heap.size W w

instance {W : World} : Inhabited (Later W) := ⟨⟨W, Below.refl _ _⟩⟩
theorem Later.cell {W : World} (p : Later W) {a : Addr} (hb : a.block < W.heap.size) : p.w.cell? a = W.cell? a := p.h.cell hb
theorem later_cell {W : World} {a : Addr} {v : Value} (h : W.cell? a = some v) : ∀ p : Later W, p.w.cell? a = some v := fun p => (p.cell (World.block_lt_of_cell? W a h)).trans h
theorem later_block {W : World} {b : Nat} {cs : Array Value} {t : TypeId} {fr : Nat × Nat} (h : W.heap[b]? = some (.cells cs t fr)) : ∀ (p : Later W) (i : Nat), p.w.cell? ⟨b, i, none⟩ = cs[i]? := fun p i => by
  have hb : b < W.heap.size := by
    rcases Nat.lt_or_ge b W.heap.size with h1 | h1
    · exact h1
    · rw [Array.getElem?_eq_none h1] at h; cases h
  rw [p.cell (a := ⟨b, i, none⟩) hb]
  simp [World.cell?, h]

theorem wp_region_later {P : Program} {id : Nat} {Q : Exit → Act → World → Prop} {a : Act} {W : World} {l : List Oper} (hm : P.follows .mixedOrders = true) (hB : Region.lexB .any l.toArray = true)
    (h : wpQuiet P l.toArray (fun w' => ∃ p : Later W, w' = p.w) (fun a' => ∀ w', (∃ p : Later W, w' = p.w) → Q .normal a' w') l a) : (Code.region id l.toArray true).wp P Q a W :=
  wp_region_quiet (C := fun w' => ∃ p : Later W, w' = p.w) hm hB ⟨⟨W.drew, (Below.refl _ W).drew⟩, rfl⟩ (by simpa using h)

/-- A callee's contract, met in a world of the class. -/
theorem Calls.later_of {P : Program} {f : FuncId} {args : Array Value} {W : World} {p : Later W} {v : Value}
    (h : Calls P f args p.w fun e w' => e = .returned v ∧ Below p.w.heap.size p.w w') : Calls P f args p.w fun e w'' => e = .returned v ∧ ∃ q : Later W, w'' = q.w :=
  h.mono fun _ w' ⟨he, hb⟩ => ⟨he, ⟨w', p.h.trans (hb.mono p.h.size)⟩, rfl⟩
/-- .. of a callee that leaves the world as it was. -/
theorem Calls.later_same {P : Program} {f : FuncId} {args : Array Value} {W : World} {p : Later W} {v : Value}
    (h : Calls P f args p.w fun e w' => e = .returned v ∧ p.w = w') : Calls P f args p.w fun e w'' => e = .returned v ∧ ∃ q : Later W, w'' = q.w :=
  h.mono fun _ _ ⟨he, hb⟩ => ⟨he, p, hb.symm⟩
theorem later_next {W W2 : World} (hq : Below W.heap.size W W2) {b : Nat} {cs : Array Value} (hb : b < W.heap.size) (h : ∀ i, W.cell? ⟨b, i, none⟩ = cs[i]?) : ∀ i, W2.cell? ⟨b, i, none⟩ = cs[i]? := fun i => by
  rw [hq.cell (p := ⟨b, i, none⟩) hb]; exact h i
theorem later_facts {W : World} {b : Nat} {cs : Array Value} (hb : b < W.heap.size) (h : ∀ i, W.cell? ⟨b, i, none⟩ = cs[i]?) : ∀ (p : Later W) (i : Nat), p.w.cell? ⟨b, i, none⟩ = cs[i]? := fun p i => by
  rw [p.cell (a := ⟨b, i, none⟩) hb]; exact h i
/-- A row of the call's own lives on in a later world. -/
theorem own_later {w w1 : World} {base n : Nat} {e : TypeId} {size : Nat} {v : Value} {xs : List Value} (h : w.ownsRow base e size v n xs) (hb : Below w.heap.size w w1) : w1.ownsRow base e size v n xs :=
  h.kept (row := none) ⟨hb.os, hb.tape, hb.output, hb.size, fun i hi _ => hb.block i hi⟩ (by cases v.ownBlock <;> simp)
theorem own_drewN {w : World} {base n : Nat} {e : TypeId} {size : Nat} {v : Value} {xs : List Value} (h : w.ownsRow base e size v n xs) (k : Nat) : (w.drewN k).ownsRow base e size v n xs := own_later h (below_drewN (Below.refl _ _) k)
theorem own_lt {w : World} {base n : Nat} {e : TypeId} {size g cap : Nat} {xs : List Value} (h : w.ownsRow base e size (.slice (some ⟨g, 0, none⟩) n cap) n xs) : g < w.heap.size := by
  rcases h.2 with ⟨h6, _⟩ | ⟨g', c', cur, h6, _, hh, _⟩
  · cases h6
  · injection h6 with h7; injection h7 with h8; injection h8 with h9; subst h9; exact (Array.getElem?_eq_some_iff.1 hh).1
theorem below_of_drew {W w1 : World} (h : Below W.drew.heap.size W.drew w1) : Below W.heap.size W w1 := ⟨h.os, h.tape, h.output, h.size, h.block⟩
/-- Block b holds just these cells. -/
def BoxAt (b : Nat) (cs : Array Value) (w : World) : Prop := b < w.heap.size ∧ ∀ i, w.cell? ⟨b, i, none⟩ = cs[i]?
theorem BoxAt.later {b : Nat} {cs : Array Value} {w w1 : World} (h : BoxAt b cs w) (hb : Below w.heap.size w w1) : BoxAt b cs w1 :=
  ⟨Nat.lt_of_lt_of_le h.1 hb.size, fun i => by rw [hb.cell (p := ⟨b, i, none⟩) h.1]; exact h.2 i⟩
theorem BoxAt.alloc {b : Nat} {cs : Array Value} {w : World} (h : BoxAt b cs w) (o : Obj) : BoxAt b cs (w.alloc o) := h.later ((Below.refl _ w).alloc (Nat.le_refl _) o)
theorem BoxAt.drew {b : Nat} {cs : Array Value} {w : World} (h : BoxAt b cs w) : BoxAt b cs w.drew := h
theorem BoxAt.grown {b : Nat} {cs : Array Value} {w w1 : World} {row : Option Nat} (h : BoxAt b cs w) (hg : w.grownBy w1 row) (hne : some b ≠ row) : BoxAt b cs w1 :=
  ⟨Nat.lt_of_lt_of_le h.1 hg.size, fun i => by rw [World.cell?_of_block (a := ⟨b, i, none⟩) (hg.block b h.1 hne)]; exact h.2 i⟩
theorem BoxAt.new (w : World) (cs : Array Value) (t : TypeId) : BoxAt w.heap.size cs (w.alloc (.cells cs t)) := ⟨by simp, fun i => by simp⟩
end Go
