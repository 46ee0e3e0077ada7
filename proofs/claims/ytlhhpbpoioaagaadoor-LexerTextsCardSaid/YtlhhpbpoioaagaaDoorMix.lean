/- Own helper text: A REGION THAT DRAWS ITS ORDER, WHOSE EFFECTS (calls, allocations, appends, stores) WAIT FOR ONE ANOTHER, AND WHOSE OTHER OPERATIONS READ WHAT NO EFFECT TURNS: the walk in the order of the text serves every order.
   'C': a class of worlds; a reading operation yields one value in every world of C; each effect leaves a world of C. 'eff': which operations are effects. -/
import Derived.WalkKit
import Derived.Orders
import Derived.Still
namespace Go
set_option linter.unusedVariables false
set_option linter.unusedSimpArgs false
namespace Mix2

section
variable {P : Program} {ops : Array Oper} {C : Nat → World → Prop} {eff : Nat → Bool} {Q : Act → World → Prop}

/-- Nothing else may come of it: no panic. -/
def NoQ : Exit → Act → World → Prop := fun _ _ _ => False

/-- What a reading operation yields. -/
def Yields (P : Program) (o : Oper) (a : Act) (w : World) (v : Value) : Prop :=
  match (execOp a.eval o).run P w with
  | .ok (.value u) w' => w' = w ∧ u = v
  | .ok .skip w' => w' = w ∧ v = undef
  | _ => False

/-- Does j wait for i, by a road of edges? -/
def anc (ops : Array Oper) : Nat → Nat → Nat → Bool
  | 0, _, _ => false
  | f + 1, j, i => match ops[j]? with
    | none => false
    | some oj => oj.after.any fun e => Region.binds .any e && (e.on == i || anc ops f e.on i)

/-- The world that effect k leaves: what does not stand ahead of k may still look at it. -/
def After (ops : Array Oper) (C : Nat → World → Prop) (k : Nat) (w : World) : Prop := ∀ j, j ≠ k → anc ops ops.size k j = false → C j w
/-- What is not done yet may look at the world. -/
def Inv (C : Nat → World → Prop) (listed : Array Bool) (w : World) : Prop := ∀ j, listed.getD j false = false → C j w
/-- Operation i, what follows behind K. -/
def op (P : Program) (ops : Array Oper) (C : Nat → World → Prop) (eff : Nat → Bool) (i : Nat) (K : Act → World → Prop) (a : Act) (w : World) : Prop :=
  match ops[i]? with
  | none => K a w
  | some o =>
    if Region.wanted o (yielded ops a.tmps) = true then
      if eff i = true then o.wp P a w (fun a' w' => After ops C i w' ∧ K a' w') NoQ
      else ∃ v, (∀ w', C i w' → Yields P o a w' v) ∧ K (a.put o.dst v) w
    else K (a.put o.dst undef) w

/-- Whatever order is picked. -/
def any (P : Program) (ops : Array Oper) (C : Nat → World → Prop) (eff : Nat → Bool) (Q : Act → World → Prop) : Nat → Array Bool → Act → World → Prop
  | 0, listed, a, w => Region.ready .any ops listed = [] ∧ Q a w
  | fuel + 1, listed, a, w =>
    (Region.ready .any ops listed = [] → Q a w) ∧
    ∀ i ∈ Region.ready .any ops listed, op P ops C eff i (any P ops C eff Q fuel (listed.setIfInBounds i true)) a w

theorem upon_mono {o : Oper} {a : Act} {K K' : Act → World → Prop} {R R' : Exit → Act → World → Prop} (hK : ∀ a w, K a w → K' a w) (hR : ∀ e a w, R e a w → R' e a w) {r : Result Next} (h : o.upon P a K R r) : o.upon P a K' R' r := by
  cases r with
  | ok n w' =>
    cases n <;> simp only [Oper.upon] at h ⊢
    case value => exact hK _ _ h
    case skip => exact hK _ _ h
    case defer => exact hK _ _ h
    case enter =>
      refine h.mono fun e w'' h => ?_
      cases e with
      | returned v => exact hK _ _ h
      | panicked c => exact hR _ _ _ h
      | outgrown => obtain ⟨a0, w0, h0⟩ := h; exact ⟨a0, w0, hR _ _ _ h0⟩
    case row => exact h.mono fun _ _ h => hK _ _ h
  | halt x w' =>
    cases x <;> simp only [Oper.upon] at h ⊢
    exact hR _ _ _ h

theorem wp_mono {o : Oper} {a : Act} {w : World} {K K' : Act → World → Prop} {R R' : Exit → Act → World → Prop} (hK : ∀ a w, K a w → K' a w) (hR : ∀ e a w, R e a w → R' e a w) (h : o.wp P a w K R) : o.wp P a w K' R' :=
  upon_mono hK hR h

theorem op_mono {i : Nat} {a : Act} {w : World} {K K' : Act → World → Prop} (h : ∀ a w, K a w → K' a w) (hh : op P ops C eff i K a w) : op P ops C eff i K' a w := by
  unfold op at *
  split
  · rename_i ho; simp only [ho] at hh; exact h _ _ hh
  · rename_i o ho
    simp only [ho] at hh
    split
    · rename_i hw
      simp only [hw, if_true] at hh
      split
      · rename_i he; simp only [he, if_true] at hh; exact wp_mono (fun _ _ ⟨h1, h2⟩ => ⟨h1, h _ _ h2⟩) (fun _ _ _ h => h) hh
      · rename_i he; simp only [he] at hh; obtain ⟨v, h1, h2⟩ := hh; exact ⟨v, h1, h _ _ h2⟩
    · rename_i hw; simp only [hw] at hh; exact h _ _ hh

/-- In state a operation o yields v, in every world of the class (v undef where it is passed over). -/
def In (P : Program) (ops : Array Oper) (C : Nat → World → Prop) (i : Nat) (b : Bool) (o : Oper) (v : Value) (a : Act) : Prop :=
  (Region.wanted o (yielded ops a.tmps) = true ∧ b = false ∧ ∀ w, C i w → Yields P o a w v) ∨ (Region.wanted o (yielded ops a.tmps) = false ∧ v = undef)

theorem In.op {i : Nat} {o : Oper} {v : Value} {a : Act} {w : World} (hi : ops[i]? = some o) (hy : In P ops C i (eff i) o v a) {K : Act → World → Prop} (h : K (a.put o.dst v) w) : op P ops C eff i K a w := by
  unfold Mix2.op
  simp only [hi]
  rcases hy with ⟨hw, he, hv⟩ | ⟨hw, rfl⟩
  · simp only [hw, if_true, he, Bool.false_eq_true, if_false]; exact ⟨v, hv, h⟩
  · simp only [hw, Bool.false_eq_true, if_false]; exact h

theorem In.of_same {i : Nat} {b : Bool} {o : Oper} {v : Value} {a a' : Act} (hy : In P ops C i b o v a) (he : execOp a'.eval o = execOp a.eval o) (hw : Region.wanted o (yielded ops a'.tmps) = Region.wanted o (yielded ops a.tmps)) : In P ops C i b o v a' := by
  unfold In Yields at *
  rw [he, hw]
  exact hy

theorem in_of_op {i : Nat} {o : Oper} {a : Act} {w : World} {K : Act → World → Prop} (hi : ops[i]? = some o) (he : eff i = false) (h : op P ops C eff i K a w) : ∃ v, In P ops C i (eff i) o v a ∧ K (a.put o.dst v) w := by
  unfold op at h
  simp only [hi] at h
  by_cases hw : Region.wanted o (yielded ops a.tmps) = true
  · simp only [hw, if_true, he, Bool.false_eq_true, if_false] at h
    obtain ⟨v, h1, h2⟩ := h
    exact ⟨v, .inl ⟨hw, he, h1⟩, h2⟩
  · simp only [hw] at h
    exact ⟨undef, .inr ⟨by simpa using hw, rfl⟩, h⟩

theorem In.unique {i : Nat} {b : Bool} {o : Oper} {a : Act} {u v : Value} {w : World} (hC : C i w) (h1 : In P ops C i b o u a) (h2 : In P ops C i b o v a) : u = v := by
  rcases h1 with ⟨hw, _, h1⟩ | ⟨hw, rfl⟩
  · rcases h2 with ⟨_, _, h2⟩ | ⟨hw', _⟩
    · have a1 := h1 w hC
      have a2 := h2 w hC
      unfold Yields at a1 a2
      generalize (execOp a.eval o).run P w = r at a1 a2
      cases r with
      | ok n w' =>
        cases n <;> simp only at a1 a2
        case value => exact a1.2.symm.trans a2.2
        case skip => exact a1.2.trans a2.2.symm
      | halt x w' => exact a1.elim
    · rw [hw] at hw'; cases hw'
  · rcases h2 with ⟨hw', _⟩ | ⟨_, rfl⟩
    · rw [hw] at hw'; cases hw'
    · rfl

/-! ### An operation and what another one has put -/

theorem put_defers (a : Act) (x : Option Tmp) (v : Value) (d : List Deferred) : ({ a.put x v with defers := d } : Act) = ({ a with defers := d } : Act).put x v := by cases x <;> rfl
theorem defers_put (a : Act) (x : Option Tmp) (v : Value) : (a.put x v).defers = a.defers := by cases x <;> rfl

theorem upon_put {o : Oper} {a : Act} {x : Option Tmp} {v : Value} (hne : ∀ d, x = some d → o.dst ≠ some d) {N : Act → World → Prop} (r : Result Next) :
    o.upon P (a.put x v) N NoQ r ↔ o.upon P a (fun a' w' => N (a'.put x v) w') NoQ r := by
  have hc : ∀ u, (a.put x v).put o.dst u = (a.put o.dst u).put x v := fun u => Act.put_comm a v u hne
  cases r with
  | ok n w' =>
    cases n <;> simp only [Oper.upon, hc]
    case defer d =>
      rw [put_defers, defers_put]
      have : (({ a with defers := d :: a.defers } : Act).put x v).put o.dst undef = (({ a with defers := d :: a.defers } : Act).put o.dst undef).put x v := Act.put_comm _ v undef hne
      rw [this]
    case enter f args =>
      constructor <;> (intro h; refine h.mono fun e w'' h => ?_; cases e <;> first | exact h | exact (h : False).elim)
  | halt y w' => cases y <;> simp only [Oper.upon, NoQ]

theorem wp_put {o : Oper} {a : Act} {x : Option Tmp} {v : Value} {w : World} (hs : ∀ cs b, o.op ≠ .select cs b) (hl : ∀ d, x = some d → d ∉ o.looksAt ops) (hne : ∀ d, x = some d → o.dst ≠ some d) {N : Act → World → Prop} :
    o.wp P (a.put x v) w N NoQ ↔ o.wp P a w (fun a' w' => N (a'.put x v) w') NoQ := by
  unfold Oper.wp
  rw [execOp_put (ops := ops) o hs a x v hl]
  exact upon_put hne _

/-- What an operation that comes to an end leaves in the frame. -/
theorem upon_tmps {o : Oper} {a : Act} {N : Act → World → Prop} {r : Result Next} (h : o.upon P a N NoQ r) : o.upon P a (fun a' w' => (∃ u, a'.tmps = (a.put o.dst u).tmps) ∧ N a' w') NoQ r := by
  cases r with
  | ok n w' =>
    cases n <;> simp only [Oper.upon] at h ⊢
    case value u => exact ⟨⟨u, rfl⟩, h⟩
    case skip => exact ⟨⟨_, rfl⟩, h⟩
    case defer d => exact ⟨⟨undef, by rw [← put_defers]⟩, h⟩
    case enter =>
      refine h.mono fun e w'' h => ?_
      cases e with
      | returned v => exact ⟨⟨v, rfl⟩, h⟩
      | panicked c => exact h
      | outgrown => exact h
    case row => exact h.mono fun v _ h => ⟨⟨v, rfl⟩, h⟩
  | halt y w' => cases y <;> simp only [Oper.upon, NoQ] at h ⊢

theorem upon_one {o : Oper} {a : Act} {N : Act → World → Prop} {r : Result Next} (h : o.upon P a N NoQ r) : ∃ a' w', N a' w' := by
  cases r with
  | ok n w' =>
    cases n <;> simp only [Oper.upon] at h
    case value u => exact ⟨_, _, h⟩
    case skip => exact ⟨_, _, h⟩
    case defer d => exact ⟨_, _, h⟩
    case enter =>
      obtain ⟨e, w2, fr, h1, _⟩ := h []
      cases e with
      | returned v => exact ⟨_, _, h1⟩
      | panicked c => exact (h1 : False).elim
      | outgrown => obtain ⟨_, _, h0⟩ := h1; exact (h0 : False).elim
    case row =>
      obtain ⟨v, w2, h1, _⟩ := h default []
      exact ⟨_, _, h1⟩
  | halt y w' => cases y <;> simp only [Oper.upon, NoQ] at h

theorem eval_of_tmps {a b : Act} (h : a.tmps = b.tmps) : a.eval = b.eval := by
  funext x; cases x <;> simp [Act.eval, h]

/-- Operation j, apart from i: i's value may lie in its place already. -/
theorem op_put {i j : Nat} {oi oj : Oper} {v : Value} {w : World} (hj : ops[j]? = some oj) (hap : oi.apart ops oj = true) (hsi : ∀ cs b, oi.op ≠ .select cs b) (hsj : ∀ cs b, oj.op ≠ .select cs b)
    {b : Bool} {K : Act → World → Prop} {a : Act} (hy : In P ops C i b oi v a) (h : op P ops C eff j K (a.put oi.dst v) w) :
    op P ops C eff j (fun a' w' => In P ops C i b oi v a' ∧ (w' = w ∨ After ops C j w') ∧ K (a'.put oi.dst v) w') a w := by
  obtain ⟨h1, h2, h3⟩ := Oper.apart_spec hap
  have keep : ∀ (a a' : Act) (u : Value), a'.tmps = (a.put oj.dst u).tmps → In P ops C i b oi v a → In P ops C i b oi v a' := fun a a' u ht hy =>
    hy.of_same (by rw [eval_of_tmps ht]; exact execOp_put (ops := ops) oi hsi a oj.dst u h3) (by rw [ht]; exact wanted_put oi a oj.dst u h3)
  unfold op at *
  simp only [hj] at *
  rw [wanted_put oj a oi.dst v h1] at h
  split
  · rename_i hw
    simp only [hw, if_true] at h
    split
    · rename_i he
      simp only [he, if_true] at h
      have h4 := (wp_put (ops := ops) hsj h1 h2).1 h
      refine wp_mono ?_ (fun _ _ _ h => h) (upon_tmps h4)
      rintro a' w' ⟨⟨u, ht⟩, h5, h6⟩
      exact ⟨h5, keep a a' u ht hy, .inr h5, h6⟩
    · rename_i he
      simp only [he, Bool.false_eq_true, if_false] at h
      obtain ⟨u, hu, hn⟩ := h
      refine ⟨u, fun w' hw' => ?_, keep a _ u rfl hy, .inl trivial, by rw [← Act.put_comm a v u h2]; exact hn⟩
      have := hu w' hw'
      unfold Yields at *
      rw [execOp_put (ops := ops) oj hsj a oi.dst v h1] at this
      exact this
  · rename_i hw
    simp only [hw] at h
    exact ⟨keep a _ undef rfl hy, .inl trivial, by rw [← Act.put_comm a v undef h2]; exact h⟩

theorem getD_lt {listed : Array Bool} {i : Nat} (h : listed.getD i true = false) : listed.getD i false = false := by
  rcases Nat.lt_or_ge i listed.size with h' | h'
  · simp [h'] at h ⊢; exact h
  · simp [Array.getElem?_eq_none h'] at h

def Closed (ops : Array Oper) (listed : Array Bool) : Prop := ∀ m om, ops[m]? = some om → listed.getD m false = true → ∀ e ∈ om.after, Region.binds .any e = true → listed.getD e.on false = true

theorem anc_listed {listed : Array Bool} (hc : Closed ops listed) {i : Nat} : ∀ (f j : Nat) (oj : Oper), ops[j]? = some oj → (∀ e ∈ oj.after, Region.binds .any e = true → listed.getD e.on false = true) → anc ops f j i = true → listed.getD i false = true
  | 0, _, _, _, _, h => by simp [anc] at h
  | f + 1, j, oj, ho, hall, h => by
    simp only [anc, ho] at h
    obtain ⟨e, he, hb⟩ := Array.any_eq_true'.1 h
    simp only [Bool.and_eq_true, Bool.or_eq_true, beq_iff_eq] at hb
    obtain ⟨hb, h1 | h1⟩ := hb
    · rw [← h1]; exact hall e he hb
    · have hl := hall e he hb
      cases hm : ops[e.on]? with
      | none => cases f <;> simp [anc, hm] at h1
      | some om => exact anc_listed hc f e.on om hm (hc e.on om hm hl) h1

theorem Closed.set {listed : Array Bool} (hc : Closed ops listed) {j : Nat} (hj : j ∈ Region.ready .any ops listed) : Closed ops (listed.setIfInBounds j true) := by
  intro m om hm hl e he hb
  obtain ⟨_, oj, hoj, hall⟩ := mem_ready.1 hj
  refine getD_set_true ?_
  by_cases hmj : j = m
  · subst hmj
    rw [hm] at hoj
    cases hoj
    exact hall e he hb
  · rw [getD_set_ne false hmj] at hl
    exact hc m om hm hl e he hb


theorem Inv.set {listed : Array Bool} {w : World} (h : Inv C listed w) (i : Nat) : Inv C (listed.setIfInBounds i true) w := fun j hj => h j (by
  by_cases hij : i = j
  · subst hij
    rcases Nat.lt_or_ge i listed.size with h' | h'
    · simp [h'] at hj
    · simp [Array.getElem?_eq_none h']
  · rw [getD_set_ne false hij] at hj; exact hj)
theorem After.inv {listed : Array Bool} {w : World} {i : Nat} (hcl : Closed ops listed) (hr : i ∈ Region.ready .any ops listed) (h : After ops C i w) : Inv C (listed.setIfInBounds i true) w := fun j hj => by
  obtain ⟨hiun, oi, hoi, halli⟩ := mem_ready.1 hr
  have hij : i ≠ j := by
    rintro rfl
    rcases Nat.lt_or_ge i listed.size with h' | h'
    · simp [h'] at hj
    · simp [Array.getElem?_eq_none h'] at hiun
  rw [getD_set_ne false hij] at hj
  refine h j (Ne.symm hij) ?_
  cases h0 : anc ops ops.size i j with
  | false => rfl
  | true => rw [anc_listed hcl _ i oi hoi halli h0] at hj; cases hj

theorem wpAny_of {R : Exit → Act → World → Prop} (hQ : ∀ a w, Q a w → R .normal a w) : ∀ (fuel : Nat) (listed : Array Bool) (a : Act) (w : World), Inv C listed w → Closed ops listed → any P ops C eff Q fuel listed a w → wpAny P .any ops R fuel listed a w
  | 0, _, _, _, hC, _, h => ⟨h.1, hQ _ _ h.2⟩
  | fuel + 1, listed, a, w, hC, hcl, h => ⟨fun h0 => hQ _ _ (h.1 h0), fun i hi => by
      have h2 := h.2 i hi
      have hun := getD_lt (mem_ready.1 hi).1
      unfold op at h2
      unfold wpOp
      split
      · rename_i ho; simp only [ho] at h2; exact wpAny_of hQ fuel _ _ _ (hC.set i) (hcl.set hi) h2
      · rename_i o ho
        simp only [ho] at h2
        split
        · rename_i hw
          simp only [hw, if_true] at h2
          refine .inl ?_
          split at h2
          · exact wp_mono (fun _ _ ⟨h3, h4⟩ => wpAny_of hQ fuel _ _ _ (After.inv hcl hi h3) (hcl.set hi) h4) (fun _ _ _ h => h.elim) h2
          · obtain ⟨v, h3, h4⟩ := h2
            have h5 := h3 w (hC i hun)
            unfold Yields at h5
            unfold Oper.wp
            generalize (execOp a.eval o).run P w = r at h5 ⊢
            cases r with
            | ok n w' =>
              cases n <;> simp only [Oper.upon] at h5 ⊢
              case value u => obtain ⟨rfl, rfl⟩ := h5; exact wpAny_of hQ fuel _ _ _ (hC.set i) (hcl.set hi) h4
              case skip => obtain ⟨rfl, rfl⟩ := h5; exact wpAny_of hQ fuel _ _ _ (hC.set i) (hcl.set hi) h4
            | halt x w' => exact h5.elim
        · rename_i hw; simp only [hw] at h2; exact wpAny_of hQ fuel _ _ _ (hC.set i) (hcl.set hi) h2⟩

/-- A reading operation that may come first, comes first. -/
theorem first_read {i : Nat} {oi : Oper} {v : Value} (hi : ops[i]? = some oi) (hsel : ∀ (j : Nat) (o : Oper) cs b, ops[j]? = some o → o.op ≠ .select cs b) :
    ∀ (fuel : Nat) (listed : Array Bool) (a : Act) (w : World), Inv C listed w → Closed ops listed →
      (∀ j oj, ops[j]? = some oj → j ≠ i → listed.getD j true = false → (∀ e ∈ oj.after, Region.binds .any e = true → e.on ≠ i) → oi.apart ops oj = true) →
      i ∈ Region.ready .any ops listed → In P ops C i (eff i) oi v a →
      any P ops C eff Q fuel (listed.setIfInBounds i true) (a.put oi.dst v) w → any P ops C eff Q (fuel + 1) listed a w := by
  intro fuel
  induction fuel with
  | zero =>
    intro listed a w hC _ _ hr hy H
    refine ⟨fun h => (by rw [h] at hr; cases hr), fun j hj => ?_⟩
    by_cases hji : j = i
    · subst hji; exact hy.op hi H
    · have := ready_mono hj hji
      rw [H.1] at this
      cases this
  | succ fuel ih =>
    intro listed a w hC hcl hfree hr hy H
    refine ⟨fun h => (by rw [h] at hr; cases hr), fun j hj => ?_⟩
    by_cases hji : j = i
    · subst hji; exact hy.op hi H
    · have h1 := H.2 j (ready_mono hj hji)
      obtain ⟨hjun, oj, hoj, hall⟩ := mem_ready.1 hj
      have hnot : ∀ e ∈ oj.after, Region.binds .any e = true → e.on ≠ i := fun e he hb heq => by
        have h1 := hall e he hb
        have h0 := (mem_ready.1 hr).1
        rw [heq] at h1
        rcases Nat.lt_or_ge i listed.size with h' | h'
        · simp [h'] at h0 h1; rw [h0] at h1; cases h1
        · simp [Array.getElem?_eq_none h'] at h1
      have h2 := op_put hoj (hfree j oj hoj hji hjun hnot) (fun cs b => hsel i oi cs b hi) (fun cs b => hsel j oj cs b hoj) hy h1
      have hfree' : ∀ k ok, ops[k]? = some ok → k ≠ i → (listed.setIfInBounds j true).getD k true = false →
          (∀ e ∈ ok.after, Region.binds .any e = true → e.on ≠ i) → oi.apart ops ok = true := fun k ok hk hki hun hno => by
        refine hfree k ok hk hki ?_ hno
        by_cases hjk : j = k
        · subst hjk; exact hjun
        · rw [getD_set_ne true hjk] at hun; exact hun
      refine op_mono (fun a' w' h3 => ih (listed.setIfInBounds j true) a' w' (h3.2.1.elim (fun h4 => h4 ▸ hC.set j) (fun h4 => After.inv hcl hj h4)) (hcl.set hj) hfree' (ready_mono hr (Ne.symm hji)) h3.1 ?_) h2
      rw [Array.setIfInBounds_comm _ _ hji]
      exact h3.2.2

/-! ### Effects wait for one another -/

/-- The effects wait for one another, in the text's order. -/
def effB (ops : Array Oper) (eff : Nat → Bool) : Bool := (List.range ops.size).all fun j => (List.range j).all fun i => !(eff i && eff j) || anc ops ops.size j i

theorem effB_spec (h : effB ops eff = true) {i j : Nat} (hj : j < ops.size) (hij : i < j) (h1 : eff i = true) (h2 : eff j = true) : anc ops ops.size j i = true := by
  simp only [effB, List.all_eq_true, List.mem_range] at h
  have := h j hj i hij
  simpa [h1, h2] using this

/-- An effect that may come first, comes first. -/
theorem first_eff {i : Nat} {oi : Oper} (hi : ops[i]? = some oi) (he : eff i = true) (hB : effB ops eff = true) (hsel : ∀ (j : Nat) (o : Oper) cs b, ops[j]? = some o → o.op ≠ .select cs b) :
    ∀ (fuel : Nat) (listed : Array Bool) (a : Act) (w : World), Inv C listed w → Closed ops listed →
      (∀ j oj, ops[j]? = some oj → j ≠ i → listed.getD j true = false → (∀ e ∈ oj.after, Region.binds .any e = true → e.on ≠ i) → oi.apart ops oj = true) →
      i ∈ Region.ready .any ops listed → Region.wanted oi (yielded ops a.tmps) = true →
      oi.wp P a w (fun a' w' => After ops C i w' ∧ any P ops C eff Q fuel (listed.setIfInBounds i true) a' w') NoQ → any P ops C eff Q (fuel + 1) listed a w := by
  intro fuel
  induction fuel with
  | zero =>
    intro listed a w hC _ _ hr hwt H
    refine ⟨fun h => (by rw [h] at hr; cases hr), fun j hj => ?_⟩
    by_cases hji : j = i
    · subst hji
      unfold op
      simp only [hi, hwt, if_true, he]
      exact H
    · obtain ⟨_, _, _, h2⟩ := upon_one H
      have := ready_mono hj hji
      rw [h2.1] at this
      cases this
  | succ fuel ih =>
    intro listed a w hC hcl hfree hr hwt H
    refine ⟨fun h => (by rw [h] at hr; cases hr), fun j hj => ?_⟩
    by_cases hji : j = i
    · subst hji
      unfold op
      simp only [hi, hwt, if_true, he]
      exact H
    · obtain ⟨hjun, oj, hoj, hall⟩ := mem_ready.1 hj
      obtain ⟨hiun, oi', hoi', halli⟩ := mem_ready.1 hr
      rw [hi] at hoi'
      cases hoi'
      have hjs : j < ops.size := (Array.getElem?_eq_some_iff.1 hoj).1
      have his : i < ops.size := (Array.getElem?_eq_some_iff.1 hi).1
      have hej : eff j = false := by
        cases h0 : eff j with
        | false => rfl
        | true =>
          rcases Nat.lt_or_ge i j with h1 | h1
          · have h2 := anc_listed hcl _ j oj hoj hall (effB_spec hB hjs h1 he h0)
            rw [getD_lt hiun] at h2
            cases h2
          · have h2 := anc_listed hcl _ i oi hi halli (effB_spec hB his (by omega) h0 he)
            rw [getD_lt hjun] at h2
            cases h2
      have hnot : ∀ e ∈ oj.after, Region.binds .any e = true → e.on ≠ i := fun e he hb heq => by
        have h1 := hall e he hb
        rw [heq, getD_lt hiun] at h1
        cases h1
      have hap := hfree j oj hoj hji hjun hnot
      obtain ⟨l1, l2, l3⟩ := Oper.apart_spec hap
      have hsi := fun cs b => hsel i oi cs b hi
      have hsj := fun cs b => hsel j oj cs b hoj
      have hjr := ready_mono hj hji
      -- back from a state behind i
      have back : ∀ (a' : Act) (u : Value), a'.tmps = (a.put oi.dst u).tmps → ∀ v, In P ops C j (eff j) oj v a' → In P ops C j (eff j) oj v a := fun a' u ht v hy =>
        hy.of_same (by rw [eval_of_tmps ht]; exact (execOp_put (ops := ops) oj hsj a oi.dst u l1).symm) (by rw [ht]; exact (wanted_put oj a oi.dst u l1).symm)
      have H' := upon_tmps H
      obtain ⟨a1, w1, ⟨u1, ht1⟩, hC1, hm1⟩ := upon_one H'
      obtain ⟨v, hv, _⟩ := in_of_op hoj hej (hm1.2 j hjr)
      have hva := back a1 u1 ht1 v hv
      refine hva.op hoj ?_
      have hfree' : ∀ k ok, ops[k]? = some ok → k ≠ i → (listed.setIfInBounds j true).getD k true = false →
          (∀ e ∈ ok.after, Region.binds .any e = true → e.on ≠ i) → oi.apart ops ok = true := fun k ok hk hki hun hno => by
        refine hfree k ok hk hki ?_ hno
        by_cases hjk : j = k
        · subst hjk; exact hjun
        · rw [getD_set_ne true hjk] at hun; exact hun
      refine ih (listed.setIfInBounds j true) (a.put oj.dst v) w (hC.set j) (hcl.set hj) hfree' (ready_mono hr (Ne.symm hji)) (by rw [wanted_put oi a oj.dst v l3]; exact hwt) ?_
      refine (wp_put (ops := ops) hsi l3 (fun d hd hd' => l2 d hd' hd)).2 ?_
      refine wp_mono ?_ (fun _ _ _ h => h) H'
      rintro a' w' ⟨⟨u, ht⟩, hC', hm⟩
      obtain ⟨v', hv', hm'⟩ := in_of_op hoj hej (hm.2 j hjr)
      obtain rfl := In.unique (hC j (getD_lt hjun)) hva (back a' u ht v' hv')
      rw [Array.setIfInBounds_comm _ _ hji]
      exact ⟨hC', hm'⟩

/-! ### The walk in the text's order -/

def walk (P : Program) (ops : Array Oper) (C : Nat → World → Prop) (eff : Nat → Bool) (Q : Act → World → Prop) : List Oper → Nat → Act → World → Prop
  | [], _, a, w => Q a w
  | o :: rest, k, a, w =>
    if Region.wanted o (yielded ops a.tmps) = true then
      if eff k = true then o.wp P a w (fun a' w' => After ops C k w' ∧ walk P ops C eff Q rest (k + 1) a' w') NoQ
      else ∃ v, (∀ w', C k w' → Yields P o a w' v) ∧ walk P ops C eff Q rest (k + 1) (a.put o.dst v) w
    else walk P ops C eff Q rest (k + 1) (a.put o.dst undef) w

theorem any_of_walk (hs : Region.noSelect ops = true) (hE : effB ops eff = true) : ∀ (l : List Oper) (k : Nat) (listed : Array Bool) (a : Act) (w : World), (∀ j, l[j]? = ops[k + j]?) →
    Region.lexFrom .any ops l.length k listed = true → Closed ops listed → Inv C listed w → walk P ops C eff Q l k a w → any P ops C eff Q l.length listed a w
  | [], _, _, _, _, _, hB, _, _, h => ⟨by simpa [Region.lexFrom] using hB, h⟩
  | o :: l, k, listed, a, w, hl, hB, hcl, hC, h => by
    have h0 : ops[k]? = some o := by simpa using (hl 0).symm
    simp only [List.length_cons, Region.lexFrom, Bool.and_eq_true] at hB
    obtain ⟨⟨hr, hf⟩, hB'⟩ := hB
    have hr' : k ∈ Region.ready .any ops listed := by simpa using hr
    have next : ∀ a w, Inv C (listed.setIfInBounds k true) w → walk P ops C eff Q l (k + 1) a w → any P ops C eff Q l.length (listed.setIfInBounds k true) a w := fun a w hC h =>
      any_of_walk hs hE l (k + 1) _ a w (fun j => by have := hl (j + 1); simpa [Nat.add_assoc, Nat.add_comm 1 j] using this) hB' (hcl.set hr') hC h
    unfold walk at h
    by_cases hw : Region.wanted o (yielded ops a.tmps) = true
    · simp only [hw, if_true] at h
      by_cases he : eff k = true
      · simp only [he, if_true] at h
        exact first_eff h0 he hE (Region.noSelect_spec hs) l.length listed a w hC hcl (Region.free_spec h0 hf) hr' hw (wp_mono (fun a' w' ⟨h1, h2⟩ => ⟨h1, next a' w' (After.inv hcl hr' h1) h2⟩) (fun _ _ _ h => h) h)
      · simp only [he] at h
        obtain ⟨v, h1, h2⟩ := h
        exact first_read h0 (Region.noSelect_spec hs) l.length listed a w hC hcl (Region.free_spec h0 hf) hr' (.inl ⟨hw, by simpa using he, h1⟩) (next _ w (hC.set k) h2)
    · simp only [hw] at h
      exact first_read h0 (Region.noSelect_spec hs) l.length listed a w hC hcl (Region.free_spec h0 hf) hr' (.inr ⟨by simpa using hw, rfl⟩) (next _ w (hC.set k) h)

theorem rep_false (n m : Nat) : (Array.replicate n false).getD m false = false := by
  rcases Nat.lt_or_ge m n with h | h <;> simp [h]

/-- A world of which S holds. -/
structure Keeps (S : World → Prop) where
  w : World
  h : S w

/-- 'R': which reading operations need S. -/
theorem wp_region {id : Nat} {X : Exit → Act → World → Prop} {a : Act} {w : World} {l : List Oper} (S : World → Prop) (R eff : Nat → Bool) (hm : P.follows .mixedOrders = true) (hB : Region.lexB .any l.toArray = true) (hE : effB l.toArray eff = true) (hS : S w.drew)
    (h : walk P l.toArray (fun j w' => R j = true → S w') eff (fun a' w' => X .normal a' w') l 0 a w.drew) : (Code.region id l.toArray true).wp P X a w := by
  simp only [Region.lexB, Bool.and_eq_true] at hB
  have hcl : Closed l.toArray (Array.replicate l.toArray.size false) := fun m om _ hl => by rw [rep_false] at hl; cases hl
  refine wp_region_any hm (wpAny_of (eff := eff) (C := fun j w' => R j = true → S w') (Q := fun a' w' => X .normal a' w') (fun _ _ h => h) _ _ _ _ (fun _ _ _ => hS) hcl ?_)
  have := any_of_walk (C := fun j w' => R j = true → S w') hB.1 hE l 0 (Array.replicate l.toArray.size false) a w.drew (by simp) (by simpa using hB.2) hcl (fun _ _ _ => hS) h
  simpa using this

/-- The walk's end. -/
theorem walk_nil {k : Nat} {a : Act} {w : World} (h : Q a w) : walk P ops C eff Q [] k a w := h
section
variable {S : World → Prop} {R : Nat → Bool} {o : Oper} {rest : List Oper} {k : Nat} {a : Act} {w : World}
/-- A reading operation that needs S. -/
theorem walk_read (he : eff k = false) (hR : R k = true)
    (h : ∀ K : Act → Prop, (∀ a, walk P ops (fun j w' => R j = true → S w') eff Q rest (k + 1) a w → K a) →
      if Region.wanted o (yielded ops a.tmps) then
        ∃ v, (∀ w', (∃ p : Keeps S, w' = p.w) → match (execOp a.eval o).run P w' with
          | .ok (.value u) w2 => w2 = w' ∧ u = v
          | .ok .skip w2 => w2 = w' ∧ v = undef
          | _ => False) ∧ K (a.put o.dst v)
      else K (a.put o.dst undef)) : walk P ops (fun j w' => R j = true → S w') eff Q (o :: rest) k a w := by
  have h1 := h _ (fun _ h => h)
  unfold walk
  by_cases hw : Region.wanted o (yielded ops a.tmps) = true
  · simp only [hw, if_true] at h1 ⊢
    simp only [he, Bool.false_eq_true, if_false]
    obtain ⟨v, h2, h3⟩ := h1
    exact ⟨v, fun w' hw' => h2 w' ⟨⟨w', hw' hR⟩, rfl⟩, h3⟩
  · simp only [hw] at h1 ⊢; exact h1
/-- .. that needs nothing of the world. -/
theorem walk_pure (he : eff k = false)
    (h : ∀ K : Act → Prop, (∀ a, walk P ops C eff Q rest (k + 1) a w → K a) →
      if Region.wanted o (yielded ops a.tmps) then
        ∃ v, (∀ w', match (execOp a.eval o).run P w' with
          | .ok (.value u) w2 => w2 = w' ∧ u = v
          | .ok .skip w2 => w2 = w' ∧ v = undef
          | _ => False) ∧ K (a.put o.dst v)
      else K (a.put o.dst undef)) : walk P ops C eff Q (o :: rest) k a w := by
  have h1 := h _ (fun _ h => h)
  unfold walk
  by_cases hw : Region.wanted o (yielded ops a.tmps) = true
  · simp only [hw, if_true] at h1 ⊢
    simp only [he, Bool.false_eq_true, if_false]
    obtain ⟨v, h2, h3⟩ := h1
    exact ⟨v, fun w' _ => h2 w', h3⟩
  · simp only [hw] at h1 ⊢; exact h1
/-- An effect; S still holds behind it. -/
theorem walk_eff (he : eff k = true)
    (h : ∀ K : Act → World → Prop, (∀ a w, S w → walk P ops (fun j w' => R j = true → S w') eff Q rest (k + 1) a w → K a w) →
      if Region.wanted o (yielded ops a.tmps) then o.wp P a w K NoQ else walk P ops (fun j w' => R j = true → S w') eff Q rest (k + 1) (a.put o.dst undef) w) : walk P ops (fun j w' => R j = true → S w') eff Q (o :: rest) k a w := by
  have h1 := h (fun a' w' => After ops (fun j w' => R j = true → S w') k w' ∧ walk P ops (fun j w' => R j = true → S w') eff Q rest (k + 1) a' w') (fun _ _ h2 h3 => ⟨fun _ _ _ _ => h2, h3⟩)
  unfold walk
  by_cases hw : Region.wanted o (yielded ops a.tmps) = true
  · simp only [hw, if_true] at h1 ⊢
    simp only [he, if_true]
    exact h1
  · simp only [hw] at h1 ⊢; exact h1
/-- Is there an operation that needs S and does not stand ahead of k? -/
def pend (ops : Array Oper) (R : Nat → Bool) (n k : Nat) : Bool := (List.range n).any fun j => R j && (j != k && !anc ops ops.size k j)
/-- An effect behind which nothing needs S any more. -/
theorem walk_last (n : Nat) (he : eff k = true) (hn : ∀ j, n ≤ j → R j = false) (hp : pend ops R n k = false)
    (h : ∀ K : Act → World → Prop, (∀ a w, walk P ops (fun j w' => R j = true → S w') eff Q rest (k + 1) a w → K a w) →
      if Region.wanted o (yielded ops a.tmps) then o.wp P a w K NoQ else walk P ops (fun j w' => R j = true → S w') eff Q rest (k + 1) (a.put o.dst undef) w) : walk P ops (fun j w' => R j = true → S w') eff Q (o :: rest) k a w := by
  have hA : ∀ w', After ops (fun j w' => R j = true → S w') k w' := fun w' j hjk hj hR => by
    have hjn : j < n := by
      rcases Nat.lt_or_ge j n with h1 | h1
      · exact h1
      · rw [hn j h1] at hR; cases hR
    have : pend ops R n k = true := List.any_eq_true.2 ⟨j, List.mem_range.2 hjn, by simp [hR, hjk, hj]⟩
    rw [hp] at this; cases this
  have h1 := h (fun a' w' => After ops (fun j w' => R j = true → S w') k w' ∧ walk P ops (fun j w' => R j = true → S w') eff Q rest (k + 1) a' w') (fun _ _ h3 => ⟨hA _, h3⟩)
  unfold walk
  by_cases hw : Region.wanted o (yielded ops a.tmps) = true
  · simp only [hw, if_true] at h1 ⊢
    simp only [he, if_true]
    exact h1
  · simp only [hw] at h1 ⊢; exact h1
end
end
attribute [irreducible] walk
end Mix2
end Go
