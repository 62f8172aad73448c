/- A region that draws its order, walked in one order: what only reads is taken first, what is passed over too; what writes or calls comes up alone. No program, no Go function is named here. -/
import Derived.Deep.RegionHeld
namespace Go.Proofs.YtjhebnjajnjhhaaDoor
open Go

section
variable {P : Program} {ops : Array Oper} {Q : Exit → Act → World → Prop} {md : Region.Mode} {S : World → Prop}

/-- The operations one by one, in this order: behind a 'true' one that yields its value in every world that meets S (or is passed over), behind a 'false' one that is carried out. -/
def wpOrd (P : Program) (ops : Array Oper) (Q : Exit → Act → World → Prop) (S : World → Prop) : List (Nat × Bool) → Act → World → Prop
  | [], a, w => Q .normal a w
  | (i, true) :: r, a, w => ∃ o v, ops[i]? = some o ∧ YieldsIf P ops S o v a ∧ wpOrd P ops Q S r (a.put o.dst v) w
  | (i, false) :: r, a, w => wpOp P ops Q i (fun a' w' => S w' ∧ wpOrd P ops Q S r a' w') a w

/-- May they come up in this order, and in no other one that matters? -/
def orderB (md : Region.Mode) (ops : Array Oper) : List (Nat × Bool) → Array Bool → Bool
  | [], listed => (Region.ready md ops listed).isEmpty
  | (i, true) :: r, listed => Region.free md ops listed i && (Region.ready md ops listed).contains i && orderB md ops r (listed.setIfInBounds i true)
  | (i, false) :: r, listed => (Region.ready md ops listed == [i]) && orderB md ops r (listed.setIfInBounds i true)

theorem wpAnyH_of_ord (hs : Region.noSelect ops = true) (hQ : ∀ c (a : Act) (d : Tmp) v w, Q (.panic c) (a.put (some d) v) w → Q (.panic c) a w) :
    ∀ (order : List (Nat × Bool)) (listed : Array Bool) (a : Act) (w : World), orderB md ops order listed = true → S w → wpOrd P ops Q S order a w → wpAnyH P md ops Q S order.length listed a w := by
  intro order
  induction order with
  | nil =>
    intro listed a w ho _ h
    unfold orderB at ho
    exact wpAnyH_done (List.isEmpty_iff.1 ho) h 0
  | cons x r ih =>
    intro listed a w ho hS h
    obtain ⟨i, b⟩ := x
    cases b with
    | true =>
      unfold orderB at ho
      simp only [Bool.and_eq_true] at ho
      obtain ⟨⟨h1, h2⟩, h3⟩ := ho
      obtain ⟨o, v, ho', hy, h4⟩ := h
      exact wpAnyH_take ho' hs h1 h2 (fun c a w => by cases hd : o.dst with | none => exact fun h => h | some d => exact hQ c a d v w) hy hS (ih _ _ _ h3 hS h4)
    | false =>
      unfold orderB at ho
      simp only [Bool.and_eq_true, beq_iff_eq] at ho
      obtain ⟨h1, h3⟩ := ho
      refine wpAnyH_all h1 (by simp) fun j hj => ?_
      obtain rfl := List.mem_singleton.1 hj
      exact wpOp_mono (fun a' w' h' => ⟨h'.1, ih _ _ _ h3 h'.1 h'.2⟩) h

/-- The same with the operations written out. -/
def wpOrdL (P : Program) (ops : Array Oper) (Q : Exit → Act → World → Prop) (S : World → Prop) : List (Nat × Bool × Option Oper) → Act → World → Prop
  | [], a, w => Q .normal a w
  | (_, true, some o) :: r, a, w => ∃ v, YieldsIf P ops S o v a ∧ wpOrdL P ops Q S r (a.put o.dst v) w
  | (_, false, some o) :: r, a, w => (Region.wanted o (yielded ops a.tmps) = true → Oper.wp P o a w (fun a' w' => S w' ∧ wpOrdL P ops Q S r a' w') Q) ∧ (Region.wanted o (yielded ops a.tmps) = false → S w ∧ wpOrdL P ops Q S r (a.put o.dst undef) w)
  | (_, _, none) :: _, _, _ => False

theorem wpOrd_of_L : ∀ (order : List (Nat × Bool)) (a : Act) (w : World), wpOrdL P ops Q S (order.map fun x => (x.1, x.2, ops[x.1]?)) a w → wpOrd P ops Q S order a w := by
  intro order
  induction order with
  | nil => intro a w h; exact h
  | cons x r ih =>
    intro a w h
    obtain ⟨i, b⟩ := x
    rw [List.map_cons] at h
    simp only at h
    cases ho : ops[i]? with
    | none => rw [ho] at h; cases b <;> exact absurd h (by unfold wpOrdL; exact fun h => h)
    | some o =>
      rw [ho] at h
      cases b with
      | true => obtain ⟨v, h1, h2⟩ := h; exact ⟨o, v, ho, h1, ih _ _ h2⟩
      | false =>
        obtain ⟨h1, h2⟩ := h
        show wpOp P ops Q i _ a w
        unfold wpOp
        simp only [ho]
        split
        · rename_i hw; exact .inl (Oper.wp_mono (fun a' w' h' => ⟨h'.1, ih _ _ h'.2⟩) (h1 hw))
        · rename_i hw
          have h3 := h2 (by simpa using hw)
          exact ⟨h3.1, ih _ _ h3.2⟩

theorem wp_region_ord {id : Nat} {a : Act} {w : World} (order : List (Nat × Bool)) (hm : P.follows .mixedOrders = true) (hs : Region.noSelect ops = true) (hl : order.length = ops.size)
    (ho : orderB .any ops order (Array.replicate ops.size false) = true) (hQ : ∀ c (a : Act) (d : Tmp) v w, Q (.panic c) (a.put (some d) v) w → Q (.panic c) a w) (hS : S w.drew)
    (h : wpOrdL P ops Q S (order.map fun x => (x.1, x.2, ops[x.1]?)) a w.drew) : (Code.region id ops true).wp P Q a w := by
  refine wp_region_held (S := S) hm ?_
  rw [← hl]
  exact wpAnyH_of_ord hs hQ order _ a _ (by rw [hl]; exact ho) hS (wpOrd_of_L _ _ _ h)

theorem ord_nil {a : Act} {w : World} (h : Q .normal a w) : wpOrdL P ops Q S [] a w := h
theorem ord_take {i : Nat} {o : Oper} {v : Value} {r : List (Nat × Bool × Option Oper)} {a : Act} {w : World} (hw : Region.wanted o (yielded ops a.tmps) = true) (hv : ∀ w, S w → (execOp a.eval o).run P w = .ok (.value v) w)
    (h : wpOrdL P ops Q S r (a.put o.dst v) w) : wpOrdL P ops Q S ((i, true, some o) :: r) a w := ⟨v, .inl ⟨hw, hv⟩, h⟩
theorem ord_skip {i : Nat} {o : Oper} {r : List (Nat × Bool × Option Oper)} {a : Act} {w : World} (hw : Region.wanted o (yielded ops a.tmps) = false)
    (h : wpOrdL P ops Q S r (a.put o.dst undef) w) : wpOrdL P ops Q S ((i, true, some o) :: r) a w := ⟨undef, .inr ⟨hw, rfl⟩, h⟩
theorem ord_do {i : Nat} {o : Oper} {r : List (Nat × Bool × Option Oper)} {a : Act} {w : World} (hw : Region.wanted o (yielded ops a.tmps) = true)
    (h : ∀ K : Act → World → Prop, Shut (∀ a w, S w → wpOrdL P ops Q S r a w → K a w) → Oper.wp P o a w K Q) : wpOrdL P ops Q S ((i, false, some o) :: r) a w :=
  ⟨fun _ => by
    have h' := h (fun a' w' => S w' ∧ wpOrdL P ops Q S r a' w') (fun a w hS hr => ⟨hS, hr⟩)
    exact h', fun hn => by rw [hw] at hn; cases hn⟩
/-- One that is passed over. -/
theorem ord_pass {i : Nat} {o : Oper} {r : List (Nat × Bool × Option Oper)} {a : Act} {w : World} (hw : Region.wanted o (yielded ops a.tmps) = false) (hS : S w)
    (h : wpOrdL P ops Q S r (a.put o.dst undef) w) : wpOrdL P ops Q S ((i, false, some o) :: r) a w :=
  ⟨fun hn => (by rw [hw] at hn; cases hn), fun _ => ⟨hS, h⟩⟩
end
end Go.Proofs.YtjhebnjajnjhhaaDoor
