/- epoch.New: a lineage of pairs, or why there is none. -/
import Derived.Test.YtdlcpcpcojpecaaDoorEpo
import Derived.Test.YtdlcpcpcojpecaaDoorSent
namespace Go.Proofs.YtdlcpcpcojpecaaDoor
open Go Go.RowKit Epo

/-- A lineage lies in block g, its pairs where v leads, all in blocks of F. -/
structure LineV (w : World) (F : Nat → Prop) (g : Nat) (l : List Pr) (v : Value) : Prop where
  mine : F g
  old : ∀ k, F k → k < w.heap.size
  row : w.heap[g]? = some (.cells #[v] 52 (0, 0))
  pairs : w.ownsRow 0 46 2 v l.length (l.flatMap prV)
  inP : ∀ k, v.ownBlock = some k → F k

def LineAt (w : World) (F : Nat → Prop) (g : Nat) (l : List Pr) : Prop := ∃ v, LineV w F g l v

theorem LineV.below {w w1 : World} {F : Nat → Prop} {g : Nat} {l : List Pr} {v : Value} (h : LineV w F g l v) (b : Below w.heap.size w w1) : LineV w1 F g l v :=
  ⟨h.mine, fun k hk => Nat.lt_of_lt_of_le (h.old k hk) b.size, heap_below b h.row, owns_below h.pairs b, h.inP⟩
theorem LineAt.below {w w1 : World} {F : Nat → Prop} {g : Nat} {l : List Pr} (h : LineAt w F g l) (b : Below w.heap.size w w1) : LineAt w1 F g l := by
  obtain ⟨v, h⟩ := h; exact ⟨v, h.below b⟩

def NewPost (A : Nat → Addr) (l : List Pr) (w : World) (e : Ending) (w' : World) : Prop :=
  (valid l = 0 ∧ (∃ F g, e = .returned (.tuple #[.pointer (some ⟨g, 0, none⟩), .nilIface]) ∧ LineAt w' F g l ∧ ∀ k, F k → w.heap.size ≤ k) ∨
   valid l ≠ 0 ∧ e = .returned (.tuple #[.pointer none, senV A (valid l - 101)])) ∧ Below w.heap.size w w'

set_option maxRecDepth 100000 in
set_option maxHeartbeats 2000000 in
theorem new_calls (S : List Nat) (A : Nat → Addr) {w : World} {v : Value} {l : List Pr} (hS : Sents S w A) (h2 : 2 ∈ S) (h3 : 3 ∈ S) (h4 : 4 ∈ S) (h : Rd w 2 v l.length (l.flatMap prV)) :
    Calls Tryd.prog 5 #[v] w (NewPost A l w) := by
  obtain ⟨am, cm, rfl⟩ := h.slice
  have m1 := h.len_le
  have g2 : ∀ w', Below w.heap.size w w' → w'.cell? ⟨2, 0, none⟩ = some (.iface 85 (.pointer (some (A 2)))) := fun w' b => (hS.below b).cell 2 h2
  have g3 : ∀ w', Below w.heap.size w w' → w'.cell? ⟨0, 0, none⟩ = some (.iface 85 (.pointer (some (A 3)))) := fun w' b => (hS.below b).cell 3 h3
  have g4 : ∀ w', Below w.heap.size w w' → w'.cell? ⟨1, 0, none⟩ = some (.iface 85 (.pointer (some (A 4)))) := fun w' b => (hS.below b).cell 4 h4
  have hc := containsFunc_calls h
  by_cases t1 : 256 < l.length
  · have HV := Lib.hid (show valid l = 104 by unfold valid; rw [if_pos t1])
    have k3 := g3 w (Below.refl _ _)
    go_enter Tryd.func5, Tryd.ntmps5
    go_wp2_with fail
    go_quiet (fail)
    go_wp2_with fail
    go_ret2
    unfold NewPost
    rw [HV.out]
    exact ⟨.inr ⟨by decide, rfl⟩, below_drewN (Below.refl _ _) nq⟩
  · cases hal : l.all Epo.right
    · have HV := Lib.hid (show valid l = 105 by unfold valid; rw [if_neg t1, if_pos hal])
      rw [hal] at hc
      clear hal
      go_enter Tryd.func5, Tryd.ntmps5
      go_wp2_with fail
      refine hc.mono ?_
      rintro e w1 ⟨rfl, b1⟩
      have k4 := g4 w1 b1
      go_wp2_with fail
      go_quiet (fail)
      go_wp2_with fail
      go_ret2
      unfold NewPost
      rw [HV.out]
      exact ⟨.inr ⟨by decide, rfl⟩, below_drewN b1 nq⟩
    · rw [hal] at hc
      have HAL := Lib.hid hal
      clear hal
      go_enter Tryd.func5, Tryd.ntmps5
      go_wp2_with fail
      refine hc.mono ?_
      rintro e w1 ⟨rfl, b1⟩
      clear hc
      go_wp2_with fail
      go_loopw [4] (fun iv wr => ∃ i : Nat, 1 ≤ i ∧ iv = .int .i64 i ∧ i ≤ max 1 l.length ∧ (∀ j (hj : j + 1 < l.length), j + 1 < i → l[j].ep < l[j + 1].ep ∧ l[j].st < l[j + 1].st) ∧ Below w.heap.size w wr) (fun iv _ => 257 - (intOf iv).toNat)
      case atStart => exact ⟨1, Nat.le_refl _, rfl, by omega, fun j _ hj => by omega, b1⟩
      case round =>
        obtain ⟨i, hi1, rfl, hi2, hs, hb⟩ := hrel
        have HS := Lib.hid hs
        clear hs
        by_cases hlt : i < l.length
        · obtain ⟨k, rfl⟩ : ∃ k, i = k + 1 := ⟨i - 1, by omega⟩
          obtain ⟨b, o, rfl, hc1, hm1, hx1⟩ := (h.below hb).at (by omega) (by omega)
          obtain ⟨p0, p1⟩ := pr_cells hx1 k (by omega)
          obtain ⟨q0, q1⟩ := pr_cells hx1 (k + 1) hlt
          have hs1 : IntKind.i64.wrap ((k : Int) + 1 - 1) = (k : Int) := by rw [IntKind.wrap_i64]; omega
          obtain ⟨x, hx⟩ : ∃ x, x = l[k] := ⟨_, rfl⟩
          obtain ⟨y, hy⟩ : ∃ y, y = l[k + 1] := ⟨_, rfl⟩
          rw [← hx] at p0 p1
          rw [← hy] at q0 q1
          have HX := Lib.hid hx
          have HY := Lib.hid hy
          have kk2 := g2 wr hb
          clear hx1 hx hy
          by_cases e1 : x.ep < y.ep
          · have hd1 : decide (y.ep ≤ x.ep) = false := decide_eq_false (by omega)
            by_cases e2 : x.st < y.st
            · have hd2 : decide (y.st ≤ x.st) = false := decide_eq_false (by omega)
              go_wp2_with fail
              go_quiet (fail)
              go_wp2_with fail
              refine ⟨⟨k + 1 + 1, by omega, by go_num, by omega, ?_, below_drewN hb nq⟩, by simp [intOf]; omega⟩
              intro j hj hjl
              by_cases e : j = k
              · subst e; rw [← HX.out, ← HY.out]; exact ⟨e1, e2⟩
              · exact HS.out j hj (by omega)
            · have HV := Lib.hid (show valid l = 103 by
                have hu : up l = false := by
                  cases hu : up l
                  · rfl
                  · exfalso; apply e2; rw [HX.out, HY.out]; exact (up_next l hu k hlt).2
                unfold valid
                rw [if_neg t1, if_neg (by rw [HAL.out]; decide), if_pos hu])
              go_wp2_with fail
              go_quiet (fail)
              go_wp2_with fail
              go_quiet (fail)
              go_wp2_with fail
              go_ret2
              unfold NewPost
              rw [HV.out]
              exact ⟨.inr ⟨by decide, rfl⟩, below_drewN (below_drewN hb _) _⟩
          · have HV := Lib.hid (show valid l = 103 by
              have hu : up l = false := by
                cases hu : up l
                · rfl
                · exfalso; apply e1; rw [HX.out, HY.out]; exact (up_next l hu k hlt).1
              unfold valid
              rw [if_neg t1, if_neg (by rw [HAL.out]; decide), if_pos hu])
            go_wp2_with fail
            go_quiet (fail)
            go_wp2_with fail
            go_quiet (fail)
            go_wp2_with fail
            go_ret2
            unfold NewPost
            rw [HV.out]
            exact ⟨.inr ⟨by decide, rfl⟩, below_drewN (below_drewN hb _) _⟩
        · have HV := Lib.hid (show valid l = 0 from (valid_iff l).2 ⟨by omega, HAL.out, up_of_next l fun j hj => HS.out j hj (by omega)⟩)
          have hcl := clone_pairs _ _ _ wr (h.below hb) (prV_one l) (by omega)
          go_wp2_with fail
          refine hcl.mono ?_
          rintro e w2 ⟨v2, rfl, o2, b2⟩
          have B2 := nxt hb b2
          have h5 := owns_below o2 (below_alloc w2 (.cells #[v2] 52))
          have hr := heap_alloc_new w2 (.cells #[v2] 52)
          have hge := owns_ge o2
          have hlt2 := owns_lt o2
          obtain ⟨a2, c2, rfl⟩ := owns_slice o2
          go_wp2_with fail
          go_ret2
          unfold NewPost
          rw [HV.out]
          refine ⟨.inl ⟨rfl, fun k => k = w2.heap.size ∨ (Value.slice a2 l.length c2).ownBlock = some k, w2.heap.size, rfl, ⟨_, .inl rfl, ?_, hr, owns_zero h5, fun k hk => .inr hk⟩, ?_⟩, nxt B2 (below_alloc _ _)⟩
          · rintro k (rfl | hk)
            · simp
            · have := hlt2 k hk; simp; omega
          · rintro k (rfl | hk)
            · exact B2.size
            · exact Nat.le_trans hb.size (hge k hk)
end Go.Proofs.YtdlcpcpcojpecaaDoor
