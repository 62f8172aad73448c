/- EpochEnds returns true at every input. -/
import Derived.Test.YtjhebnjajnjhhaaDoorEpoEnd
namespace Go.Proofs.YtjhebnjajnjhhaaDoor
open Go Go.RowKit Epo

set_option maxRecDepth 100000 in
set_option maxHeartbeats 4000000 in
theorem epochEnds_walk (S : List Nat) (A : Nat → Addr) (l : List Pr) (v : Value) (n t : Int) (w : World) (hS : Sents S w A) (h2 : 2 ∈ S) (h3 : 3 ∈ S) (h4 : 4 ∈ S) (hp : Rd w 2 v l.length (l.flatMap prV)) :
    Calls Tryd.prog 5 #[v, .int .i64 n, .int .i64 t] w (fun e w' => e = .returned (.bool true) ∧ Below w.heap.size w w') := by
  obtain ⟨a1, c1, rfl⟩ := hp.slice
  have m1 := hp.len_le
  have hfst := epoFirst_calls S A w hS h2 h3 h4
  go_enter Tryd.func5, Tryd.ntmps5
  go_wp2_with fail
  refine hfst.mono ?_
  rintro e w1 ⟨rfl, b1⟩
  have hn := new_calls S A (hS.below b1) h2 h3 h4 (hp.below b1)
  clear hfst
  go_wp2_with fail
  refine hn.mono ?_
  rintro e w2 ⟨hv, b2⟩
  have B2 := nxt b1 b2
  clear hn b2
  rcases hv with ⟨hv, F, g, rfl, hl, _⟩ | ⟨hv, rfl⟩
  · obtain ⟨hv1, hv2, hup⟩ := (valid_iff l).1 hv
    have HUP := Lib.hid hup
    clear hv hv2 hup
    by_cases t1 : 20 < l.length
    · go_wp2_with fail
      go_ret
      exact ⟨rfl, B2⟩
    · go_wp2_with fail
      go_loopw [10] (fun iv wr => ∃ i : Nat, i ≤ l.length ∧ iv = .int .i64 i ∧ Below w2.heap.size w2 wr) (fun iv _ => l.length - (intOf iv).toNat)
      case atStart => exact ⟨0, Nat.zero_le _, rfl, Below.refl _ _⟩
      case round =>
        obtain ⟨i, hi, rfl, hb⟩ := hrel
        by_cases hlt : i < l.length
        · obtain ⟨b, o, rfl, hc1, hm1, hx1⟩ := ((hp.below B2).below hb).at (by omega) (by omega)
          obtain ⟨q0, q1⟩ := pr_cells hx1 i hlt
          have he := end_calls (hl.below hb) l[i].ep t
          have hself := lastK_self l HUP.out i hlt
          have Q0 : ∀ W, Below wr.heap.size wr W → W.cell? ⟨b, o + i * 2, none⟩ = some (.int .i64 l[i].ep) := fun W hW => by rw [hW.cell (World.block_lt_of_cell? _ _ q0)]; exact q0
          by_cases hi2 : i + 1 < l.length
          · obtain ⟨p0, p1⟩ := pr_cells hx1 (i + 1) hi2
            have P1 : ∀ W, Below wr.heap.size wr W → W.cell? ⟨b, o + (i + 1) * 2 + 1, none⟩ = some (.int .i64 l[i + 1].st) := fun W hW => by rw [hW.cell (World.block_lt_of_cell? _ _ p1)]; exact p1
            have hsay : ∀ x y bb, EndSays l l[i].ep t x y bb → x = l[i].ep ∧ y = l[i + 1].st ∧ bb = true := by
              intro x y bb hs
              unfold EndSays at hs
              rw [hself] at hs
              rcases hs with ⟨h1, _⟩ | ⟨k, hk, h1, h5, h6, h7⟩
              · omega
              · obtain rfl : i = k := by omega
                rw [dif_pos hi2] at h6
                exact ⟨h5, h6, h7⟩
            clear hx1 hself p0 p1
            unfold EndPost at he
            generalize l[i] = z at *
            generalize l[i + 1] = z2 at *
            go_wp2_with fail
            refine he.mono ?_
            rintro e w3 ⟨x, y, bb, rfl, hs, b3⟩
            obtain ⟨rfl, rfl, rfl⟩ := hsay _ _ _ hs
            have q3 := Q0 _ b3
            have p3 := P1 _ b3
            clear Q0 P1 hsay hs he q0 q1
            go_wp2_with fail
            exact ⟨⟨i + 1, by omega, by go_num, nxt hb b3⟩, by simp [intOf]; omega⟩
          · have hsay : ∀ x y bb, EndSays l l[i].ep t x y bb → x = l[i].ep ∧ y = t ∧ bb = true := by
              intro x y bb hs
              unfold EndSays at hs
              rw [hself] at hs
              rcases hs with ⟨h1, _⟩ | ⟨k, hk, h1, h5, h6, h7⟩
              · omega
              · obtain rfl : i = k := by omega
                rw [dif_neg hi2] at h6
                exact ⟨h5, h6, h7⟩
            clear hx1 hself
            unfold EndPost at he
            generalize l[i] = z at *
            go_wp2_with fail
            refine he.mono ?_
            rintro e w3 ⟨x, y, bb, rfl, hs, b3⟩
            obtain ⟨rfl, rfl, rfl⟩ := hsay _ _ _ hs
            have q3 := Q0 _ b3
            clear Q0 hsay hs he q0 q1
            go_wp2_with fail
            exact ⟨⟨i + 1, by omega, by go_num, nxt hb b3⟩, by simp [intOf]; omega⟩
        · obtain rfl : i = l.length := by omega
          have he := end_calls (hl.below hb) n t
          have B3 := nxt B2 hb
          unfold EndPost at he
          go_wp2_with fail
          refine he.mono ?_
          rintro e w3 ⟨x, y, bb, rfl, hs, b3⟩
          have B4 := nxt B3 b3
          have r4 := hp.below B4
          clear he hb b3 B3 hl B2 hp
          unfold EndSays at hs
          rcases hs with ⟨h1, rfl, rfl, rfl⟩ | ⟨k, hk, h1, rfl, _, rfl⟩
          · by_cases hz : l.length = 0
            · have hlz : ((l.length : Int) == 0) = true := by rw [beq_iff_eq]; omega
              clear h1
              rw [hz] at hlz ⊢
              go_wp2_with fail
              go_ret
              exact ⟨rfl, B4⟩
            · have hlz : ((l.length : Int) == 0) = false := by rw [beq_eq_false_iff_ne]; omega
              obtain ⟨b, o, rfl, hc1, hm1, hx1⟩ := r4.at (by omega) (by omega)
              have hl0 : 0 < l.length := by omega
              obtain ⟨q0, q1⟩ := pr_cells hx1 0 hl0
              have hlt : n < (l[0]'hl0).ep := by
                have := fun h => lastK_max (·.ep) n l l.length 0 hl0 hl0 h
                rw [h1] at this
                have h5 : ¬ (l[0]'hl0).ep ≤ n := fun h => by have := this h; omega
                omega
              clear h1 hx1
              simp only [Nat.zero_mul, Nat.add_zero] at q0
              generalize l[0]'hl0 = z at *
              go_wp2_with fail
              go_ret
              exact ⟨rfl, B4⟩
          · have hlz : ((l.length : Int) == 0) = false := by rw [beq_eq_false_iff_ne]; omega
            obtain ⟨hk1, _, hkn⟩ := lastK_at (·.ep) n l l.length (Nat.le_refl _) k h1
            have hmax : ∀ i (hi : i < l.length), l[i].ep ≤ n → l[i].ep ≤ l[k].ep := by
              intro i hi hle
              have := lastK_max (·.ep) n l l.length i hi hi hle
              rw [h1] at this
              by_cases e : i = k
              · subst e; exact Int.le_refl _
              · have := up_lt l HUP.out i k (by omega) hk; omega
            have hl0 : 0 < l.length := by omega
            have hkn2 : l[k].ep ≤ n := hkn
            have h0 : ¬ n < (l[0]'hl0).ep := by
              by_cases e : k = 0
              · subst e; omega
              · have := up_lt l HUP.out 0 k (by omega) hk; omega
            obtain ⟨x, hx⟩ : ∃ x, x = l[k].ep := ⟨_, rfl⟩
            rw [← hx] at hmax hkn2 ⊢
            have HM := Lib.hid hmax
            clear h1 hmax hkn hx
            obtain ⟨b, o, rfl, hc1, hm1, hx1⟩ := r4.at (by omega) (by omega)
            obtain ⟨q0, q1⟩ := pr_cells hx1 0 hl0
            simp only [Nat.zero_mul, Nat.add_zero] at q0
            clear hx1
            generalize l[0]'hl0 = z at *
            go_wp2_with fail
            go_loopw [18] (fun iv wr => ∃ i : Nat, i ≤ l.length ∧ iv = .int .i64 i ∧ Below w3.heap.size w3 wr) (fun iv _ => l.length - (intOf iv).toNat)
            case atStart => exact ⟨0, Nat.zero_le _, rfl, Below.refl _ _⟩
            case round =>
              obtain ⟨i, hi, rfl, hb⟩ := hrel
              by_cases hlt : i < l.length
              · obtain ⟨b', o', he', _, _, hx1⟩ := (r4.below hb).at (by omega) (by omega)
                simp only [Option.some.injEq, Addr.mk.injEq] at he'
                obtain ⟨rfl, rfl, _⟩ := he'
                obtain ⟨q0, q1⟩ := pr_cells hx1 i hlt
                have hm := HM.out i hlt
                clear hx1
                generalize l[i] = z at *
                by_cases hle : z.ep ≤ n
                · have hm2 := hm hle
                  clear hm
                  go_wp2_with fail
                  exact ⟨⟨i + 1, by omega, by go_num, hb⟩, by simp [intOf]; omega⟩
                · clear hm
                  go_wp2_with fail
                  exact ⟨⟨i + 1, by omega, by go_num, hb⟩, by simp [intOf]; omega⟩
              · obtain rfl : i = l.length := by omega
                go_wp2_with fail
                go_ret
                exact ⟨by first | rfl | exact congrArg (fun z => Ending.returned (.bool z)) (by simpa using hkn2), nxt B4 hb⟩
  · unfold senV
    generalize A (valid l - 101) = ad
    by_cases t1 : 20 < l.length
    · go_wp2_with fail
      go_ret
      exact ⟨rfl, B2⟩
    · go_wp2_with fail
      go_ret
      exact ⟨rfl, B2⟩
end Go.Proofs.YtjhebnjajnjhhaaDoor
