/- EpochLeads returns true at every input. -/
import Derived.Test.YtjhebnjajnjhhaaDoorEpoLead
import Derived.Test.YtjhebnjajnjhhaaDoorNumber
import Derived.Test.YtjhebnjajnjhhaaDoorSee
import Derived.Deep.DeepCutAuto
import Derived.Deep.CutBlock
namespace Go.Proofs.YtjhebnjajnjhhaaDoor
open Go Go.RowKit Epo

def ivs2 (l : List Int) : List Value := l.map (fun (n : Int) => Value.int .i64 n)
theorem ivs2_at (l : List Int) (k : Nat) (h : k < l.length) : (ivs2 l)[k]? = some (.int .i64 l[k]) := by simp [ivs2, h]

theorem at_good {l : List Pr} {last a x : Int} {b : Bool} (h : Epo.Good l last a) (hs : AtSays l a x b) : x = last ∧ b = true := by
  obtain ⟨_, q, h1, rfl, h2, _⟩ := h
  obtain ⟨k, hk, h3, h4⟩ := lastK_top l q a h1 h2
  unfold AtSays at hs
  rw [h3] at hs
  rcases hs with ⟨h5, _⟩ | ⟨k', hk', h5, rfl, h6⟩
  · omega
  · obtain rfl : k = k' := by omega
    exact ⟨h4, h6⟩
theorem last_good {l : List Pr} {last a : Int} (h : Epo.Good l last a) : (l.getLast?.getD ⟨0, 0⟩).ep = last ∧ decide (l ≠ []) = true := by
  obtain ⟨_, q, h1, rfl, _, _⟩ := h
  rw [h1]
  refine ⟨rfl, decide_eq_true ?_⟩
  rintro rfl
  simp at h1

set_option maxRecDepth 100000 in
set_option maxHeartbeats 2000000 in
theorem epochLeads_walk (S : List Nat) (A : Nat → Addr) (ns : List Int) (vt : Value) (w : World) (hS : Sents S w A) (hall : All S) (ht : Rd w 1 vt ns.length (ivs2 ns)) :
    Calls Tryd.prog 8 #[vt] w (fun e w' => e = .returned (.bool true) ∧ Below w.heap.size w w') := by
  obtain ⟨a1, c1, rfl⟩ := ht.slice
  have m1 := ht.len_le
  have hfst := epoFirst_calls S A w hS (hall 2 (by omega)) (hall 3 (by omega)) (hall 4 (by omega))
  by_cases t1 : 60 < ns.length
  · go_enter Tryd.func8, Tryd.ntmps8
    go_wp2_with fail
    refine hfst.mono ?_
    rintro e w1 ⟨rfl, b1⟩
    go_wp2_with fail
    go_ret
    exact ⟨rfl, b1⟩
  · go_enter Tryd.func8, Tryd.ntmps8
    go_wp2_with fail
    refine hfst.mono ?_
    rintro e w1 ⟨rfl, b1⟩
    have hn := new_calls S A (hS.below b1) (hall 2 (by omega)) (hall 3 (by omega)) (hall 4 (by omega)) (l := []) (Rd.nil w1 2)
    clear hfst
    go_wp2_with fail
    refine hn.mono ?_
    rintro e w2 ⟨hv, b2⟩
    have B2 := nxt b1 b2
    have hv0 : valid [] = 0 := by decide
    rcases hv with ⟨_, F0, g, rfl, hl0, hF0⟩ | ⟨hne, _⟩
    · have hF0' : ∀ k, F0 k → w.heap.size ≤ k := fun k hk => Nat.le_trans b1.size (hF0 k hk)
      clear hn hv0 hF0 b2
      go_wp2_with fail
      go_loopw [6, 7, 8, 9, 10, 11, 12, 13, 14] (fun v6 v7 iv _ _ _ _ _ _ wr => ∃ i : Nat, i ≤ ns.length ∧ iv = .int .i64 i ∧ ∃ a last : Int, v6 = .int .i64 a ∧ v7 = .int .i64 last ∧ 0 ≤ a ∧ a ≤ 2 * (i : Int) ∧ ∃ l F, l.length ≤ i ∧ Epo.Inv l last a ∧ LineAt wr F g l ∧ (∀ k, F k → w.heap.size ≤ k) ∧ Below w.heap.size w wr) (fun _ _ iv _ _ _ _ _ _ _ => ns.length - (intOf iv).toNat)
      case atStart => exact ⟨0, Nat.zero_le _, rfl, 0, -1, rfl, rfl, by omega, by omega, [], F0, by simp, .inl ⟨rfl, rfl⟩, hl0, hF0', B2⟩
      case round =>
        obtain ⟨i, hi', rfl, a, last, rfl, rfl, ha0, ha1, l, F, hll, hinv, hx, hF, hb⟩ := hrel
        by_cases hlt : i < ns.length
        · obtain ⟨b, o, rfl, hc1, hm1, hx1⟩ := ht.at (by omega)
          have f0 := hx1 i _ (ivs2_at ns i hlt)
          have F1 : ∀ W, Below w.heap.size w W → W.cell? ⟨b, o + i, none⟩ = some (.int .i64 ns[i]) := fun W hW => by rw [hW.cell (World.block_lt_of_cell? _ _ f0)]; exact f0
          have f1 := F1 _ hb
          clear hx1 f0
          generalize ns[i] = z at *
          obtain ⟨n, hnz, hn0, hn1⟩ : ∃ n, n = z % 100 ∧ 0 ≤ n ∧ n < 100 := ⟨_, rfl, by omega, by omega⟩
          have hld := lead_calls S A (hS.below hb) (hall 13 (by omega)) hx hinv n hn0 (by omega) ha0 (by omega) (by omega)
          have HNZ := Lib.hid hnz
          clear hnz hx
          go_wp2_with fail
          refine (number_calls z 100 _ (by omega) (by omega)).mono ?_
          rintro e w4 ⟨rfl, rfl⟩
          rw [← HNZ.out]
          go_wp2_with fail
          refine hld.mono ?_
          rintro e w5 h5
          unfold LeadPost at h5
          clear hld
          rcases h5 with ⟨rfl, hle, l', F', hgood, hll', hx', hF', hfr⟩ | ⟨rfl, hlt2, hgood, F', hx', hF', hfr⟩
          · have B5 : Below w.heap.size w w5 := hfr.below hb hF hb.size
            have G5 : ∀ k, F' k → w.heap.size ≤ k := fun k hk => by
              rcases hF' k hk with h | h
              · exact hF k h
              · exact Nat.le_trans hb.size h
            have hlc := last_calls hx'
            have hac := fun W (hW : Below w5.heap.size w5 W) => at_calls (hx'.below hW) a
            unfold LastPost at hlc
            unfold AtPost at hac
            have hlg := last_good hgood
            rw [hlg.1, hlg.2] at hlc
            generalize (l'.getLast?.getD ⟨0, 0⟩).st = st at *
            have HG := Lib.hid hgood
            clear hlg hgood hinv hfr hF' hb f1
            go_wp2_with fail
            refine hlc.mono ?_
            rintro e w6 ⟨rfl, b6⟩
            have b7 := below_alloc w6 (.cells #[.int .i64 n, .int .i64 st] 50)
            go_wp2_with fail
            refine (hac _ (nxt b6 b7)).mono ?_
            rintro e w7 ⟨x, bb, rfl, hs, b8⟩
            obtain ⟨rfl, rfl⟩ := at_good HG.out hs
            have B8 := nxt B5 (nxt (nxt b6 b7) b8)
            have f8 := F1 _ B8
            have rowA := heap_below b8 (heap_alloc_new w6 (.cells #[.int .i64 x, .int .i64 st] 50))
            have cA : w7.cell? ⟨w6.heap.size, 0, none⟩ = some (.int .i64 x) := cell_of_row _ _ 0 _ _ _ rowA
            clear rowA hac hlc
            have xN := hx'.below (nxt (nxt b6 b7) b8)
            go_wp2_with fail
            refine (number_calls _ 3 _ (by omega) (by omega)).mono ?_
            rintro e w8 ⟨rfl, rfl⟩
            obtain ⟨d, hd, hd0, hd1⟩ : ∃ d, d = wrap64 (z.tdiv 100) % 3 ∧ 0 ≤ d ∧ d < 3 := ⟨_, rfl, by omega, by omega⟩
            first | rw [← hd] | skip
            have HD := Lib.hid hd
            clear hd
            go_wp2_with fail
            exact ⟨⟨i + 1, by omega, by go_num, a + d, x, rfl, rfl, by omega, by omega, l', F', by omega, .inr (HG.out.later (by omega)), xN, G5, B8⟩, by simp [intOf]; omega⟩
          · have B5 : Below w.heap.size w w5 := hfr.below hb hF hb.size
            have G5 : ∀ k, F' k → w.heap.size ≤ k := fun k hk => by
              rcases hF' k hk with h | h
              · exact hF k h
              · exact Nat.le_trans hb.size h
            unfold senV
            have hl0 : 0 ≤ last := by obtain ⟨_, _, _, _, _, h⟩ := hgood; exact h
            have hlg := last_good hgood
            have HG := Lib.hid hgood
            clear hgood hinv hfr hF' f1
            go_wp2_with fail
            refine (is_calls (hS.below B5) hall _ (.bare 13) ⟨by omega, rfl⟩ 114).mono ?_
            rintro e w5' ⟨rfl, b5'⟩
            rw [show decide ((Er.bare 13).code = 114 ∧ (Er.bare 13).has = false ∧ (Er.bare 13).pos = 0) = true by decide]
            have B5' := nxt B5 b5'
            have hx2 := hx'.below b5'
            have hlc := last_calls hx2
            have hac := fun W (hW : Below w5'.heap.size w5' W) => at_calls (hx2.below hW) a
            unfold LastPost at hlc
            unfold AtPost at hac
            rw [hlg.1, hlg.2] at hlc
            generalize (l.getLast?.getD ⟨0, 0⟩).st = st at *
            clear hlg hb B5 hx' b5'
            go_wp2_with fail
            refine hlc.mono ?_
            rintro e w6 ⟨rfl, b6⟩
            have b7 := below_alloc w6 (.cells #[.int .i64 last, .int .i64 st] 50)
            go_wp2_with fail
            refine (hac _ (nxt b6 b7)).mono ?_
            rintro e w7 ⟨x, bb, rfl, hs, b8⟩
            obtain ⟨rfl, rfl⟩ := at_good HG.out hs
            have B8 := nxt B5' (nxt (nxt b6 b7) b8)
            have f8 := F1 _ B8
            have rowA := heap_below b8 (heap_alloc_new w6 (.cells #[.int .i64 x, .int .i64 st] 50))
            have cA : w7.cell? ⟨w6.heap.size, 0, none⟩ = some (.int .i64 x) := cell_of_row _ _ 0 _ _ _ rowA
            clear rowA hac hlc
            have xN := hx2.below (nxt (nxt b6 b7) b8)
            go_wp2_with fail
            refine (number_calls _ 3 _ (by omega) (by omega)).mono ?_
            rintro e w8 ⟨rfl, rfl⟩
            obtain ⟨d, hd, hd0, hd1⟩ : ∃ d, d = wrap64 (z.tdiv 100) % 3 ∧ 0 ≤ d ∧ d < 3 := ⟨_, rfl, by omega, by omega⟩
            first | rw [← hd] | skip
            have HD := Lib.hid hd
            clear hd
            go_wp2_with fail
            exact ⟨⟨i + 1, by omega, by go_num, a + d, x, rfl, rfl, by omega, by omega, l, F', by omega, .inr (HG.out.later (by omega)), xN, G5, B8⟩, by simp [intOf]; omega⟩
        · obtain rfl : i = ns.length := by omega
          have hup : up l = true := by
            rcases hinv with ⟨rfl, _⟩ | ⟨h, _⟩
            · rfl
            · exact h
          have hpc := pairs_calls hx (by omega)
          have HUP := Lib.hid hup
          have hl60 : l.length ≤ 60 := by omega
          clear hinv hup hx
          go_wp2_with fail
          refine hpc.mono ?_
          rintro e w3 ⟨v3, rfl, o3, b3⟩
          have B3 := nxt hb b3
          have r3 := Rd.of_owns o3
          obtain ⟨a3, c3, rfl⟩ := owns_slice o3
          clear hpc o3 b3
          go_wp2_with fail
          go_loopw [16] (fun iv wr => ∃ j : Nat, 1 ≤ j ∧ iv = .int .i64 j ∧ j ≤ max 1 l.length ∧ Below w3.heap.size w3 wr) (fun iv _ => 61 - (intOf iv).toNat)
          case atStart => exact ⟨1, Nat.le_refl _, rfl, by omega, Below.refl _ _⟩
          case round =>
            obtain ⟨j, hj1, rfl, hj2, hb2⟩ := hrel
            by_cases hlt2 : j < l.length
            · obtain ⟨k, rfl⟩ : ∃ k, j = k + 1 := ⟨j - 1, by omega⟩
              obtain ⟨b, o, rfl, hc1, hm1, hx1⟩ := (r3.below hb2).at (by omega) (by omega)
              obtain ⟨p0, p1⟩ := pr_cells hx1 k (by omega)
              obtain ⟨q0, q1⟩ := pr_cells hx1 (k + 1) hlt2
              have hs1 : IntKind.i64.wrap ((k : Int) + 1 - 1) = (k : Int) := by rw [IntKind.wrap_i64]; omega
              have hux := up_next l HUP.out k hlt2
              clear hx1
              generalize l[k] = x at *
              generalize l[k + 1] = y at *
              have hd1 : decide (y.ep ≤ x.ep) = false := decide_eq_false (by omega)
              have hd2 : decide (y.st ≤ x.st) = false := decide_eq_false (by omega)
              go_wp2_with fail
              go_quiet (fail)
              go_wp2_with fail
              exact ⟨⟨k + 1 + 1, by omega, by go_num, by omega, below_drewN hb2 nq⟩, by simp [intOf]; omega⟩
            · go_wp2_with fail
              go_ret
              exact ⟨rfl, nxt B3 hb2⟩
    · exact absurd hv0 hne
end Go.Proofs.YtjhebnjajnjhhaaDoor
