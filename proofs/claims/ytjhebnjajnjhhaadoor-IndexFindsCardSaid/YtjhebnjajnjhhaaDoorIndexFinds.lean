/- IndexFinds returns true at every input. -/
import Derived.Test.YtjhebnjajnjhhaaDoorIdxFirst
import Derived.Test.YtjhebnjajnjhhaaDoorFindsMath
import Derived.Test.YtjhebnjajnjhhaaDoorNumber
namespace Go.Proofs.YtjhebnjajnjhhaaDoor
open Go Go.RowKit Idx

def ivs (l : List Int) : List Value := l.map (fun (n : Int) => Value.int .i64 n)
theorem ivs_at (l : List Int) (k : Nat) (h : k < l.length) : (ivs l)[k]? = some (.int .i64 l[k]) := by simp [ivs, h]
def pvs (s : Nat → Int) (n : Nat) : List Value := (List.range n).map (fun i => Value.int .i64 (ps s i))
theorem pvs_at (s : Nat → Int) (n k : Nat) (h : k < n) : (pvs s n)[k]? = some (.int .i64 (ps s k)) := by simp [pvs, h]
theorem pvs_succ (s : Nat → Int) (n : Nat) : pvs s (n + 1) = pvs s n ++ [.int .i64 (ps s n)] := by simp [pvs, List.range_succ]
theorem info_int : (Tryd.prog.info? 3).map (fun i => (i.zero, i.size, i.bytes)) = some (some (.int .i64 0), 1, 8) := by kernel_rfl
def t10 : Nat → Int := fun i => i
theorem t10_bd (i : Nat) (h : i ≤ 100) : 0 ≤ t10 i ∧ t10 i ≤ 100 := by unfold t10; omega

set_option maxRecDepth 100000 in
set_option maxHeartbeats 4000000 in
theorem indexFinds_walk (every : Int) (ns : List Int) (vt : Value) (ask : Int) (w : World) (ht : Rd w 1 vt ns.length (ivs ns)) :
    Calls Tryd.prog 4 #[.int .i64 every, vt, .int .i64 ask] w (fun e w' => e = .returned (.bool true) ∧ Below w.heap.size w w') := by
  obtain ⟨i0, hi, hz0, hz1, hz2⟩ := info_parts info_int
  obtain ⟨a1, c1, rfl⟩ := ht.slice
  have m1 := ht.len_le
  obtain ⟨r, hr, hr0, hr1⟩ : ∃ r, r = every % 200 ∧ 0 ≤ r ∧ r < 200 := ⟨_, rfl, by omega, by omega⟩
  by_cases t1 : 60 < ns.length ∨ ns.length = 0
  · have HR := Lib.hid hr
    rcases t1 with t1 | t1
    · clear hr
      go_enter Tryd.func4, Tryd.ntmps4
      go_wp2_with fail
      refine (idxFirst_calls _).mono ?_
      rintro e w1 ⟨rfl, b1⟩
      go_wp2_with fail
      refine (number_calls every 200 _ (by omega) (by omega)).mono ?_
      rintro e w2 ⟨rfl, rfl⟩
      rw [← HR.out]
      go_wp2_with fail
      go_ret
      exact ⟨rfl, b1⟩
    · clear hr
      rw [t1]
      go_enter Tryd.func4, Tryd.ntmps4
      go_wp2_with fail
      refine (idxFirst_calls _).mono ?_
      rintro e w1 ⟨rfl, b1⟩
      go_wp2_with fail
      refine (number_calls every 200 _ (by omega) (by omega)).mono ?_
      rintro e w2 ⟨rfl, rfl⟩
      rw [← HR.out]
      go_wp2_with fail
      go_ret
      exact ⟨rfl, b1⟩
  · obtain ⟨k, hk, hk1⟩ : ∃ k : Nat, ask % (ns.length : Int) = (k : Int) ∧ k < ns.length := by
      have h1 := Int.emod_nonneg ask (show (ns.length : Int) ≠ 0 by omega)
      have h2 := Int.emod_lt_of_pos ask (show 0 < (ns.length : Int) by omega)
      exact ⟨(ask % (ns.length : Int)).toNat, by omega, by omega⟩
    have hn0 : 0 < ns.length := by omega
    have hn1 : ns.length ≤ 60 := by omega
    have hlz : ((ns.length : Int) == 0) = false := by rw [beq_eq_false_iff_ne]; omega
    clear t1
    obtain ⟨s, hs⟩ : ∃ s, s = szs 90 ns := ⟨_, rfl⟩
    have hsb : ∀ i, 1 ≤ s i ∧ s i ≤ 90 := by subst hs; exact szs_bd 90 (by omega) ns
    have HS := Lib.hid hs
    have HR := Lib.hid hr
    have HK := Lib.hid hk
    clear hs hr hk
    have HSB := Lib.hid hsb
    clear hsb
    go_enter Tryd.func4, Tryd.ntmps4
    go_wp2_with fail
    refine (idxFirst_calls _).mono ?_
    rintro e w1 ⟨rfl, b1⟩
    go_wp2_with fail
    refine (number_calls every 200 _ (by omega) (by omega)).mono ?_
    rintro e w2 ⟨rfl, rfl⟩
    rw [← HR.out]
    go_wp2_with fail
    refine (newIdx_calls (r + 1) w1 (by omega) (by omega)).mono ?_
    rintro e w2 ⟨rfl, i2, b2⟩
    have B2 := nxt b1 b2
    obtain ⟨g, hg⟩ : ∃ g, g = w1.heap.size := ⟨_, rfl⟩
    rw [← hg] at i2 ⊢
    have hgw : w.heap.size ≤ g := by have := b1.size; omega
    clear hg b2
    go_wp2_with fail
    go_loopw [10, 11, 12, 13] (fun v10 v11 iv _ wr => ∃ i : Nat, i ≤ ns.length ∧ iv = .int .i64 i ∧ v11 = .int .i64 (ps s i) ∧ ∃ F, IdxAt wr F g (built (r + 1) 10 t10 (ps s) i) ∧ (∀ k, F k → w.heap.size ≤ k) ∧ wr.ownsRow 0 3 1 v10 i (pvs s i) ∧ (∀ k, v10.ownBlock = some k → w.heap.size ≤ k ∧ ¬ F k) ∧ Below w.heap.size w wr) (fun _ _ iv _ _ => ns.length - (intOf iv).toNat)
    case atStart => exact ⟨0, Nat.zero_le _, rfl, rfl, _, i2, by rintro k rfl; exact hgw, World.ownsRow_nil _ _ _ _, by simp [Value.ownBlock], B2⟩
    case round =>
      obtain ⟨i, hi', rfl, rfl, F, hx, hF, hp, hpF, hb⟩ := hrel
      obtain ⟨ap, cp, rfl⟩ := owns_slice hp
      have hpb := ps_bd s HSB.out i
      by_cases hlt : i < ns.length
      · obtain ⟨b, o, rfl, hc1, hm1, hx1⟩ := (ht.below hb).at (by omega)
        have f1 := hx1 i _ (ivs_at ns i hlt)
        have hsi : s i = ns[i] % 90 + 1 := by rw [HS.out]; exact szs_at 90 ns i hlt
        have hsb := HSB.out i
        have hadd := idxAdd_calls hx ⟨10 * (i : Int), t10 i, ps s i⟩ (s i) (B_may (r + 1) 10 t10 s HSB.out (by omega) t10_bd i (by omega)) (by have := B_marks_len (r + 1) 10 t10 (ps s) i; omega) (by rw [B_adds_len]; omega) (B_pos (r + 1) 10 t10 s HSB.out i (by omega))
        have hsu : Idx.add (built (r + 1) 10 t10 (ps s) i) ⟨10 * (i : Int), t10 i, ps s i⟩ = built (r + 1) 10 t10 (ps s) (i + 1) := rfl
        rw [hsu] at hadd
        have hpn : ps s (i + 1) = ps s i + s i := rfl
        have HPN := Lib.hid hpn
        clear hx1 hsu hpn
        have hti : t10 i = (i : Int) := rfl
        simp only [hti] at hadd
        generalize ns[i] = z at *
        obtain ⟨q, hq⟩ : ∃ q, q = ps s i := ⟨_, rfl⟩
        rw [← hq] at hadd hpb
        obtain ⟨y, hy⟩ : ∃ y, y = s i := ⟨_, rfl⟩
        rw [← hy] at hadd hsi hsb
        obtain ⟨u, hu⟩ : ∃ u, u = z % 90 := ⟨_, rfl⟩
        rw [← hu] at hsi
        have HU := Lib.hid hu
        have HY := Lib.hid hy
        have HQ := Lib.hid hq
        clear hu hy hti
        rw [← hq]
        clear hq
        subst hsi
        go_wp2_with fail
        refine (number_calls z 90 _ (by omega) (by omega)).mono ?_
        rintro e w4 ⟨rfl, rfl⟩
        rw [← HU.out]
        go_wp2_with fail
        refine hadd.mono ?_
        rintro e w5 h5
        obtain ⟨rfl, F5, i5, s5, f5⟩ := h5.go
        have B5 : Below w.heap.size w w5 := f5.below hb hF hb.size
        have p5 := f5.owns hp (fun k hk => (hpF k hk).2)
        have pF5 : ∀ k, (Value.slice ap i cp).ownBlock = some k → ¬ F5 k := fun k hk e => by
          rcases s5 k e with h | h
          · exact (hpF k hk).2 h
          · have := owns_lt hp k hk; omega
        have G5 : ∀ k, F5 k → w.heap.size ≤ k := fun k hk => by
          rcases s5 k hk with h | h
          · exact hF k h
          · exact Nat.le_trans hb.size h
        have bal := below_alloc w5 (.cells #[.int .i64 q] 3)
        go_wp2_with (at_builtin; refine wpList_append_where rfl _ _ 39 rfl 3 i0 _ 1 8 Tryd.underlying39 hi hz0 hz1 hz2 rfl (by decide) _ i (pvs s i) rfl (p5.alloc _) ⟨w5.heap.size, 0, none⟩ 1 1 [.int .i64 q] rfl (by rfl) (cells_new w5 #[.int .i64 q] 3) ?c1 ?c3 ?c4 ?_)
        case c1 => simp [Value.oneCell']
        case c3 => unfold maxLen; omega
        case c4 => omega
        intro vp' w6 o6 g6 wh6
        obtain ⟨av6, cv6, rfl⟩ := owns_slice o6
        have i6 := (i5.below bal).frame (Frame.of_grown (F := fun k => (Value.slice ap i cp).ownBlock = some k) g6 (fun k hk => hk)) (fun k hk e => pF5 k e hk)
        have B6 : Below w.heap.size w w6 := (nxt B5 bal).grown g6 (by have := B5.size; have := bal.size; omega) (fun k hk => (hpF k hk).1)
        have wF6 : ∀ k, (Value.slice av6 (i + 1) cv6).ownBlock = some k → w.heap.size ≤ k ∧ ¬ F5 k := fun k hk => by
          rcases wh6 k hk with h | h
          · exact ⟨(hpF k h).1, pF5 k h⟩
          · have h1 := B5.size
            have h2 := bal.size
            exact ⟨by omega, fun e => by have := i5.old k e; omega⟩
        rw [HQ.out, ← pvs_succ] at o6
        clear hpF hp hx hb f5 p5 i5 B5 g6 wh6 bal hadd
        go_wp2_with fail
        exact ⟨⟨i + 1, by omega, by go_num, congrArg (Value.int .i64) (by rw [HPN.out, ← HQ.out, ← HY.out]), F5, i6, G5, o6, wF6, B6⟩, by simp [intOf]; omega⟩
      · obtain rfl : i = ns.length := by omega
        have hfd := built_find (r + 1) 10 t10 (ps s) ns.length k hk1 (by omega)
        obtain ⟨i1, hi1, hf1, hf2⟩ := hfd
        have hfc := find_calls hx (10 * (k : Int))
        have hfin := B_find_neg (r + 1) 10 t10 (ps s) ns.length (by omega)
        obtain ⟨q, lm, hq1, hq2, hq3, hq4⟩ := B_when (r + 1) 10 t10 (ps s) ns.length hn0 (by omega) (k : Int)
        have hml := B_marks_len (r + 1) 10 t10 (ps s) ns.length
        generalize built (r + 1) 10 t10 (ps s) ns.length = X at *
        have hpk := ps_bd s HSB.out k
        have hpf := ps_bd s HSB.out i1
        have hpd : ps s k - ps s i1 < r + 1 := by rcases hf2 with rfl | h <;> omega
        have hwr : IntKind.i64.wrap (ps s k - ps s i1) = ps s k - ps s i1 := by rw [IntKind.wrap_i64]; omega
        have HQ2 := Lib.hid hq2
        have HQ3 := Lib.hid hq3
        have HFI := Lib.hid hfin
        have HQ1 := Lib.hid hq1
        have HPF := Lib.hid hpF
        clear hq2 hq3 hfin hf2 hpF
        go_wp2_with fail
        refine (number_calls ask ns.length _ (by omega) (by omega)).mono ?_
        rintro e w4 ⟨rfl, rfl⟩
        rw [HK.out]
        go_wp2_with fail
        refine hfc.mono ?_
        rintro e w5 h5
        unfold FindPost at h5
        obtain ⟨rfl, b5⟩ := h5
        rw [hf1]
        have x5 := hx.below b5
        have B5 := nxt hb b5
        have p5 := (Rd.of_owns hp).below b5
        clear hfc hf1 hx hb b5 hp
        go_wp2_with fail
        go_loopw [16, 17] (fun v16 iv wq => ∃ j : Nat, j ≤ ns.length ∧ iv = .int .i64 j ∧ v16 = .int .i64 (if i1 < j then (i1 : Int) else -1) ∧ Below w5.heap.size w5 wq) (fun _ iv _ => ns.length - (intOf iv).toNat)
        case atStart => exact ⟨0, Nat.zero_le _, rfl, by simp, Below.refl _ _⟩
        case round =>
          obtain ⟨j, hj', rfl, rfl, hbq⟩ := hrel
          by_cases hj : j < ns.length
          · obtain ⟨b, o, rfl, hc1, hm1, hx1⟩ := (p5.below hbq).at (by omega) (by omega)
            have f1 := hx1 j _ (pvs_at s _ j hj)
            clear hx1
            by_cases hz : j = i1
            · subst hz
              go_wp2_with fail
              exact ⟨⟨j + 1, by omega, by go_num, congrArg (Value.int .i64) (by rw [if_pos (Nat.lt_succ_self _)]), hbq⟩, by simp [intOf]; omega⟩
            · have hne : (ps s j == ps s i1) = false := by
                rw [beq_eq_false_iff_ne]
                exact fun e => hz (ps_inj s HSB.out j i1 e)
              have hif : (if i1 < j + 1 then (i1 : Int) else -1) = if i1 < j then (i1 : Int) else -1 := by
                by_cases h : i1 < j
                · rw [if_pos h, if_pos (by omega)]
                · rw [if_neg h, if_neg (by omega)]
              have HIF := Lib.hid hif
              clear hif
              generalize (if i1 < j then (i1 : Int) else -1) = fv at *
              go_wp2_with fail
              exact ⟨⟨j + 1, by omega, by go_num, congrArg (Value.int .i64) (by rw [HIF.out]), hbq⟩, by simp [intOf]; omega⟩
          · obtain rfl : j = ns.length := by omega
            rw [if_pos (show i1 < ns.length by omega)]
            obtain ⟨b, o, rfl, hc1, hm1, hx1⟩ := (p5.below hbq).at (by omega) (by omega)
            have f1 := hx1 k _ (pvs_at s _ k hk1)
            have x6 := x5.below hbq
            have B6 := nxt B5 hbq
            have hwn := when_calls x6 (k : Int)
            clear hx1 p5 x5 B5 hbq
            generalize ps s k = pk at *
            generalize ps s i1 = pf at *
            go_wp2_with fail
            refine hwn.mono ?_
            rintro e w7 h7
            unfold WhenPost at h7
            obtain ⟨rfl, b7⟩ := h7
            rw [HQ3.out]
            have x7 := x6.below b7
            have B7 := nxt B6 b7
            generalize (Idx.when X (k : Int)).getD 0 = ov at *
            have hmk := marks_calls x7 (by rw [HQ1.out]; omega)
            have hmk2 := fun W (hW : Below w7.heap.size w7 W) => marks_calls (x7.below hW) (by rw [HQ1.out]; omega)
            have hfn := fun W (hW : Below w7.heap.size w7 W) => find_calls (x7.below hW) (-1)
            rw [HQ1.out] at hmk hmk2
            have hql : q < X.marks.length := by rw [HQ1.out]; omega
            have hlm : X.marks[q] = lm := by have := HQ2.out; rw [List.getElem?_eq_getElem hql] at this; simpa using this
            have HLM := Lib.hid hlm
            have hs1 : IntKind.i64.wrap ((q : Int) + 1 - 1) = (q : Int) := by rw [IntKind.wrap_i64]; omega
            clear hlm x6 B6 hwn b7
            obtain ⟨bb, hbb⟩ : ∃ bb, bb = decide ((k : Int) ≤ lm.time) := ⟨_, rfl⟩
            rw [← hbb]
            have hbc : bb = true ∧ (k : Int) ≤ lm.time ∨ bb = false ∧ ¬ (k : Int) ≤ lm.time := by
              by_cases h : (k : Int) ≤ lm.time
              · exact .inl ⟨by rw [hbb]; simp [h], h⟩
              · exact .inr ⟨by rw [hbb]; simp [h], h⟩
            clear hbb
            rcases hbc with ⟨rfl, hle⟩ | ⟨rfl, hle⟩
            all_goals (
              go_wp2_with fail
              refine hmk.mono ?_
              rintro e w8 ⟨v8, rfl, o8, b8⟩
              obtain ⟨a8, c8, rfl⟩ := owns_slice o8
              go_wp2_with fail
              refine (hmk2 _ b8).mono ?_
              rintro e w9 ⟨v9, rfl, o9, b9⟩
              have b89 := nxt b8 b9
              obtain ⟨a9, c9, rfl⟩ := owns_slice o9
              have r9 := Rd.of_owns o9
              go_wp2_with fail
              refine (hmk2 _ b89).mono ?_
              rintro e w10 ⟨v10, rfl, o10, b10⟩
              have b810 := nxt b89 b10
              obtain ⟨a10, c10, rfl⟩ := owns_slice o10
              obtain ⟨b', o', rfl, hc9, hm9, hx9⟩ := (r9.below b10).at (by omega) (by omega)
              have f9 := (mk_cells hx9 q hql).2.1
              rw [HLM.out] at f9
              clear hx9 o8 o9 o10 hmk
              go_wp2_with fail
              refine (hfn _ b810).mono ?_
              rintro e w11 h11
              unfold FindPost at h11
              obtain ⟨rfl, b11⟩ := h11
              rw [HFI.out]
              go_wp2_with fail
              go_ret
              refine ⟨?_, nxt B7 (nxt b810 b11)⟩
              first | rfl | exact congrArg (fun z => Ending.returned (.bool z)) (show (!decide ((k : Int) ≤ lm.time)) = true by rw [decide_eq_false (by omega)]; rfl))
end Go.Proofs.YtjhebnjajnjhhaaDoor
