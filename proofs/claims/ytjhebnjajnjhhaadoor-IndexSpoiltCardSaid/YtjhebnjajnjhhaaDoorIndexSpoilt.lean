/- IndexSpoilt returns true at every input. -/
import Derived.Test.YtjhebnjajnjhhaaDoorSpoilMath
import Derived.Test.YtjhebnjajnjhhaaDoorIdxFirst
import Derived.Test.YtjhebnjajnjhhaaDoorRefBytes
import Derived.Test.YtjhebnjajnjhhaaDoorVintInt
import Derived.Test.YtjhebnjajnjhhaaDoorNumber
import Derived.Test.YtjhebnjajnjhhaaDoorSee
namespace Go.Proofs.YtjhebnjajnjhhaaDoor
open Go Go.RowKit Idx Vint

def ivs (l : List Int) : List Value := l.map (fun (n : Int) => Value.int .i64 n)
theorem ivs_at (l : List Int) (k : Nat) (h : k < l.length) : (ivs l)[k]? = some (.int .i64 l[k]) := by simp [ivs, h]
def zt : Nat → Int := fun _ => 0
theorem zt_bd (i : Nat) (_ : i ≤ 100) : 0 ≤ zt i ∧ zt i ≤ 100 := by unfold zt; omega

set_option maxRecDepth 100000 in
set_option maxHeartbeats 4000000 in
theorem indexSpoilt_walk (S : List Nat) (A : Nat → Addr) (ns : List Int) (vt : Value) (at' : Int) (by' : UInt8) (w : World) (hS : Sents S w A) (hall : All S) (ht : Rd w 1 vt ns.length (ivs ns)) (_hat : -9223372036854775808 ≤ at' ∧ at' ≤ 9223372036854775807) :
    Calls Tryd.prog 14 #[vt, .int .i64 at', .int .u8 (by'.toNat : Int)] w (fun e w' => e = .returned (.bool true) ∧ Below w.heap.size w w') := by
  obtain ⟨a1, c1, rfl⟩ := ht.slice
  have m1 := ht.len_le
  by_cases t1 : 30 < ns.length ∨ by'.toNat = 0
  · go_enter Tryd.func14, Tryd.ntmps14
    go_wp2_with fail
    refine (idxFirst_calls _).mono ?_
    rintro e w1 ⟨rfl, b1⟩
    generalize by'.toNat = q at *
    rcases t1 with t1 | t1
    all_goals
      go_wp2_with fail
      all_goals (
        go_ret
        exact ⟨rfl, b1⟩)
  · have t2 : ns.length ≤ 30 := by omega
    have t4 : ¬ by'.toNat = 0 := by omega
    have t2' : decide ((30 : Int) < (ns.length : Int)) = false := decide_eq_false (by omega)
    have t4' : ((by'.toNat : Int) == 0) = false := by rw [beq_eq_false_iff_ne]; omega
    have hd : by' ≠ 0 := by rintro rfl; exact t4 rfl
    clear t1 t4
    obtain ⟨s, hs⟩ : ∃ s, s = szs 60 ns := ⟨_, rfl⟩
    have hsb : ∀ i, 1 ≤ s i ∧ s i ≤ 90 := by intro i; subst hs; have := szs_bd 60 (by omega) ns i; omega
    have HS := Lib.hid hs
    have HSB := Lib.hid hsb
    clear hs hsb
    go_enter Tryd.func14, Tryd.ntmps14
    go_wp2_with fail
    refine (idxFirst_calls _).mono ?_
    rintro e w1 ⟨rfl, b1⟩
    go_wp2_with fail
    refine (newIdx_calls 20 w1 (by omega) (by omega)).mono ?_
    rintro e w2 ⟨rfl, i2, b2⟩
    have B2 := nxt b1 b2
    obtain ⟨g, hg⟩ : ∃ g, g = w1.heap.size := ⟨_, rfl⟩
    rw [← hg] at i2 ⊢
    have hgw : w.heap.size ≤ g := by have := b1.size; omega
    clear hg b2
    go_wp2_with fail
    go_loopw [10, 11, 12] (fun v10 iv _ wr => ∃ i : Nat, i ≤ ns.length ∧ iv = .int .i64 i ∧ v10 = .int .i64 (ps s i) ∧ ∃ F, IdxAt wr F g (built 20 1 zt (ps s) i) ∧ (∀ k, F k → w.heap.size ≤ k) ∧ Below w.heap.size w wr) (fun _ iv _ _ => ns.length - (intOf iv).toNat)
    case atStart => exact ⟨0, Nat.zero_le _, rfl, rfl, _, i2, by rintro k rfl; exact hgw, B2⟩
    case round =>
      obtain ⟨i, hi', rfl, rfl, F, hx, hF, hb⟩ := hrel
      have hpb := ps_bd s HSB.out i
      by_cases hlt : i < ns.length
      · obtain ⟨b, o, rfl, hc1, hm1, hx1⟩ := (ht.below hb).at (by omega)
        have f1 := hx1 i _ (ivs_at ns i hlt)
        have hsi : s i = ns[i] % 60 + 1 := by rw [HS.out]; exact szs_at 60 ns i hlt
        have hsb := HSB.out i
        have hadd := idxAdd_calls hx ⟨1 * (i : Int), zt i, ps s i⟩ (s i) (B_may 20 1 zt s HSB.out (by omega) zt_bd i (by omega)) (by have := B_marks_len 20 1 zt (ps s) i; omega) (by rw [B_adds_len]; omega) (B_pos 20 1 zt s HSB.out i (by omega))
        have hsu : Idx.add (built 20 1 zt (ps s) i) ⟨1 * (i : Int), zt i, ps s i⟩ = built 20 1 zt (ps s) (i + 1) := rfl
        rw [hsu] at hadd
        have hpn : ps s (i + 1) = ps s i + s i := rfl
        have HPN := Lib.hid hpn
        clear hx1 hsu hpn
        have hti : zt i = 0 := rfl
        simp only [hti, Int.one_mul] at hadd
        generalize ns[i] = z at *
        obtain ⟨q, hq⟩ : ∃ q, q = ps s i := ⟨_, rfl⟩
        rw [← hq] at hadd hpb
        obtain ⟨y, hy⟩ : ∃ y, y = s i := ⟨_, rfl⟩
        rw [← hy] at hadd hsi hsb
        obtain ⟨u, hu⟩ : ∃ u, u = z % 60 := ⟨_, rfl⟩
        rw [← hu] at hsi
        have HU := Lib.hid hu
        have HY := Lib.hid hy
        have HQ := Lib.hid hq
        clear hu hy hti
        rw [← hq]
        clear hq
        subst hsi
        go_wp2_with fail
        refine (number_calls z 60 _ (by omega) (by omega)).mono ?_
        rintro e w4 ⟨rfl, rfl⟩
        rw [← HU.out]
        go_wp2_with fail
        refine hadd.mono ?_
        rintro e w5 h5
        obtain ⟨rfl, F5, i5, s5, f5⟩ := h5.go
        have B5 : Below w.heap.size w w5 := f5.below hb hF hb.size
        have G5 : ∀ k, F5 k → w.heap.size ≤ k := fun k hk => by
          rcases s5 k hk with h | h
          · exact hF k h
          · exact Nat.le_trans hb.size h
        clear hadd
        go_wp2_with fail
        exact ⟨⟨i + 1, by omega, by go_num, by rw [HPN.out, ← HQ.out, ← HY.out], F5, i5, G5, B5⟩, by simp [intOf]; omega⟩
      · obtain rfl : i = ns.length := by omega
        have hev := built_every 20 1 zt (ps s) ns.length
        have hml := B_marks_len 20 1 zt (ps s) ns.length
        have hmr : (built 20 1 zt (ps s) ns.length).marks.all Idx.right = true := built_right 20 s HSB.out ns.length (by omega)
        have hmi : rise (built 20 1 zt (ps s) ns.length).marks = true := built_rise 20 s HSB.out ns.length
        obtain ⟨X, hX⟩ : ∃ X, X = built 20 1 zt (ps s) ns.length := ⟨_, rfl⟩
        rw [← hX] at hx hev hml hmr hmi
        have hib := ibytes_calls hx (by omega) (by omega) (by omega) hmr hmi
        have hbl := body_len 20 X.marks (by omega) (by omega) hmr (by omega)
        have hrd := readIdx_put 20 X.marks (by omega) (by omega) hmr hmi (by omega)
        have htr := readIdx_turned hd (bodyL 20 X.marks)
        have hsl := sealed_len (bodyL 20 X.marks)
        rw [hev] at hib
        obtain ⟨bs, hbs⟩ : ∃ bs, bs = Crc.sealed (bodyL 20 X.marks) := ⟨_, rfl⟩
        rw [← hbs] at hib hbl hrd htr hsl
        have hb4 : 4 ≤ bs.length := by omega
        have HRD := Lib.hid hrd
        have HTR := Lib.hid htr
        clear hX hev hmr hmi hbs hrd htr hsl hpb hF
        go_wp2_with fail
        refine hib.mono ?_
        rintro e w3 ⟨v3, rfl, o3, b3⟩
        have B3 := nxt hb b3
        have hx3 := hx.below b3
        have rb3 := Rd.of_owns o3
        obtain ⟨a3, c3, rfl⟩ := owns_slice o3
        clear hib hx
        go_wp2_with fail
        refine (refBytes_calls _ bs _ rb3 (by omega)).mono ?_
        rintro e w4 ⟨v4, rfl, o4, b4⟩
        obtain ⟨a4, c4, rfl⟩ := owns_slice o4
        obtain ⟨g4, rfl, hg4⟩ := owns_at o4 (by omega)
        go_wp2_with fail
        refine (number_calls at' (bs.length : Int) _ (by omega) (by omega)).mono ?_
        rintro e w5 ⟨rfl, rfl⟩
        obtain ⟨k, hk, hkl⟩ : ∃ k : Nat, at' % (bs.length : Int) = (k : Int) ∧ k < bs.length := by
          have e1 := Int.emod_nonneg at' (show (bs.length : Int) ≠ 0 by omega)
          have e2 := Int.emod_lt_of_pos at' (show (0 : Int) < (bs.length : Int) by omega)
          exact ⟨(at' % (bs.length : Int)).toNat, by omega, by omega⟩
        rw [hk]
        clear hk
        have f1 := World.ownsRow.cellAt o4 k (by simpa [bvs] using hkl)
        rw [bvs_at bs k hkl] at f1
        have hfr := World.ownsRow.frozenAt o4 k
        have x1 := u8x bs[k] by'
        have hst := (World.ownsRow.stored o4 k (.int .u8 (((bs[k] ^^^ by').toNat : Nat) : Int))).1
        rw [bvs_set] at hst
        have hb5 : Below w3.heap.size w3 (w4.setCell ⟨g4, k, none⟩ (.int .u8 (((bs[k] ^^^ by').toNat : Nat) : Int))) := b4.setCell (p := ⟨g4, k, none⟩) hg4 _
        have htr := HTR.out k hkl
        obtain ⟨z, hz⟩ : ∃ z, z = bs[k] ^^^ by' := ⟨_, rfl⟩
        rw [← hz] at x1 hst hb5 htr
        have hlen : (bs.set k z).length = bs.length := by simp
        have HT := Lib.hid hst
        have HB := Lib.hid hb5
        have HTR2 := Lib.hid htr
        clear hst hb5 htr hz o4
        generalize bs[k] = x at *
        go_upto_region 20 with fail
        have b5 := HB.out
        have o5 := HT.out
        clear HT HB f1 hfr x1 b4
        generalize World.setCell _ _ _ = w5 at *
        have B5 := nxt B3 b5
        have rc : Rd w5 1 (.slice (some ⟨g4, 0, none⟩) bs.length c4) (bs.set k z).length (bvs (bs.set k z)) := by rw [hlen]; exact Rd.of_owns o5
        have hr6 := iread_calls (hS.below B5) hall rc (by omega)
        unfold IReadPost at hr6
        rw [HTR2.out] at hr6
        go_wp2_with fail
        refine hr6.mono ?_
        rintro e w6 ⟨b6, (⟨_, _, h, _⟩ | ⟨vf, _, rfl, hvf⟩)⟩
        · exact absurd h (by simp)
        replace hvf : ErRow A w6 vf (.bare 1) := hvf
        have B6 := nxt B5 b6
        have hvA := hvf.at
        obtain ⟨T3, u3, rfl⟩ := hvf.not_nil (by simp)
        have rb6 := rb3.below (nxt b5 b6)
        have hr7 := iread_calls (hS.below B6) hall rb6 (by omega)
        unfold IReadPost at hr7
        rw [HRD.out] at hr7
        clear hr6 HTR2 HTR o5 rc
        go_wp2_with fail
        refine hr7.mono ?_
        rintro e w7 ⟨b7, (⟨F7, g7, _, rfl, hx7, _⟩ | ⟨_, h, _⟩)⟩
        rotate_left
        · exact absurd rfl h
        replace hx7 : IdxAt w7 F7 g7 (ofMarks 20 X.marks) := hx7
        have B7 := nxt B6 b7
        obtain ⟨a8, c8, s8, r8⟩ := part_all a3 bs.length c3 1 0 3 (by omega) (by omega)
        rw [Nat.sub_zero] at s8
        have u8' : ∀ W, (Instr.sliceAt 64 (.slice a3 bs.length c3) none (some (.int .i64 3)) none).run Tryd.prog W = .ok (.slice a8 3 c8) W := fun W => by
          have := run_cut_h 64 sl_u8 1 sz_u8 a3 bs.length c3 3 .i64 (by have := rb3.cap; omega) W
          rw [s8] at this
          exact this
        have rs := r8 w7 _ (rb6.below b7)
        rw [Nat.sub_zero, Nat.zero_mul, Nat.mul_one, List.drop_zero, ← bvs_take] at rs
        have htk : (bs.take 3).length = 3 := by rw [List.length_take]; omega
        have rs' : Rd w7 1 (.slice a8 3 c8) (bs.take 3).length (bvs (bs.take 3)) := by rw [htk]; exact rs
        have hr8 := iread_calls (hS.below B7) hall rs' (by omega)
        unfold IReadPost at hr8
        rw [readIdx_short _ (by omega)] at hr8
        clear hr7 rs s8 r8 htk
        go_wp2_with fail
        refine hr8.mono ?_
        rintro e w8 ⟨b8, (⟨_, _, h, _⟩ | ⟨vh, _, rfl, hvh⟩)⟩
        · exact absurd h (by simp)
        replace hvh : ErRow A w8 vh (.bare 0) := hvh
        have B8 := nxt B7 b8
        have hhA := hvh.at
        obtain ⟨T4, u4, rfl⟩ := hvh.not_nil (by simp)
        clear hr8 rs' u8'
        go_wp2_with fail
        refine (is_calls (hS.below B8) hall _ _ (hvA.below (nxt b7 b8)) 102).mono ?_
        rintro e w9 ⟨rfl, b9⟩
        have B9 := nxt B8 b9
        rw [show decide ((Er.bare 1).code = 102 ∧ (Er.bare 1).has = false ∧ (Er.bare 1).pos = 0) = true by decide]
        have hx9 := hx7.below (nxt b8 b9)
        have hy9 := hx3.below (nxt b5 (nxt b6 (nxt b7 (nxt b8 b9))))
        have hmy := marks_calls hx9 (by simp only [ofMarks]; omega)
        simp only [ofMarks] at hmy
        go_wp2_with fail
        refine hmy.mono ?_
        rintro e w10 ⟨v10, rfl, o10, b10⟩
        obtain ⟨a10, c10, rfl⟩ := owns_slice o10
        have B10 := nxt B9 b10
        have hmx := marks_calls (hy9.below b10) (by omega)
        clear hmy
        go_wp2_with fail
        refine hmx.mono ?_
        rintro e w11 ⟨v11, rfl, o11, b11⟩
        obtain ⟨a11, c11, rfl⟩ := owns_slice o11
        have B11 := nxt B10 b11
        clear hmx
        go_wp2_with fail
        refine (is_calls (hS.below B11) hall _ _ (hhA.below (nxt b9 (nxt b10 b11))) 101).mono ?_
        rintro e w12 ⟨rfl, b12⟩
        rw [show decide ((Er.bare 0).code = 101 ∧ (Er.bare 0).has = false ∧ (Er.bare 0).pos = 0) = true by decide]
        have B12 := nxt B11 b12
        go_wp2_with fail
        go_ret
        exact ⟨rfl, B12⟩
end Go.Proofs.YtjhebnjajnjhhaaDoor
